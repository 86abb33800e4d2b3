/- Functions of the program as the abstract machine has them. Conditions: none. -/
import Derived.Test.YtahalmofaboejaaGreatMD
import Derived.Test.YtahalmofaboejaaGreatProg
import Derived.Test.YtahalmofaboejaaGreatPA

set_option linter.unusedVariables false
set_option linter.unusedSimpArgs false

/- The numbers of the functions. -/
section
namespace Go.Rt
@[reducible] noncomputable def prog : Program := Go.Proofs.Tryz.prog
@[reducible] def n_rl19_OrderTells : FuncId := 3
@[reducible] def n_rl20_DsgEdges : FuncId := 4
@[reducible] def n_rl20_DsgChains : FuncId := 5
@[reducible] def n_rl20_DsgSerial : FuncId := 6
@[reducible] def n_rl20_DsgOthers : FuncId := 7
@[reducible] def n_rl19_awake : FuncId := 8
@[reducible] def n_rr18_Small : FuncId := 9
@[reducible] def n_order_Read : FuncId := 10
@[reducible] def n_rr18_Well : FuncId := 11
@[reducible] def n_rr10_Ints : FuncId := 12
@[reducible] def n_order_Book_Committed : FuncId := 13
@[reducible] def n_rr19_Committed : FuncId := 14
@[reducible] def n_rr03_Size : FuncId := 15
@[reducible] def n_order_Book_Row : FuncId := 16
@[reducible] def n_rr19_Row : FuncId := 17
@[reducible] def n_rr02_Same : FuncId := 18
@[reducible] def n_order_Book_Level : FuncId := 19
@[reducible] def n_rr19_Level : FuncId := 20
@[reducible] def n_rr19_Versions : FuncId := 21
@[reducible] def n_order_Book_Chain : FuncId := 22
@[reducible] def n_rr19_Chain : FuncId := 23
@[reducible] def n_order_Book_Place : FuncId := 24
@[reducible] def n_rr19_Place : FuncId := 25
@[reducible] def n_order_Book_Changes : FuncId := 26
@[reducible] def n_rr19_Changes : FuncId := 27
@[reducible] def n_rl20_awake : FuncId := 28
@[reducible] def n_rr20_Same : FuncId := 29
@[reducible] def n_dsg_Edges : FuncId := 30
@[reducible] def n_rr20_Edges : FuncId := 31
@[reducible] def n_rl20_newest : FuncId := 32
@[reducible] def n_rr18_Committed : FuncId := 33
@[reducible] def n_rr18_flat : FuncId := 34
@[reducible] def n_hist_Check : FuncId := 35
@[reducible] def n_row_Clone : FuncId := 36
@[reducible] def n_slices_Sort_int_int : FuncId := 37
@[reducible] def n_rr18_tables : FuncId := 38
@[reducible] def n_rr18_event : FuncId := 39
@[reducible] def n_rr18_installed : FuncId := 40
@[reducible] def n_rr18_install : FuncId := 41
@[reducible] def n_slices_Clone_int_int : FuncId := 42
@[reducible] def n_rr18_Txns : FuncId := 43
@[reducible] def n_order_Book_chain : FuncId := 44
@[reducible] def n_rr18_Writes : FuncId := 45
@[reducible] def n_slices_IndexFunc_api_Version_api_Version : FuncId := 46
@[reducible] def n_order_Book_Place_1 : FuncId := 47
@[reducible] def n_order_Book_Changes_1 : FuncId := 48
@[reducible] def n_pred_Holds : FuncId := 49
@[reducible] def n_rr19_Holds : FuncId := 50
@[reducible] def n_dsg_graph_writes : FuncId := 51
@[reducible] def n_dsg_graph_read : FuncId := 52
@[reducible] def n_dsg_graph_saw : FuncId := 53
@[reducible] def n_slices_Collect_api_Edge : FuncId := 54
@[reducible] def n_maps_Keys_map_api_Edge_int_api_Edge_int : FuncId := 55
@[reducible] def n_slices_SortFunc_api_Edge_api_Edge : FuncId := 56
@[reducible] def n_dsg_Edges_1 : FuncId := 57
@[reducible] def n_dsg_compare : FuncId := 58
@[reducible] def n_rr20_put : FuncId := 59
@[reducible] def n_rr20_reads : FuncId := 60
@[reducible] def n_rr20_preds : FuncId := 61
@[reducible] def n_rr18_Ended : FuncId := 62
@[reducible] def n_hist_Check_1 : FuncId := 63
@[reducible] def n_hist_checker_frame : FuncId := 64
@[reducible] def n_hist_checker_read : FuncId := 65
@[reducible] def n_hist_checker_saw : FuncId := 66
@[reducible] def n_hist_checker_write : FuncId := 67
@[reducible] def n_hist_checker_order : FuncId := 68
@[reducible] def n_row_Check : FuncId := 69
@[reducible] def n_slices_Clone_api_Row_api_Value : FuncId := 70
@[reducible] def n_slices_pdqsortOrdered_int : FuncId := 71
@[reducible] def n_math_bits_Len : FuncId := 72
@[reducible] def n_rr02_May : FuncId := 73
@[reducible] def n_rr18_frame : FuncId := 74
@[reducible] def n_rr18_read : FuncId := 75
@[reducible] def n_rr18_write : FuncId := 76
@[reducible] def n_rr18_pred : FuncId := 77
@[reducible] def n_pred_Holds_1 : FuncId := 78
@[reducible] def n_pred_leaf : FuncId := 79
@[reducible] def n_slices_ContainsFunc_api_Pred_api_Pred : FuncId := 80
@[reducible] def n_pred_Holds_2 : FuncId := 81
@[reducible] def n_rr03_Holds : FuncId := 82
@[reducible] def n_dsg_graph_chains : FuncId := 83
@[reducible] def n_dsg_graph_put : FuncId := 84
@[reducible] def n_slices_AppendSeq_api_Edge_api_Edge : FuncId := 85
@[reducible] def n_maps_Keys_map_api_Edge_int_api_Edge_int_1 : FuncId := 86
@[reducible] def n_slices_pdqsortCmpFunc_api_Edge : FuncId := 87
@[reducible] def n_value_Compare : FuncId := 88
@[reducible] def n_rr20_Less : FuncId := 89
@[reducible] def n_hist_checker_key : FuncId := 90
@[reducible] def n_hist_checker_version : FuncId := 91
@[reducible] def n_pred_Check : FuncId := 92
@[reducible] def n_row_Fits : FuncId := 93
@[reducible] def n_slices_insertionSortOrdered_int : FuncId := 94
@[reducible] def n_slices_heapSortOrdered_int : FuncId := 95
@[reducible] def n_slices_breakPatternsOrdered_int : FuncId := 96
@[reducible] def n_slices_choosePivotOrdered_int : FuncId := 97
@[reducible] def n_slices_reverseRangeOrdered_int : FuncId := 98
@[reducible] def n_slices_partialInsertionSortOrdered_int : FuncId := 99
@[reducible] def n_cmp_Less_int : FuncId := 100
@[reducible] def n_slices_partitionEqualOrdered_int : FuncId := 101
@[reducible] def n_slices_partitionOrdered_int : FuncId := 102
@[reducible] def n_math_bits_Len32 : FuncId := 103
@[reducible] def n_math_bits_Len64 : FuncId := 104
@[reducible] def n_rr18_key : FuncId := 105
@[reducible] def n_rr18_version : FuncId := 106
@[reducible] def n_rr02_Fits : FuncId := 107
@[reducible] def n_rr03_May : FuncId := 108
@[reducible] def n_rr01_Compare : FuncId := 109
@[reducible] def n_slices_IndexFunc_api_Pred_api_Pred : FuncId := 110
@[reducible] def n_rr03_leaf : FuncId := 111
@[reducible] def n_dsg_graph_chains_1 : FuncId := 112
@[reducible] def n_slices_insertionSortCmpFunc_api_Edge : FuncId := 113
@[reducible] def n_slices_heapSortCmpFunc_api_Edge : FuncId := 114
@[reducible] def n_slices_breakPatternsCmpFunc_api_Edge : FuncId := 115
@[reducible] def n_slices_choosePivotCmpFunc_api_Edge : FuncId := 116
@[reducible] def n_slices_reverseRangeCmpFunc_api_Edge : FuncId := 117
@[reducible] def n_slices_partialInsertionSortCmpFunc_api_Edge : FuncId := 118
@[reducible] def n_slices_partitionEqualCmpFunc_api_Edge : FuncId := 119
@[reducible] def n_slices_partitionCmpFunc_api_Edge : FuncId := 120
@[reducible] def n_cmp_Compare_string : FuncId := 121
@[reducible] def n_cmp_Compare_int64 : FuncId := 122
@[reducible] def n_value_Right : FuncId := 123
@[reducible] def n_pred_checker_part : FuncId := 124
@[reducible] def n_pred_each : FuncId := 125
@[reducible] def n_pred_Size : FuncId := 126
@[reducible] def n_slices_siftDownOrdered_int : FuncId := 127
@[reducible] def n_slices_nextPowerOfTwo : FuncId := 128
@[reducible] def n_slices_xorshift_Next : FuncId := 129
@[reducible] def n_slices_medianAdjacentOrdered_int : FuncId := 130
@[reducible] def n_slices_medianOrdered_int : FuncId := 131
@[reducible] def n_cmp_isNaN_int : FuncId := 132
@[reducible] def n_rr01_Right : FuncId := 133
@[reducible] def n_rr03_part : FuncId := 134
@[reducible] def n_slices_siftDownCmpFunc_api_Edge : FuncId := 135
@[reducible] def n_slices_medianAdjacentCmpFunc_api_Edge : FuncId := 136
@[reducible] def n_slices_medianCmpFunc_api_Edge : FuncId := 137
@[reducible] def n_cmp_isNaN_string : FuncId := 138
@[reducible] def n_cmp_isNaN_int64 : FuncId := 139
@[reducible] def n_pred_checker_of : FuncId := 140
@[reducible] def n_pred_Size_1 : FuncId := 141
@[reducible] def n_slices_order2Ordered_int : FuncId := 142
@[reducible] def n_rr03_col : FuncId := 143
@[reducible] def n_slices_order2CmpFunc_api_Edge : FuncId := 144
@[reducible] def n_api_Errno_Error : FuncId := 160
end Go.Rt
end

/- Functions as the abstract machine has them (printed by GenW.lean). -/
section
namespace Go.Rt
open Go.Vm
/- rl19_awake -/
@[simp] def rl19_awake_r0 : List VOp :=
  [(oo 0 (.mov (.const (kb false))))]
@[simp] def rl19_awake_r1 : List VOp :=
  [(oo 5 (.build [zb, zi, zs] [(1, 1, (.const (ki 5)))])),
   (oo 1 (.alloc [zb, zi, zs])),
   (on (.st (.tmp 1) (.tmp 5) 3))]
@[simp] def rl19_awake_r2 : List VOp :=
  [(oo 2 (.nils 22))]
@[simp] def rl19_awake_r3 : List VOp :=
  [(oo 6 (.mov (.tmp 2))),
   (oo 7 (.build [zi, zi, zi, zi, zb, zi, zs, zi, zi, zi, .nil 3, zi, zi, zb, zi, zs, zb, zi, zs, .nil 9, .nil 5, zb] [(0, 1, (.const (ki 1))), (1, 1, (.const (ki 1))), (2, 1, (.const (ki 1)))])),
   (oo 8 (.build [zi, zi, zi, zi, zb, zi, zs, zi, zi, zi, .nil 3, zi, zi, zb, zi, zs, zb, zi, zs, .nil 9, .nil 5, zb] [(0, 1, (.const (ki 2))), (1, 1, (.const (ki 1))), (2, 1, (.const (ki 2)))])),
   (oo 9 (.lit 22 2 [(0, (.tmp 7)), (1, (.tmp 8))])),
   (oo 10 (.app 22 248 (.tmp 6) (.tmp 9))),
   (oo 2 (.mov (.tmp 10)))]
@[simp] def rl19_awake_r4 : List VOp :=
  [(oo 11 (.mov (.tmp 2))),
   (oo 12 (.ld (.tmp 1) (some 3))),
   (oo 13 (.ld (.tmp 1) (some 3))),
   (oo 14 (.lit 3 1 [(0, (.tmp 13))])),
   (oo 15 (.build [zi, zi, zi, zi, zb, zi, zs, zi, zi, zi, .nil 3, zi, zi, zb, zi, zs, zb, zi, zs, .nil 9, .nil 5, zb] [(0, 1, (.const (ki 1))), (1, 1, (.const (ki 3))), (4, 3, (.tmp 12)), (9, 1, (.const (ki 1))), (10, 1, (.tmp 14))])),
   (oo 16 (.ld (.tmp 1) (some 3))),
   (oo 17 (.build [zi, zi, zi, zi, zb, zi, zs, zi, zi, zi, .nil 3, zi, zi, zb, zi, zs, zb, zi, zs, .nil 9, .nil 5, zb] [(0, 1, (.const (ki 1))), (1, 1, (.const (ki 3))), (4, 3, (.tmp 16)), (9, 1, (.const (ki 2)))])),
   (oo 18 (.lit 22 2 [(0, (.tmp 15)), (1, (.tmp 17))])),
   (oo 19 (.app 22 248 (.tmp 11) (.tmp 18))),
   (oo 2 (.mov (.tmp 19)))]
@[simp] def rl19_awake_r5 : List VOp :=
  [(oo 20 (.mov (.tmp 2))),
   (oo 21 (.ld (.tmp 1) (some 3))),
   (oo 22 (.ld (.tmp 1) (some 3))),
   (oo 23 (.lit 3 1 [(0, (.tmp 22))])),
   (oo 24 (.build [zi, zi, zi, zi, zb, zi, zs, zi, zi, zi, .nil 3, zi, zi, zb, zi, zs, zb, zi, zs, .nil 9, .nil 5, zb] [(0, 1, (.const (ki 2))), (1, 1, (.const (ki 3))), (4, 3, (.tmp 21)), (9, 1, (.const (ki 1))), (10, 1, (.tmp 23))])),
   (oo 25 (.build [zi, zi, zi, zi, zb, zi, zs, zi, zi, zi, .nil 3, zi, zi, zb, zi, zs, zb, zi, zs, .nil 9, .nil 5, zb] [(0, 1, (.const (ki 1))), (1, 1, (.const (ki 5)))])),
   (oo 26 (.build [zi, zi, zi, zi, zb, zi, zs, zi, zi, zi, .nil 3, zi, zi, zb, zi, zs, zb, zi, zs, .nil 9, .nil 5, zb] [(0, 1, (.const (ki 2))), (1, 1, (.const (ki 5)))])),
   (oo 27 (.lit 22 3 [(0, (.tmp 24)), (1, (.tmp 25)), (2, (.tmp 26))])),
   (oo 28 (.app 22 248 (.tmp 20) (.tmp 27))),
   (oo 2 (.mov (.tmp 28)))]
@[simp] def rl19_awake_r6 : List VOp :=
  [(oo 29 (.lit 1 1 [(0, (.const (kb false)))])),
   (oo 30 (.build [.nil 1] [(0, 1, (.tmp 29))])),
   (oo 31 (.lit 1 1 [(0, (.tmp 30))])),
   (oo 32 (.mov (.tmp 2))),
   (oo 33 (.ld (.tmp 1) (some 3))),
   (oo 34 (.lit 1 2 [(0, (.const (ki 2))), (1, (.const (ki 1)))])),
   (oo 35 (.build [zi, zb, zi, zs, .nil 1] [(1, 3, (.tmp 33)), (4, 1, (.tmp 34))])),
   (oo 36 (.lit 5 1 [(0, (.tmp 35))])),
   (oo 37 (.build [.nil 1, .nil 22, .nil 5] [(0, 1, (.tmp 31)), (1, 1, (.tmp 32)), (2, 1, (.tmp 36))])),
   (oo 38 (.call n_order_Read [(.tmp 37)])),
   (oo 3 (.mov (.tmp 38)))]
@[simp] def rl19_awake_r7 : List VOp :=
  [(oo 39 (.mov (.tmp 3))),
   (oo 40 (.ld (.tmp 1) (some 3))),
   (oo 41 (.call n_order_Book_Chain [(.tmp 39), (.const (ki 0)), (.tmp 40)])),
   (oo 4 (.mov (.tmp 41)))]
@[simp] def rl19_awake_r8 : List VOp :=
  [(oo 42 (.mov (.tmp 3))),
   (oo 43 (.peq true (.tmp 42) (.const (.pointer none)))),
   (oo 44 (.mov (.tmp 43))),
   (og 45 44 true (.mov (.tmp 4))),
   (og 46 44 true (.len (.tmp 45))),
   (og 47 44 true (.bin .eql (.tmp 46) (.const (ki 3)))),
   (oo 48 (.pick (.tmp 44) (.tmp 47) (.const (kb false)))),
   (oo 49 (.mov (.tmp 48))),
   (og 50 49 true (.mov (.tmp 4))),
   (og 51 49 true (.ia 2 (.tmp 50) (.const (ki 1)))),
   (og 52 49 true (.ld (.tmp 51) (some 2))),
   (og 53 49 true (.build [zi, zi] [(0, 1, (.const (ki 2))), (1, 1, (.const (ki 1)))])),
   (og 54 49 true (.eqs false [.i .i64, .i .i64] (.tmp 52) (.tmp 53))),
   (oo 55 (.pick (.tmp 49) (.tmp 54) (.const (kb false)))),
   (oo 56 (.mov (.tmp 55))),
   (og 57 56 true (.mov (.tmp 4))),
   (og 58 56 true (.ia 2 (.tmp 57) (.const (ki 2)))),
   (og 59 56 true (.ld (.tmp 58) (some 2))),
   (og 60 56 true (.build [zi, zi] [(0, 1, (.const (ki 1))), (1, 1, (.const (ki 2)))])),
   (og 61 56 true (.eqs false [.i .i64, .i .i64] (.tmp 59) (.tmp 60))),
   (oo 62 (.pick (.tmp 56) (.tmp 61) (.const (kb false)))),
   (oo 63 (.mov (.tmp 62))),
   (og 64 63 true (.mov (.tmp 3))),
   (og 65 63 true (.ld (.tmp 1) (some 3))),
   (og 66 63 true (.build [zi, zi] [(0, 1, (.const (ki 1))), (1, 1, (.const (ki 1)))])),
   (og 67 63 true (.call n_order_Book_Place [(.tmp 64), (.const (ki 0)), (.tmp 65), (.tmp 66)])),
   (og 68 63 true (.bin .eql (.tmp 67) (.const (ki 2)))),
   (oo 69 (.pick (.tmp 63) (.tmp 68) (.const (kb false)))),
   (oo 70 (.mov (.tmp 69))),
   (og 71 70 true (.mov (.tmp 3))),
   (og 72 70 true (.call n_order_Book_Level [(.tmp 71), (.const (ki 2))])),
   (og 73 70 true (.bin .eql (.tmp 72) (.const (ki 2)))),
   (oo 74 (.pick (.tmp 70) (.tmp 73) (.const (kb false)))),
   (oo 75 (.mov (.tmp 74))),
   (og 76 75 true (.mov (.tmp 3))),
   (og 77 75 true (.ld (.tmp 1) (some 3))),
   (og 78 75 true (.build [zi, zi, zb, zi, zs, zb, zi, zs, .nil 9] [(0, 1, (.const (ki 1)))])),
   (og 79 75 true (.call n_order_Book_Changes [(.tmp 76), (.const (ki 0)), (.tmp 77), (.const (ki 2)), (.tmp 78)])),
   (oo 80 (.pick (.tmp 75) (.tmp 79) (.const (kb false)))),
   (oo 0 (.mov (.tmp 80)))]
def rl19_awake : VCode := (.seq (.reg rl19_awake_r0) (.seq (.reg rl19_awake_r1) (.seq (.reg rl19_awake_r2) (.seq (.reg rl19_awake_r3) (.seq (.reg rl19_awake_r4) (.seq (.reg rl19_awake_r5) (.seq (.reg rl19_awake_r6) (.seq (.reg rl19_awake_r7) (.seq (.reg rl19_awake_r8) .ret)))))))))
theorem rl19_awake_is : fnV prog n_rl19_awake = some (81, rl19_awake, [.tmp 0]) := by kernel_rfl
/- rr18_Small -/
@[simp] def rr18_Small_r0 : List VOp :=
  [(oo 1 (.box (.tmp 0))),
   (oo 2 (.mov (.const (kb false))))]
@[simp] def rr18_Small_r1 : List VOp :=
  [(oo 6 (.fa 0 (.tmp 1))),
   (oo 7 (.ld (.tmp 6) none)),
   (oo 8 (.len (.tmp 7))),
   (oo 9 (.bin .gtr (.tmp 8) (.const (ki 6)))),
   (oo 10 (.mov (.tmp 9))),
   (og 11 10 false (.fa 1 (.tmp 1))),
   (og 12 10 false (.ld (.tmp 11) none)),
   (og 13 10 false (.len (.tmp 12))),
   (og 14 10 false (.bin .gtr (.tmp 13) (.const (ki 60)))),
   (oo 15 (.pick (.tmp 10) (.const (kb true)) (.tmp 14))),
   (oo 16 (.mov (.tmp 15))),
   (og 17 16 false (.fa 2 (.tmp 1))),
   (og 18 16 false (.ld (.tmp 17) none)),
   (og 19 16 false (.len (.tmp 18))),
   (og 20 16 false (.bin .gtr (.tmp 19) (.const (ki 30)))),
   (oo 21 (.pick (.tmp 16) (.const (kb true)) (.tmp 20)))]
@[simp] def rr18_Small_r2 : List VOp :=
  [(oo 2 (.mov (.const (kb false))))]
@[simp] def rr18_Small_r3 : List VOp :=
  [(oo 3 (.mov (.const (ki 0))))]
@[simp] def rr18_Small_r4 : List VOp :=
  [(oo 22 (.mov (.tmp 3))),
   (oo 23 (.fa 1 (.tmp 1))),
   (oo 24 (.ld (.tmp 23) none)),
   (oo 25 (.len (.tmp 24))),
   (oo 26 (.bin .lss (.tmp 22) (.tmp 25)))]
@[simp] def rr18_Small_r5 : List VOp :=
  [(oo 29 (.fa 1 (.tmp 1))),
   (oo 30 (.ld (.tmp 29) none)),
   (oo 31 (.mov (.tmp 3))),
   (oo 32 (.ia 22 (.tmp 30) (.tmp 31))),
   (oo 33 (.ld (.tmp 32) (some 22))),
   (oo 4 (.alloc [zi, zi, zi, zi, zb, zi, zs, zi, zi, zi, .nil 3, zi, zi, zb, zi, zs, zb, zi, zs, .nil 9, .nil 5, zb])),
   (on (.st (.tmp 4) (.tmp 33) 22))]
@[simp] def rr18_Small_r6 : List VOp :=
  [(oo 34 (.fa 20 (.tmp 4))),
   (oo 35 (.ld (.tmp 34) none)),
   (oo 36 (.len (.tmp 35))),
   (oo 37 (.bin .gtr (.tmp 36) (.const (ki 12)))),
   (oo 38 (.mov (.tmp 37))),
   (og 39 38 false (.fa 10 (.tmp 4))),
   (og 40 38 false (.ld (.tmp 39) none)),
   (og 41 38 false (.len (.tmp 40))),
   (og 42 38 false (.bin .gtr (.tmp 41) (.const (ki 12)))),
   (oo 43 (.pick (.tmp 38) (.const (kb true)) (.tmp 42))),
   (oo 44 (.mov (.tmp 43))),
   (og 45 44 false (.fa 11 (.tmp 4))),
   (og 46 44 false (.ld (.tmp 45) (some 9))),
   (og 47 44 false (.call n_rr18_flat [(.tmp 46), (.const (ki 0))])),
   (og 48 44 false (.un .not (.tmp 47))),
   (oo 49 (.pick (.tmp 44) (.const (kb true)) (.tmp 48)))]
@[simp] def rr18_Small_r7 : List VOp :=
  [(oo 2 (.mov (.const (kb false))))]
@[simp] def rr18_Small_r8 : List VOp :=
  [(oo 27 (.mov (.tmp 3))),
   (oo 28 (.bin .add (.tmp 27) (.const (ki 1)))),
   (oo 3 (.mov (.tmp 28)))]
def rr18_Small_l9 : VCode :=
  (.seq (.seq (.reg rr18_Small_r4) (.cond (.tmp 26) .skip (.exit 0))) (.seq (.block 1 (.seq (.reg rr18_Small_r5) (.seq (.reg rr18_Small_r6) (.cond (.tmp 49) (.seq (.reg rr18_Small_r7) .ret) .skip)))) (.reg rr18_Small_r8)))
@[simp] def rr18_Small_r10 : List VOp :=
  [(oo 5 (.mov (.const (ki 0))))]
@[simp] def rr18_Small_r11 : List VOp :=
  [(oo 50 (.mov (.tmp 5))),
   (oo 51 (.fa 2 (.tmp 1))),
   (oo 52 (.ld (.tmp 51) none)),
   (oo 53 (.len (.tmp 52))),
   (oo 54 (.bin .lss (.tmp 50) (.tmp 53)))]
@[simp] def rr18_Small_r12 : List VOp :=
  [(oo 57 (.fa 2 (.tmp 1))),
   (oo 58 (.ld (.tmp 57) none)),
   (oo 59 (.mov (.tmp 5))),
   (oo 60 (.ia 5 (.tmp 58) (.tmp 59))),
   (oo 61 (.fa 4 (.tmp 60))),
   (oo 62 (.ld (.tmp 61) none)),
   (oo 63 (.len (.tmp 62))),
   (oo 64 (.bin .gtr (.tmp 63) (.const (ki 20))))]
@[simp] def rr18_Small_r13 : List VOp :=
  [(oo 2 (.mov (.const (kb false))))]
@[simp] def rr18_Small_r14 : List VOp :=
  [(oo 55 (.mov (.tmp 5))),
   (oo 56 (.bin .add (.tmp 55) (.const (ki 1)))),
   (oo 5 (.mov (.tmp 56)))]
def rr18_Small_l15 : VCode :=
  (.seq (.seq (.reg rr18_Small_r11) (.cond (.tmp 54) .skip (.exit 2))) (.seq (.block 3 (.seq (.reg rr18_Small_r12) (.cond (.tmp 64) (.seq (.reg rr18_Small_r13) .ret) .skip))) (.reg rr18_Small_r14)))
@[simp] def rr18_Small_r16 : List VOp :=
  [(oo 2 (.mov (.const (kb true))))]
def rr18_Small : VCode := (.seq (.reg rr18_Small_r0) (.seq (.seq (.reg rr18_Small_r1) (.cond (.tmp 21) (.seq (.reg rr18_Small_r2) .ret) .skip)) (.seq (.seq (.reg rr18_Small_r3) (.block 0 (.loop rr18_Small_l9))) (.seq (.seq (.reg rr18_Small_r10) (.block 2 (.loop rr18_Small_l15))) (.seq (.reg rr18_Small_r16) .ret)))))
theorem rr18_Small_is : fnV prog n_rr18_Small = some (65, rr18_Small, [.tmp 2]) := by kernel_rfl
/- order_Read -/
@[simp] def order_Read_r0 : List VOp :=
  [(oo 1 (.box (.tmp 0))),
   (oo 2 (.mov (.const (.pointer none))))]
@[simp] def order_Read_r1 : List VOp :=
  [(oo 13 (.ld (.tmp 1) (some 3))),
   (oo 14 (.call n_hist_Check [(.tmp 13)])),
   (oo 15 (.bin .neq (.tmp 14) (.const (ki 0))))]
@[simp] def order_Read_r2 : List VOp :=
  [(oo 2 (.mov (.const (.pointer none))))]
@[simp] def order_Read_r3 : List VOp :=
  [(oo 16 (.mkmap (false, [.i .i64], false))),
   (oo 17 (.mkmap (true, [.i .i64, .b, .i .i64, .s, .i .i64, .i .i64], false))),
   (oo 18 (.mkmap (true, [.i .i64, .b, .i .i64, .s, .i .i64, .i .i64], false))),
   (oo 19 (.mkmap (true, [.i .i64, .b, .i .i64, .s], false))),
   (oo 20 (.build [.iv (.v (.map none)), .nil 1, .iv (.v (.map none)), .iv (.v (.map none)), .iv (.v (.map none))] [(0, 1, (.tmp 16)), (2, 1, (.tmp 17)), (3, 1, (.tmp 18)), (4, 1, (.tmp 19))])),
   (oo 21 (.box (.tmp 20))),
   (oo 3 (.mov (.tmp 21)))]
@[simp] def order_Read_r4 : List VOp :=
  [(oo 22 (.fa 1 (.tmp 1))),
   (oo 23 (.ld (.tmp 22) none)),
   (oo 24 (.len (.tmp 23))),
   (oo 25 (.mov (.const (ki 0))))]
@[simp] def order_Read_r5 : List VOp :=
  [(oo 26 (.bin .lss (.tmp 25) (.tmp 24)))]
@[simp] def order_Read_r6 : List VOp :=
  [(oo 27 (.ia 22 (.tmp 23) (.tmp 25))),
   (oo 28 (.ld (.tmp 27) (some 22))),
   (oo 5 (.alloc [zi, zi, zi, zi, zb, zi, zs, zi, zi, zi, .nil 3, zi, zi, zb, zi, zs, zb, zi, zs, .nil 9, .nil 5, zb])),
   (on (.st (.tmp 5) (.tmp 28) 22))]
@[simp] def order_Read_r7 : List VOp :=
  [(oo 29 (.fa 3 (.tmp 5))),
   (oo 30 (.ld (.tmp 29) none)),
   (oo 31 (.fa 4 (.tmp 5))),
   (oo 32 (.ld (.tmp 31) (some 3))),
   (oo 33 (.build [zi, zb, zi, zs] [(0, 1, (.tmp 30)), (1, 3, (.tmp 32))])),
   (oo 6 (.alloc [zi, zb, zi, zs])),
   (on (.st (.tmp 6) (.tmp 33) 4))]
@[simp] def order_Read_r8 : List VOp :=
  [(oo 34 (.fa 1 (.tmp 5))),
   (oo 35 (.ld (.tmp 34) none))]
@[simp] def order_Read_r9 : List VOp :=
  [(oo 37 (.bin .eql (.tmp 35) (.const (ki 1)))),
   (oo 36 (.mov (.tmp 37)))]
@[simp] def order_Read_t10 : VT :=
  .op (oo 38 (.mov (.tmp 3))) <|
  .op (oo 39 (.chk (.tmp 38))) <|
  .op (oo 40 (.fa 0 (.tmp 39))) <|
  .op (oo 41 (.ld (.tmp 40) none)) <|
  .op (oo 42 (.fa 0 (.tmp 5))) <|
  .op (oo 43 (.ld (.tmp 42) none)) <|
  .op (oo 44 (.fa 2 (.tmp 5))) <|
  .op (oo 45 (.ld (.tmp 44) none)) <|
  .op (on (.mset (false, [.i .i64], false) (.tmp 41) (.tmp 43) (.tmp 45))) <|
  .done
@[simp] def order_Read_r11 : List VOp :=
  [(oo 47 (.bin .eql (.tmp 35) (.const (ki 5)))),
   (oo 46 (.mov (.tmp 47)))]
@[simp] def order_Read_t12 : VT :=
  .op (oo 48 (.mov (.tmp 3))) <|
  .op (oo 49 (.mov (.tmp 3))) <|
  .op (oo 50 (.chk (.tmp 49))) <|
  .op (oo 51 (.fa 1 (.tmp 50))) <|
  .op (oo 52 (.ld (.tmp 51) none)) <|
  .op (oo 53 (.fa 0 (.tmp 5))) <|
  .op (oo 54 (.ld (.tmp 53) none)) <|
  .op (oo 55 (.lit 1 1 [(0, (.tmp 54))])) <|
  .op (oo 56 (.app 1 8 (.tmp 52) (.tmp 55))) <|
  .op (oo 57 (.chk (.tmp 48))) <|
  .op (oo 58 (.fa 1 (.tmp 57))) <|
  .op (on (.st (.tmp 58) (.tmp 56) 1)) <|
  .done
@[simp] def order_Read_r13 : List VOp :=
  [(oo 60 (.bin .eql (.tmp 35) (.const (ki 3)))),
   (oo 59 (.mov (.tmp 60)))]
@[simp] def order_Read_s0 : VT :=
  .op (oo 69 (.ld (.tmp 68) none)) <|
  .op (oo 70 (.build [zi, zi] [(0, 1, (.tmp 67)), (1, 1, (.tmp 69))])) <|
  .op (oo 71 (.build [zi, zb, zi, zs, zi, zi] [(0, 4, (.tmp 65)), (4, 2, (.tmp 70))])) <|
  .op (oo 74 (.call n_row_Clone [(.tmp 73)])) <|
  .op (on (.mset (true, [.i .i64, .b, .i .i64, .s, .i .i64, .i .i64], false) (.tmp 64) (.tmp 71) (.tmp 74))) <|
  .done
@[simp] def order_Read_s1 : VT :=
  .op (oo 74 (.call n_row_Clone [(.tmp 73)])) <|
  .op (oo 69 (.ld (.tmp 68) none)) <|
  .op (oo 70 (.build [zi, zi] [(0, 1, (.tmp 67)), (1, 1, (.tmp 69))])) <|
  .op (oo 71 (.build [zi, zb, zi, zs, zi, zi] [(0, 4, (.tmp 65)), (4, 2, (.tmp 70))])) <|
  .op (on (.mset (true, [.i .i64, .b, .i .i64, .s, .i .i64, .i .i64], false) (.tmp 64) (.tmp 71) (.tmp 74))) <|
  .done
@[simp] def order_Read_s2 : VT :=
  .op (oo 67 (.ld (.tmp 66) none)) <|
  .alt (order_Read_s0) (order_Read_s1)
@[simp] def order_Read_s3 : VT :=
  .op (oo 67 (.ld (.tmp 66) none)) <|
  .op (oo 70 (.build [zi, zi] [(0, 1, (.tmp 67)), (1, 1, (.tmp 69))])) <|
  .op (oo 71 (.build [zi, zb, zi, zs, zi, zi] [(0, 4, (.tmp 65)), (4, 2, (.tmp 70))])) <|
  .op (oo 74 (.call n_row_Clone [(.tmp 73)])) <|
  .op (on (.mset (true, [.i .i64, .b, .i .i64, .s, .i .i64, .i .i64], false) (.tmp 64) (.tmp 71) (.tmp 74))) <|
  .done
@[simp] def order_Read_s4 : VT :=
  .op (oo 74 (.call n_row_Clone [(.tmp 73)])) <|
  .op (oo 67 (.ld (.tmp 66) none)) <|
  .op (oo 70 (.build [zi, zi] [(0, 1, (.tmp 67)), (1, 1, (.tmp 69))])) <|
  .op (oo 71 (.build [zi, zb, zi, zs, zi, zi] [(0, 4, (.tmp 65)), (4, 2, (.tmp 70))])) <|
  .op (on (.mset (true, [.i .i64, .b, .i .i64, .s, .i .i64, .i .i64], false) (.tmp 64) (.tmp 71) (.tmp 74))) <|
  .done
@[simp] def order_Read_s5 : VT :=
  .op (oo 69 (.ld (.tmp 68) none)) <|
  .alt (order_Read_s3) (order_Read_s4)
@[simp] def order_Read_s6 : VT :=
  .op (oo 74 (.call n_row_Clone [(.tmp 73)])) <|
  .op (oo 67 (.ld (.tmp 66) none)) <|
  .op (oo 69 (.ld (.tmp 68) none)) <|
  .op (oo 70 (.build [zi, zi] [(0, 1, (.tmp 67)), (1, 1, (.tmp 69))])) <|
  .op (oo 71 (.build [zi, zb, zi, zs, zi, zi] [(0, 4, (.tmp 65)), (4, 2, (.tmp 70))])) <|
  .op (on (.mset (true, [.i .i64, .b, .i .i64, .s, .i .i64, .i .i64], false) (.tmp 64) (.tmp 71) (.tmp 74))) <|
  .done
@[simp] def order_Read_s7 : VT :=
  .op (oo 65 (.ld (.tmp 6) (some 4))) <|
  .alt (order_Read_s2) (  .alt (order_Read_s5) (order_Read_s6))
@[simp] def order_Read_s8 : VT :=
  .op (oo 65 (.ld (.tmp 6) (some 4))) <|
  .alt (order_Read_s0) (order_Read_s1)
@[simp] def order_Read_s9 : VT :=
  .op (oo 65 (.ld (.tmp 6) (some 4))) <|
  .op (oo 71 (.build [zi, zb, zi, zs, zi, zi] [(0, 4, (.tmp 65)), (4, 2, (.tmp 70))])) <|
  .op (oo 74 (.call n_row_Clone [(.tmp 73)])) <|
  .op (on (.mset (true, [.i .i64, .b, .i .i64, .s, .i .i64, .i .i64], false) (.tmp 64) (.tmp 71) (.tmp 74))) <|
  .done
@[simp] def order_Read_s10 : VT :=
  .op (oo 74 (.call n_row_Clone [(.tmp 73)])) <|
  .op (oo 65 (.ld (.tmp 6) (some 4))) <|
  .op (oo 71 (.build [zi, zb, zi, zs, zi, zi] [(0, 4, (.tmp 65)), (4, 2, (.tmp 70))])) <|
  .op (on (.mset (true, [.i .i64, .b, .i .i64, .s, .i .i64, .i .i64], false) (.tmp 64) (.tmp 71) (.tmp 74))) <|
  .done
@[simp] def order_Read_s11 : VT :=
  .op (oo 69 (.ld (.tmp 68) none)) <|
  .op (oo 70 (.build [zi, zi] [(0, 1, (.tmp 67)), (1, 1, (.tmp 69))])) <|
  .alt (order_Read_s9) (order_Read_s10)
@[simp] def order_Read_s12 : VT :=
  .op (oo 74 (.call n_row_Clone [(.tmp 73)])) <|
  .op (oo 65 (.ld (.tmp 6) (some 4))) <|
  .op (oo 69 (.ld (.tmp 68) none)) <|
  .op (oo 70 (.build [zi, zi] [(0, 1, (.tmp 67)), (1, 1, (.tmp 69))])) <|
  .op (oo 71 (.build [zi, zb, zi, zs, zi, zi] [(0, 4, (.tmp 65)), (4, 2, (.tmp 70))])) <|
  .op (on (.mset (true, [.i .i64, .b, .i .i64, .s, .i .i64, .i .i64], false) (.tmp 64) (.tmp 71) (.tmp 74))) <|
  .done
@[simp] def order_Read_s13 : VT :=
  .op (oo 67 (.ld (.tmp 66) none)) <|
  .alt (order_Read_s8) (  .alt (order_Read_s11) (order_Read_s12))
@[simp] def order_Read_s14 : VT :=
  .op (oo 65 (.ld (.tmp 6) (some 4))) <|
  .alt (order_Read_s3) (order_Read_s4)
@[simp] def order_Read_s15 : VT :=
  .op (oo 67 (.ld (.tmp 66) none)) <|
  .op (oo 70 (.build [zi, zi] [(0, 1, (.tmp 67)), (1, 1, (.tmp 69))])) <|
  .alt (order_Read_s9) (order_Read_s10)
@[simp] def order_Read_s16 : VT :=
  .op (oo 74 (.call n_row_Clone [(.tmp 73)])) <|
  .op (oo 65 (.ld (.tmp 6) (some 4))) <|
  .op (oo 67 (.ld (.tmp 66) none)) <|
  .op (oo 70 (.build [zi, zi] [(0, 1, (.tmp 67)), (1, 1, (.tmp 69))])) <|
  .op (oo 71 (.build [zi, zb, zi, zs, zi, zi] [(0, 4, (.tmp 65)), (4, 2, (.tmp 70))])) <|
  .op (on (.mset (true, [.i .i64, .b, .i .i64, .s, .i .i64, .i .i64], false) (.tmp 64) (.tmp 71) (.tmp 74))) <|
  .done
@[simp] def order_Read_s17 : VT :=
  .op (oo 69 (.ld (.tmp 68) none)) <|
  .alt (order_Read_s14) (  .alt (order_Read_s15) (order_Read_s16))
@[simp] def order_Read_s18 : VT :=
  .op (oo 74 (.call n_row_Clone [(.tmp 73)])) <|
  .op (oo 65 (.ld (.tmp 6) (some 4))) <|
  .op (oo 67 (.ld (.tmp 66) none)) <|
  .op (oo 69 (.ld (.tmp 68) none)) <|
  .op (oo 70 (.build [zi, zi] [(0, 1, (.tmp 67)), (1, 1, (.tmp 69))])) <|
  .op (oo 71 (.build [zi, zb, zi, zs, zi, zi] [(0, 4, (.tmp 65)), (4, 2, (.tmp 70))])) <|
  .op (on (.mset (true, [.i .i64, .b, .i .i64, .s, .i .i64, .i .i64], false) (.tmp 64) (.tmp 71) (.tmp 74))) <|
  .done
@[simp] def order_Read_s19 : VT :=
  .alt (order_Read_s13) (  .alt (order_Read_s17) (order_Read_s18))
@[simp] def order_Read_s20 : VT :=
  .op (oo 64 (.ld (.tmp 63) none)) <|
  .alt (order_Read_s7) (order_Read_s19)
@[simp] def order_Read_s21 : VT :=
  .op (oo 64 (.ld (.tmp 63) none)) <|
  .alt (order_Read_s2) (  .alt (order_Read_s5) (order_Read_s6))
@[simp] def order_Read_s22 : VT :=
  .op (oo 64 (.ld (.tmp 63) none)) <|
  .alt (order_Read_s0) (order_Read_s1)
@[simp] def order_Read_s23 : VT :=
  .op (oo 64 (.ld (.tmp 63) none)) <|
  .op (oo 74 (.call n_row_Clone [(.tmp 73)])) <|
  .op (on (.mset (true, [.i .i64, .b, .i .i64, .s, .i .i64, .i .i64], false) (.tmp 64) (.tmp 71) (.tmp 74))) <|
  .done
@[simp] def order_Read_s24 : VT :=
  .op (oo 74 (.call n_row_Clone [(.tmp 73)])) <|
  .op (oo 64 (.ld (.tmp 63) none)) <|
  .op (on (.mset (true, [.i .i64, .b, .i .i64, .s, .i .i64, .i .i64], false) (.tmp 64) (.tmp 71) (.tmp 74))) <|
  .done
@[simp] def order_Read_s25 : VT :=
  .op (oo 69 (.ld (.tmp 68) none)) <|
  .op (oo 70 (.build [zi, zi] [(0, 1, (.tmp 67)), (1, 1, (.tmp 69))])) <|
  .op (oo 71 (.build [zi, zb, zi, zs, zi, zi] [(0, 4, (.tmp 65)), (4, 2, (.tmp 70))])) <|
  .alt (order_Read_s23) (order_Read_s24)
@[simp] def order_Read_s26 : VT :=
  .op (oo 74 (.call n_row_Clone [(.tmp 73)])) <|
  .op (oo 64 (.ld (.tmp 63) none)) <|
  .op (oo 69 (.ld (.tmp 68) none)) <|
  .op (oo 70 (.build [zi, zi] [(0, 1, (.tmp 67)), (1, 1, (.tmp 69))])) <|
  .op (oo 71 (.build [zi, zb, zi, zs, zi, zi] [(0, 4, (.tmp 65)), (4, 2, (.tmp 70))])) <|
  .op (on (.mset (true, [.i .i64, .b, .i .i64, .s, .i .i64, .i .i64], false) (.tmp 64) (.tmp 71) (.tmp 74))) <|
  .done
@[simp] def order_Read_s27 : VT :=
  .op (oo 67 (.ld (.tmp 66) none)) <|
  .alt (order_Read_s22) (  .alt (order_Read_s25) (order_Read_s26))
@[simp] def order_Read_s28 : VT :=
  .op (oo 64 (.ld (.tmp 63) none)) <|
  .alt (order_Read_s3) (order_Read_s4)
@[simp] def order_Read_s29 : VT :=
  .op (oo 67 (.ld (.tmp 66) none)) <|
  .op (oo 70 (.build [zi, zi] [(0, 1, (.tmp 67)), (1, 1, (.tmp 69))])) <|
  .op (oo 71 (.build [zi, zb, zi, zs, zi, zi] [(0, 4, (.tmp 65)), (4, 2, (.tmp 70))])) <|
  .alt (order_Read_s23) (order_Read_s24)
@[simp] def order_Read_s30 : VT :=
  .op (oo 74 (.call n_row_Clone [(.tmp 73)])) <|
  .op (oo 64 (.ld (.tmp 63) none)) <|
  .op (oo 67 (.ld (.tmp 66) none)) <|
  .op (oo 70 (.build [zi, zi] [(0, 1, (.tmp 67)), (1, 1, (.tmp 69))])) <|
  .op (oo 71 (.build [zi, zb, zi, zs, zi, zi] [(0, 4, (.tmp 65)), (4, 2, (.tmp 70))])) <|
  .op (on (.mset (true, [.i .i64, .b, .i .i64, .s, .i .i64, .i .i64], false) (.tmp 64) (.tmp 71) (.tmp 74))) <|
  .done
@[simp] def order_Read_s31 : VT :=
  .op (oo 69 (.ld (.tmp 68) none)) <|
  .alt (order_Read_s28) (  .alt (order_Read_s29) (order_Read_s30))
@[simp] def order_Read_s32 : VT :=
  .op (oo 74 (.call n_row_Clone [(.tmp 73)])) <|
  .op (oo 64 (.ld (.tmp 63) none)) <|
  .op (oo 67 (.ld (.tmp 66) none)) <|
  .op (oo 69 (.ld (.tmp 68) none)) <|
  .op (oo 70 (.build [zi, zi] [(0, 1, (.tmp 67)), (1, 1, (.tmp 69))])) <|
  .op (oo 71 (.build [zi, zb, zi, zs, zi, zi] [(0, 4, (.tmp 65)), (4, 2, (.tmp 70))])) <|
  .op (on (.mset (true, [.i .i64, .b, .i .i64, .s, .i .i64, .i .i64], false) (.tmp 64) (.tmp 71) (.tmp 74))) <|
  .done
@[simp] def order_Read_s33 : VT :=
  .alt (order_Read_s27) (  .alt (order_Read_s31) (order_Read_s32))
@[simp] def order_Read_s34 : VT :=
  .op (oo 65 (.ld (.tmp 6) (some 4))) <|
  .alt (order_Read_s21) (order_Read_s33)
@[simp] def order_Read_s35 : VT :=
  .op (oo 64 (.ld (.tmp 63) none)) <|
  .alt (order_Read_s8) (  .alt (order_Read_s11) (order_Read_s12))
@[simp] def order_Read_s36 : VT :=
  .op (oo 65 (.ld (.tmp 6) (some 4))) <|
  .alt (order_Read_s22) (  .alt (order_Read_s25) (order_Read_s26))
@[simp] def order_Read_s37 : VT :=
  .op (oo 64 (.ld (.tmp 63) none)) <|
  .alt (order_Read_s9) (order_Read_s10)
@[simp] def order_Read_s38 : VT :=
  .op (oo 65 (.ld (.tmp 6) (some 4))) <|
  .op (oo 71 (.build [zi, zb, zi, zs, zi, zi] [(0, 4, (.tmp 65)), (4, 2, (.tmp 70))])) <|
  .alt (order_Read_s23) (order_Read_s24)
@[simp] def order_Read_s39 : VT :=
  .op (oo 74 (.call n_row_Clone [(.tmp 73)])) <|
  .op (oo 64 (.ld (.tmp 63) none)) <|
  .op (oo 65 (.ld (.tmp 6) (some 4))) <|
  .op (oo 71 (.build [zi, zb, zi, zs, zi, zi] [(0, 4, (.tmp 65)), (4, 2, (.tmp 70))])) <|
  .op (on (.mset (true, [.i .i64, .b, .i .i64, .s, .i .i64, .i .i64], false) (.tmp 64) (.tmp 71) (.tmp 74))) <|
  .done
@[simp] def order_Read_s40 : VT :=
  .op (oo 69 (.ld (.tmp 68) none)) <|
  .op (oo 70 (.build [zi, zi] [(0, 1, (.tmp 67)), (1, 1, (.tmp 69))])) <|
  .alt (order_Read_s37) (  .alt (order_Read_s38) (order_Read_s39))
@[simp] def order_Read_s41 : VT :=
  .op (oo 74 (.call n_row_Clone [(.tmp 73)])) <|
  .op (oo 64 (.ld (.tmp 63) none)) <|
  .op (oo 65 (.ld (.tmp 6) (some 4))) <|
  .op (oo 69 (.ld (.tmp 68) none)) <|
  .op (oo 70 (.build [zi, zi] [(0, 1, (.tmp 67)), (1, 1, (.tmp 69))])) <|
  .op (oo 71 (.build [zi, zb, zi, zs, zi, zi] [(0, 4, (.tmp 65)), (4, 2, (.tmp 70))])) <|
  .op (on (.mset (true, [.i .i64, .b, .i .i64, .s, .i .i64, .i .i64], false) (.tmp 64) (.tmp 71) (.tmp 74))) <|
  .done
@[simp] def order_Read_s42 : VT :=
  .alt (order_Read_s36) (  .alt (order_Read_s40) (order_Read_s41))
@[simp] def order_Read_s43 : VT :=
  .op (oo 67 (.ld (.tmp 66) none)) <|
  .alt (order_Read_s35) (order_Read_s42)
@[simp] def order_Read_s44 : VT :=
  .op (oo 64 (.ld (.tmp 63) none)) <|
  .alt (order_Read_s14) (  .alt (order_Read_s15) (order_Read_s16))
@[simp] def order_Read_s45 : VT :=
  .op (oo 65 (.ld (.tmp 6) (some 4))) <|
  .alt (order_Read_s28) (  .alt (order_Read_s29) (order_Read_s30))
@[simp] def order_Read_s46 : VT :=
  .op (oo 67 (.ld (.tmp 66) none)) <|
  .op (oo 70 (.build [zi, zi] [(0, 1, (.tmp 67)), (1, 1, (.tmp 69))])) <|
  .alt (order_Read_s37) (  .alt (order_Read_s38) (order_Read_s39))
@[simp] def order_Read_s47 : VT :=
  .op (oo 74 (.call n_row_Clone [(.tmp 73)])) <|
  .op (oo 64 (.ld (.tmp 63) none)) <|
  .op (oo 65 (.ld (.tmp 6) (some 4))) <|
  .op (oo 67 (.ld (.tmp 66) none)) <|
  .op (oo 70 (.build [zi, zi] [(0, 1, (.tmp 67)), (1, 1, (.tmp 69))])) <|
  .op (oo 71 (.build [zi, zb, zi, zs, zi, zi] [(0, 4, (.tmp 65)), (4, 2, (.tmp 70))])) <|
  .op (on (.mset (true, [.i .i64, .b, .i .i64, .s, .i .i64, .i .i64], false) (.tmp 64) (.tmp 71) (.tmp 74))) <|
  .done
@[simp] def order_Read_s48 : VT :=
  .alt (order_Read_s45) (  .alt (order_Read_s46) (order_Read_s47))
@[simp] def order_Read_s49 : VT :=
  .op (oo 69 (.ld (.tmp 68) none)) <|
  .alt (order_Read_s44) (order_Read_s48)
@[simp] def order_Read_s50 : VT :=
  .op (oo 74 (.call n_row_Clone [(.tmp 73)])) <|
  .op (oo 64 (.ld (.tmp 63) none)) <|
  .op (oo 65 (.ld (.tmp 6) (some 4))) <|
  .op (oo 67 (.ld (.tmp 66) none)) <|
  .op (oo 69 (.ld (.tmp 68) none)) <|
  .op (oo 70 (.build [zi, zi] [(0, 1, (.tmp 67)), (1, 1, (.tmp 69))])) <|
  .op (oo 71 (.build [zi, zb, zi, zs, zi, zi] [(0, 4, (.tmp 65)), (4, 2, (.tmp 70))])) <|
  .op (on (.mset (true, [.i .i64, .b, .i .i64, .s, .i .i64, .i .i64], false) (.tmp 64) (.tmp 71) (.tmp 74))) <|
  .done
@[simp] def order_Read_s51 : VT :=
  .alt (order_Read_s43) (  .alt (order_Read_s49) (order_Read_s50))
@[simp] def order_Read_t14 : VT :=
  .op (oo 61 (.mov (.tmp 3))) <|
  .op (oo 62 (.chk (.tmp 61))) <|
  .op (oo 63 (.fa 2 (.tmp 62))) <|
  .op (oo 66 (.fa 0 (.tmp 5))) <|
  .op (oo 68 (.fa 9 (.tmp 5))) <|
  .op (oo 72 (.fa 10 (.tmp 5))) <|
  .op (oo 73 (.ld (.tmp 72) none)) <|
  .alt (order_Read_s20) (  .alt (order_Read_s34) (order_Read_s51))
@[simp] def order_Read_t15 : VT :=
  .op (oo 75 (.mov (.tmp 3))) <|
  .op (oo 76 (.chk (.tmp 75))) <|
  .op (oo 77 (.fa 3 (.tmp 76))) <|
  .op (oo 78 (.ld (.tmp 77) none)) <|
  .op (oo 79 (.ld (.tmp 6) (some 4))) <|
  .op (oo 80 (.fa 0 (.tmp 5))) <|
  .op (oo 81 (.ld (.tmp 80) none)) <|
  .op (oo 82 (.build [zi, zi] [(0, 1, (.tmp 81))])) <|
  .op (oo 83 (.build [zi, zb, zi, zs, zi, zi] [(0, 4, (.tmp 79)), (4, 2, (.tmp 82))])) <|
  .op (oo 84 (.fa 9 (.tmp 5))) <|
  .op (oo 85 (.ld (.tmp 84) none)) <|
  .op (on (.mset (true, [.i .i64, .b, .i .i64, .s, .i .i64, .i .i64], false) (.tmp 78) (.tmp 83) (.tmp 85))) <|
  .done
@[simp] def order_Read_r16 : List VOp :=
  [(oo 86 (.bin .add (.tmp 25) (.const (ki 1)))),
   (oo 25 (.mov (.tmp 86)))]
def order_Read_l17 : VCode :=
  (.seq (.reg order_Read_r5) (.seq (.cond (.tmp 26) .skip (.exit 0)) (.seq (.block 1 (.seq (.reg order_Read_r6) (.seq (.reg order_Read_r7) (.seq (.reg order_Read_r8) (.block 2 (.seq (.reg order_Read_r9) (.cond (.tmp 36) (.any order_Read_t10) (.seq (.reg order_Read_r11) (.cond (.tmp 46) (.any order_Read_t12) (.seq (.reg order_Read_r13) (.cond (.tmp 59) (.seq (.any order_Read_t14) (.any order_Read_t15)) .skip))))))))))) (.reg order_Read_r16))))
@[simp] def order_Read_r18 : List VOp :=
  [(oo 87 (.mov (.tmp 3))),
   (oo 88 (.chk (.tmp 87))),
   (oo 89 (.fa 1 (.tmp 88))),
   (oo 90 (.ld (.tmp 89) none)),
   (oo 91 (.call n_slices_Sort_int_int [(.tmp 90)]))]
@[simp] def order_Read_r19 : List VOp :=
  [(oo 92 (.fa 2 (.tmp 1))),
   (oo 93 (.ld (.tmp 92) none)),
   (oo 94 (.len (.tmp 93))),
   (oo 95 (.mov (.const (ki 0))))]
@[simp] def order_Read_r20 : List VOp :=
  [(oo 96 (.bin .lss (.tmp 95) (.tmp 94)))]
@[simp] def order_Read_r21 : List VOp :=
  [(oo 97 (.ia 5 (.tmp 93) (.tmp 95))),
   (oo 98 (.ld (.tmp 97) (some 5))),
   (oo 8 (.alloc [zi, zb, zi, zs, .nil 1])),
   (on (.st (.tmp 8) (.tmp 98) 5))]
@[simp] def order_Read_r22 : List VOp :=
  [(oo 99 (.fa 0 (.tmp 8))),
   (oo 100 (.ld (.tmp 99) none)),
   (oo 101 (.fa 1 (.tmp 8))),
   (oo 102 (.ld (.tmp 101) (some 3))),
   (oo 103 (.build [zi, zb, zi, zs] [(0, 1, (.tmp 100)), (1, 3, (.tmp 102))])),
   (oo 9 (.alloc [zi, zb, zi, zs])),
   (on (.st (.tmp 9) (.tmp 103) 4))]
@[simp] def order_Read_r23 : List VOp :=
  [(oo 104 (.build [zi, zi] [])),
   (oo 105 (.lit 2 1 [(0, (.tmp 104))])),
   (oo 10 (.mov (.tmp 105)))]
@[simp] def order_Read_r24 : List VOp :=
  [(oo 106 (.fa 4 (.tmp 8))),
   (oo 107 (.ld (.tmp 106) none)),
   (oo 108 (.len (.tmp 107))),
   (oo 109 (.mov (.const (ki 0))))]
@[simp] def order_Read_r25 : List VOp :=
  [(oo 110 (.bin .lss (.tmp 109) (.tmp 108)))]
@[simp] def order_Read_r26 : List VOp :=
  [(oo 111 (.ia 1 (.tmp 107) (.tmp 109))),
   (oo 112 (.ld (.tmp 111) none)),
   (oo 12 (.mov (.tmp 112)))]
@[simp] def order_Read_t27 : VT :=
  .op (oo 113 (.mov (.tmp 10))) <|
  .op (oo 114 (.mov (.tmp 12))) <|
  .op (oo 115 (.mov (.tmp 3))) <|
  .op (oo 116 (.chk (.tmp 115))) <|
  .op (oo 117 (.fa 3 (.tmp 116))) <|
  .op (oo 118 (.ld (.tmp 117) none)) <|
  .op (oo 119 (.ld (.tmp 9) (some 4))) <|
  .op (oo 120 (.mov (.tmp 12))) <|
  .op (oo 121 (.build [zi, zi] [(0, 1, (.tmp 120))])) <|
  .op (oo 122 (.build [zi, zb, zi, zs, zi, zi] [(0, 4, (.tmp 119)), (4, 2, (.tmp 121))])) <|
  .op (oo 123 (.lkp (true, [.i .i64, .b, .i .i64, .s, .i .i64, .i .i64], false) [zi] (.tmp 118) (.tmp 122) false)) <|
  .op (oo 124 (.build [zi, zi] [(0, 1, (.tmp 114)), (1, 1, (.tmp 123))])) <|
  .op (oo 125 (.lit 2 1 [(0, (.tmp 124))])) <|
  .op (oo 126 (.app 2 16 (.tmp 113) (.tmp 125))) <|
  .op (oo 10 (.mov (.tmp 126))) <|
  .done
@[simp] def order_Read_r28 : List VOp :=
  [(oo 127 (.bin .add (.tmp 109) (.const (ki 1)))),
   (oo 109 (.mov (.tmp 127)))]
def order_Read_l29 : VCode :=
  (.seq (.reg order_Read_r25) (.seq (.cond (.tmp 110) .skip (.exit 5)) (.seq (.block 6 (.seq (.reg order_Read_r26) (.any order_Read_t27))) (.reg order_Read_r28))))
@[simp] def order_Read_t30 : VT :=
  .op (oo 128 (.mov (.tmp 3))) <|
  .op (oo 129 (.chk (.tmp 128))) <|
  .op (oo 130 (.fa 4 (.tmp 129))) <|
  .op (oo 131 (.ld (.tmp 130) none)) <|
  .op (oo 132 (.ld (.tmp 9) (some 4))) <|
  .op (oo 133 (.mov (.tmp 10))) <|
  .op (on (.mset (true, [.i .i64, .b, .i .i64, .s], false) (.tmp 131) (.tmp 132) (.tmp 133))) <|
  .done
@[simp] def order_Read_r31 : List VOp :=
  [(oo 134 (.bin .add (.tmp 95) (.const (ki 1)))),
   (oo 95 (.mov (.tmp 134)))]
def order_Read_l32 : VCode :=
  (.seq (.reg order_Read_r20) (.seq (.cond (.tmp 96) .skip (.exit 3)) (.seq (.block 4 (.seq (.reg order_Read_r21) (.seq (.reg order_Read_r22) (.seq (.reg order_Read_r23) (.seq (.seq (.reg order_Read_r24) (.block 5 (.loop order_Read_l29))) (.any order_Read_t30)))))) (.reg order_Read_r31))))
@[simp] def order_Read_r33 : List VOp :=
  [(oo 135 (.mov (.tmp 3))),
   (oo 2 (.mov (.tmp 135)))]
def order_Read : VCode := (.seq (.reg order_Read_r0) (.seq (.seq (.reg order_Read_r1) (.cond (.tmp 15) (.seq (.reg order_Read_r2) .ret) .skip)) (.seq (.reg order_Read_r3) (.seq (.seq (.reg order_Read_r4) (.block 0 (.loop order_Read_l17))) (.seq (.reg order_Read_r18) (.seq (.seq (.reg order_Read_r19) (.block 3 (.loop order_Read_l32))) (.seq (.reg order_Read_r33) .ret)))))))
theorem order_Read_is : fnV prog n_order_Read = some (136, order_Read, [.tmp 2]) := by kernel_rfl
/- rr18_Well -/
@[simp] def rr18_Well_r0 : List VOp :=
  [(oo 1 (.box (.tmp 0))),
   (oo 2 (.mov (.const (kb false))))]
@[simp] def rr18_Well_r1 : List VOp :=
  [(oo 9 (.ld (.tmp 1) (some 3))),
   (oo 10 (.call n_rr18_tables [(.tmp 9)])),
   (oo 3 (.mov (.tmp 10)))]
@[simp] def rr18_Well_r2 : List VOp :=
  [(oo 11 (.mov (.tmp 3))),
   (oo 12 (.un .not (.tmp 11)))]
@[simp] def rr18_Well_r3 : List VOp :=
  [(oo 2 (.mov (.const (kb false))))]
@[simp] def rr18_Well_r4 : List VOp :=
  [(oo 4 (.mov (.const (ki 0))))]
@[simp] def rr18_Well_r5 : List VOp :=
  [(oo 13 (.mov (.tmp 4))),
   (oo 14 (.fa 1 (.tmp 1))),
   (oo 15 (.ld (.tmp 14) none)),
   (oo 16 (.len (.tmp 15))),
   (oo 17 (.bin .lss (.tmp 13) (.tmp 16)))]
@[simp] def rr18_Well_r6 : List VOp :=
  [(oo 20 (.ld (.tmp 1) (some 3))),
   (oo 21 (.mov (.tmp 4))),
   (oo 22 (.call n_rr18_event [(.tmp 20), (.tmp 21)])),
   (oo 5 (.mov (.tmp 22)))]
@[simp] def rr18_Well_r7 : List VOp :=
  [(oo 23 (.ld (.tmp 1) (some 3))),
   (oo 24 (.mov (.tmp 4))),
   (oo 25 (.call n_rr18_installed [(.tmp 23), (.tmp 24)])),
   (oo 6 (.mov (.tmp 25)))]
@[simp] def rr18_Well_r8 : List VOp :=
  [(oo 26 (.mov (.tmp 5))),
   (oo 27 (.un .not (.tmp 26))),
   (oo 28 (.mov (.tmp 27))),
   (og 29 28 false (.mov (.tmp 6))),
   (og 30 28 false (.un .not (.tmp 29))),
   (oo 31 (.pick (.tmp 28) (.const (kb true)) (.tmp 30)))]
@[simp] def rr18_Well_r9 : List VOp :=
  [(oo 2 (.mov (.const (kb false))))]
@[simp] def rr18_Well_r10 : List VOp :=
  [(oo 18 (.mov (.tmp 4))),
   (oo 19 (.bin .add (.tmp 18) (.const (ki 1)))),
   (oo 4 (.mov (.tmp 19)))]
def rr18_Well_l11 : VCode :=
  (.seq (.seq (.reg rr18_Well_r5) (.cond (.tmp 17) .skip (.exit 0))) (.seq (.block 1 (.seq (.reg rr18_Well_r6) (.seq (.reg rr18_Well_r7) (.seq (.reg rr18_Well_r8) (.cond (.tmp 31) (.seq (.reg rr18_Well_r9) .ret) .skip))))) (.reg rr18_Well_r10)))
@[simp] def rr18_Well_r12 : List VOp :=
  [(oo 7 (.mov (.const (ki 0))))]
@[simp] def rr18_Well_r13 : List VOp :=
  [(oo 32 (.mov (.tmp 7))),
   (oo 33 (.fa 2 (.tmp 1))),
   (oo 34 (.ld (.tmp 33) none)),
   (oo 35 (.len (.tmp 34))),
   (oo 36 (.bin .lss (.tmp 32) (.tmp 35)))]
@[simp] def rr18_Well_r14 : List VOp :=
  [(oo 39 (.ld (.tmp 1) (some 3))),
   (oo 40 (.mov (.tmp 7))),
   (oo 41 (.call n_rr18_install [(.tmp 39), (.tmp 40)])),
   (oo 8 (.mov (.tmp 41)))]
@[simp] def rr18_Well_r15 : List VOp :=
  [(oo 42 (.mov (.tmp 8))),
   (oo 43 (.un .not (.tmp 42)))]
@[simp] def rr18_Well_r16 : List VOp :=
  [(oo 2 (.mov (.const (kb false))))]
@[simp] def rr18_Well_r17 : List VOp :=
  [(oo 37 (.mov (.tmp 7))),
   (oo 38 (.bin .add (.tmp 37) (.const (ki 1)))),
   (oo 7 (.mov (.tmp 38)))]
def rr18_Well_l18 : VCode :=
  (.seq (.seq (.reg rr18_Well_r13) (.cond (.tmp 36) .skip (.exit 2))) (.seq (.block 3 (.seq (.reg rr18_Well_r14) (.seq (.reg rr18_Well_r15) (.cond (.tmp 43) (.seq (.reg rr18_Well_r16) .ret) .skip)))) (.reg rr18_Well_r17)))
@[simp] def rr18_Well_r19 : List VOp :=
  [(oo 2 (.mov (.const (kb true))))]
def rr18_Well : VCode := (.seq (.reg rr18_Well_r0) (.seq (.reg rr18_Well_r1) (.seq (.seq (.reg rr18_Well_r2) (.cond (.tmp 12) (.seq (.reg rr18_Well_r3) .ret) .skip)) (.seq (.seq (.reg rr18_Well_r4) (.block 0 (.loop rr18_Well_l11))) (.seq (.seq (.reg rr18_Well_r12) (.block 2 (.loop rr18_Well_l18))) (.seq (.reg rr18_Well_r19) .ret))))))
theorem rr18_Well_is : fnV prog n_rr18_Well = some (44, rr18_Well, [.tmp 2]) := by kernel_rfl
/- order_Book_Committed -/
@[simp] def order_Book_Committed_r0 : List VOp :=
  [(oo 2 (.nils 1))]
@[simp] def order_Book_Committed_r1 : List VOp :=
  [(oo 3 (.mov (.tmp 0))),
   (oo 4 (.peq false (.tmp 3) (.const (.pointer none))))]
@[simp] def order_Book_Committed_r2 : List VOp :=
  [(oo 2 (.nils 1))]
@[simp] def order_Book_Committed_r3 : List VOp :=
  [(oo 5 (.mov (.tmp 0))),
   (oo 6 (.chk (.tmp 5))),
   (oo 7 (.fa 1 (.tmp 6))),
   (oo 8 (.ld (.tmp 7) none)),
   (oo 9 (.call n_slices_Clone_int_int [(.tmp 8)])),
   (oo 2 (.mov (.tmp 9)))]
def order_Book_Committed : VCode := (.seq (.reg order_Book_Committed_r0) (.seq (.seq (.reg order_Book_Committed_r1) (.cond (.tmp 4) (.seq (.reg order_Book_Committed_r2) .ret) .skip)) (.seq (.reg order_Book_Committed_r3) .ret)))
theorem order_Book_Committed_is : fnV prog n_order_Book_Committed = some (10, order_Book_Committed, [.tmp 2]) := by kernel_rfl
/- rr03_Size -/
@[simp] def rr03_Size_r0 : List VOp :=
  [(oo 1 (.box (.tmp 0))),
   (oo 2 (.mov (.const (ki 0))))]
@[simp] def rr03_Size_r1 : List VOp :=
  [(oo 3 (.mov (.const (ki 1))))]
@[simp] def rr03_Size_r2 : List VOp :=
  [(oo 4 (.mov (.const (ki 0))))]
@[simp] def rr03_Size_r3 : List VOp :=
  [(oo 5 (.mov (.tmp 4))),
   (oo 6 (.fa 8 (.tmp 1))),
   (oo 7 (.ld (.tmp 6) none)),
   (oo 8 (.len (.tmp 7))),
   (oo 9 (.bin .lss (.tmp 5) (.tmp 8)))]
@[simp] def rr03_Size_r4 : List VOp :=
  [(oo 12 (.mov (.tmp 3))),
   (oo 13 (.fa 8 (.tmp 1))),
   (oo 14 (.ld (.tmp 13) none)),
   (oo 15 (.mov (.tmp 4))),
   (oo 16 (.ia 9 (.tmp 14) (.tmp 15))),
   (oo 17 (.ld (.tmp 16) (some 9))),
   (oo 18 (.call n_rr03_Size [(.tmp 17)])),
   (oo 19 (.bin .add (.tmp 12) (.tmp 18))),
   (oo 3 (.mov (.tmp 19)))]
@[simp] def rr03_Size_r5 : List VOp :=
  [(oo 10 (.mov (.tmp 4))),
   (oo 11 (.bin .add (.tmp 10) (.const (ki 1)))),
   (oo 4 (.mov (.tmp 11)))]
def rr03_Size_l6 : VCode :=
  (.seq (.seq (.reg rr03_Size_r3) (.cond (.tmp 9) .skip (.exit 0))) (.seq (.block 1 (.reg rr03_Size_r4)) (.reg rr03_Size_r5)))
@[simp] def rr03_Size_r7 : List VOp :=
  [(oo 20 (.mov (.tmp 3))),
   (oo 2 (.mov (.tmp 20)))]
def rr03_Size : VCode := (.seq (.reg rr03_Size_r0) (.seq (.reg rr03_Size_r1) (.seq (.seq (.reg rr03_Size_r2) (.block 0 (.loop rr03_Size_l6))) (.seq (.reg rr03_Size_r7) .ret))))
theorem rr03_Size_is : fnV prog n_rr03_Size = some (21, rr03_Size, [.tmp 2]) := by kernel_rfl
/- order_Book_Row -/
@[simp] def order_Book_Row_r0 : List VOp :=
  [(oo 6 (.box (.tmp 2))),
   (oo 7 (.box (.tmp 3))),
   (oo 8 (.nils 3)),
   (oo 9 (.mov (.const (kb false))))]
@[simp] def order_Book_Row_r1 : List VOp :=
  [(oo 12 (.mov (.tmp 0))),
   (oo 13 (.peq false (.tmp 12) (.const (.pointer none))))]
@[simp] def order_Book_Row_r2 : List VOp :=
  [(oo 8 (.nils 3)),
   (oo 9 (.mov (.const (kb false))))]
@[simp] def order_Book_Row_r3 : List VOp :=
  [(oo 14 (.ld (.tmp 7) (some 2))),
   (oo 15 (.build [zi, zi] [])),
   (oo 16 (.eqs false [.i .i64, .i .i64] (.tmp 14) (.tmp 15)))]
@[simp] def order_Book_Row_r4 : List VOp :=
  [(oo 8 (.nils 3)),
   (oo 9 (.mov (.const (kb true))))]
@[simp] def order_Book_Row_t5 : VT :=
  .op (oo 18 (.mov (.tmp 0))) <|
  .op (oo 19 (.chk (.tmp 18))) <|
  .op (oo 20 (.fa 2 (.tmp 19))) <|
  .op (oo 21 (.ld (.tmp 20) none)) <|
  .op (oo 22 (.mov (.tmp 1))) <|
  .op (oo 23 (.ld (.tmp 6) (some 3))) <|
  .op (oo 24 (.build [zi, zb, zi, zs] [(0, 1, (.tmp 22)), (1, 3, (.tmp 23))])) <|
  .op (oo 25 (.ld (.tmp 7) (some 2))) <|
  .op (oo 26 (.build [zi, zb, zi, zs, zi, zi] [(0, 4, (.tmp 24)), (4, 2, (.tmp 25))])) <|
  .op (oo 27 (.lkp (true, [.i .i64, .b, .i .i64, .s, .i .i64, .i .i64], false) [.nil 3] (.tmp 21) (.tmp 26) true)) <|
  .op (oo 17 (.mov (.tmp 27))) <|
  .op (oo 28 (.ext 0 (.tmp 17))) <|
  .op (oo 29 (.ext 1 (.tmp 17))) <|
  .op (oo 10 (.mov (.tmp 28))) <|
  .op (oo 11 (.mov (.tmp 29))) <|
  .done
@[simp] def order_Book_Row_r6 : List VOp :=
  [(oo 30 (.mov (.tmp 10))),
   (oo 31 (.call n_row_Clone [(.tmp 30)])),
   (oo 32 (.mov (.tmp 11))),
   (oo 8 (.mov (.tmp 31))),
   (oo 9 (.mov (.tmp 32)))]
def order_Book_Row : VCode := (.seq (.reg order_Book_Row_r0) (.seq (.seq (.reg order_Book_Row_r1) (.cond (.tmp 13) (.seq (.reg order_Book_Row_r2) .ret) .skip)) (.seq (.seq (.reg order_Book_Row_r3) (.cond (.tmp 16) (.seq (.reg order_Book_Row_r4) .ret) .skip)) (.seq (.any order_Book_Row_t5) (.seq (.reg order_Book_Row_r6) .ret)))))
theorem order_Book_Row_is : fnV prog n_order_Book_Row = some (33, order_Book_Row, [.tmp 8, .tmp 9]) := by kernel_rfl
/- rr02_Same -/
@[simp] def rr02_Same_r0 : List VOp :=
  [(oo 4 (.mov (.const (kb false))))]
@[simp] def rr02_Same_r1 : List VOp :=
  [(oo 6 (.mov (.tmp 0))),
   (oo 7 (.len (.tmp 6))),
   (oo 8 (.mov (.tmp 1))),
   (oo 9 (.len (.tmp 8))),
   (oo 10 (.bin .neq (.tmp 7) (.tmp 9)))]
@[simp] def rr02_Same_r2 : List VOp :=
  [(oo 4 (.mov (.const (kb false))))]
@[simp] def rr02_Same_r3 : List VOp :=
  [(oo 5 (.mov (.const (ki 0))))]
@[simp] def rr02_Same_r4 : List VOp :=
  [(oo 11 (.mov (.tmp 5))),
   (oo 12 (.mov (.tmp 0))),
   (oo 13 (.len (.tmp 12))),
   (oo 14 (.bin .lss (.tmp 11) (.tmp 13)))]
@[simp] def rr02_Same_t5 : VT :=
  .op (oo 17 (.mov (.tmp 0))) <|
  .op (oo 18 (.mov (.tmp 5))) <|
  .op (oo 19 (.ia 3 (.tmp 17) (.tmp 18))) <|
  .op (oo 20 (.ld (.tmp 19) (some 3))) <|
  .op (oo 21 (.mov (.tmp 1))) <|
  .op (oo 22 (.mov (.tmp 5))) <|
  .op (oo 23 (.ia 3 (.tmp 21) (.tmp 22))) <|
  .op (oo 24 (.ld (.tmp 23) (some 3))) <|
  .op (oo 25 (.eqs true [.b, .i .i64, .s] (.tmp 20) (.tmp 24))) <|
  .done
@[simp] def rr02_Same_r6 : List VOp :=
  [(oo 4 (.mov (.const (kb false))))]
@[simp] def rr02_Same_r7 : List VOp :=
  [(oo 15 (.mov (.tmp 5))),
   (oo 16 (.bin .add (.tmp 15) (.const (ki 1)))),
   (oo 5 (.mov (.tmp 16)))]
def rr02_Same_l8 : VCode :=
  (.seq (.seq (.reg rr02_Same_r4) (.cond (.tmp 14) .skip (.exit 0))) (.seq (.block 1 (.seq (.any rr02_Same_t5) (.cond (.tmp 25) (.seq (.reg rr02_Same_r6) .ret) .skip))) (.reg rr02_Same_r7)))
@[simp] def rr02_Same_r9 : List VOp :=
  [(oo 4 (.mov (.const (kb true))))]
def rr02_Same : VCode := (.seq (.reg rr02_Same_r0) (.seq (.seq (.reg rr02_Same_r1) (.cond (.tmp 10) (.seq (.reg rr02_Same_r2) .ret) .skip)) (.seq (.seq (.reg rr02_Same_r3) (.block 0 (.loop rr02_Same_l8))) (.seq (.reg rr02_Same_r9) .ret))))
theorem rr02_Same_is : fnV prog n_rr02_Same = some (26, rr02_Same, [.tmp 4]) := by kernel_rfl
/- order_Book_Level -/
@[simp] def order_Book_Level_r0 : List VOp :=
  [(oo 4 (.mov (.const (ki 0))))]
@[simp] def order_Book_Level_r1 : List VOp :=
  [(oo 5 (.mov (.tmp 0))),
   (oo 6 (.peq false (.tmp 5) (.const (.pointer none))))]
@[simp] def order_Book_Level_r2 : List VOp :=
  [(oo 4 (.mov (.const (ki 0))))]
@[simp] def order_Book_Level_r3 : List VOp :=
  [(oo 7 (.mov (.tmp 0))),
   (oo 8 (.chk (.tmp 7))),
   (oo 9 (.fa 0 (.tmp 8))),
   (oo 10 (.ld (.tmp 9) none)),
   (oo 11 (.mov (.tmp 1))),
   (oo 12 (.lkp (false, [.i .i64], false) [zi] (.tmp 10) (.tmp 11) false)),
   (oo 4 (.mov (.tmp 12)))]
def order_Book_Level : VCode := (.seq (.reg order_Book_Level_r0) (.seq (.seq (.reg order_Book_Level_r1) (.cond (.tmp 6) (.seq (.reg order_Book_Level_r2) .ret) .skip)) (.seq (.reg order_Book_Level_r3) .ret)))
theorem order_Book_Level_is : fnV prog n_order_Book_Level = some (13, order_Book_Level, [.tmp 4]) := by kernel_rfl
/- order_Book_Chain -/
@[simp] def order_Book_Chain_r0 : List VOp :=
  [(oo 5 (.box (.tmp 2))),
   (oo 6 (.nils 2))]
@[simp] def order_Book_Chain_r1 : List VOp :=
  [(oo 9 (.mov (.tmp 0))),
   (oo 10 (.peq false (.tmp 9) (.const (.pointer none))))]
@[simp] def order_Book_Chain_r2 : List VOp :=
  [(oo 6 (.nils 2))]
@[simp] def order_Book_Chain_r3 : List VOp :=
  [(oo 11 (.mov (.tmp 0))),
   (oo 12 (.mov (.tmp 1))),
   (oo 13 (.ld (.tmp 5) (some 3))),
   (oo 14 (.call n_order_Book_chain [(.tmp 11), (.tmp 12), (.tmp 13)])),
   (oo 7 (.mov (.tmp 14)))]
@[simp] def order_Book_Chain_r4 : List VOp :=
  [(oo 15 (.mov (.tmp 7))),
   (oo 16 (.len (.tmp 15))),
   (oo 17 (.mks 2 16 [zi, zi] (.tmp 16) (.tmp 16))),
   (oo 8 (.mov (.tmp 17)))]
@[simp] def order_Book_Chain_r5 : List VOp :=
  [(oo 18 (.mov (.tmp 8))),
   (oo 19 (.mov (.tmp 7))),
   (oo 20 (.cpy 2 (.tmp 18) (.tmp 19)))]
@[simp] def order_Book_Chain_r6 : List VOp :=
  [(oo 21 (.mov (.tmp 8))),
   (oo 6 (.mov (.tmp 21)))]
def order_Book_Chain : VCode := (.seq (.reg order_Book_Chain_r0) (.seq (.seq (.reg order_Book_Chain_r1) (.cond (.tmp 10) (.seq (.reg order_Book_Chain_r2) .ret) .skip)) (.seq (.reg order_Book_Chain_r3) (.seq (.reg order_Book_Chain_r4) (.seq (.reg order_Book_Chain_r5) (.seq (.reg order_Book_Chain_r6) .ret))))))
theorem order_Book_Chain_is : fnV prog n_order_Book_Chain = some (22, order_Book_Chain, [.tmp 6]) := by kernel_rfl
/- order_Book_Place -/
@[simp] def order_Book_Place_r0 : List VOp :=
  [(oo 6 (.box (.tmp 2))),
   (oo 7 (.box (.tmp 3))),
   (oo 8 (.mov (.const (ki 0))))]
@[simp] def order_Book_Place_r1 : List VOp :=
  [(oo 12 (.mov (.tmp 0))),
   (oo 13 (.mov (.tmp 1))),
   (oo 14 (.ld (.tmp 6) (some 3))),
   (oo 15 (.ld (.tmp 7) (some 2))),
   (oo 16 (.call n_order_Book_Row [(.tmp 12), (.tmp 13), (.tmp 14), (.tmp 15)])),
   (oo 11 (.mov (.tmp 16))),
   (oo 17 (.ext 0 (.tmp 11))),
   (oo 18 (.ext 1 (.tmp 11))),
   (oo 9 (.mov (.tmp 17))),
   (oo 10 (.mov (.tmp 18)))]
@[simp] def order_Book_Place_r2 : List VOp :=
  [(oo 19 (.mov (.tmp 10))),
   (oo 20 (.un .not (.tmp 19)))]
@[simp] def order_Book_Place_r3 : List VOp :=
  [(oo 8 (.mov (.const (ki (-1)))))]
@[simp] def order_Book_Place_r4 : List VOp :=
  [(oo 21 (.mov (.tmp 0))),
   (oo 22 (.mov (.tmp 1))),
   (oo 23 (.ld (.tmp 6) (some 3))),
   (oo 24 (.call n_order_Book_chain [(.tmp 21), (.tmp 22), (.tmp 23)])),
   (oo 25 (.mkfn n_order_Book_Place_1 [] [(.tmp 7)])),
   (oo 26 (.call n_slices_IndexFunc_api_Version_api_Version [(.tmp 24), (.tmp 25)])),
   (oo 8 (.mov (.tmp 26)))]
def order_Book_Place : VCode := (.seq (.reg order_Book_Place_r0) (.seq (.seq (.reg order_Book_Place_r1) (.seq (.reg order_Book_Place_r2) (.cond (.tmp 20) (.seq (.reg order_Book_Place_r3) .ret) .skip))) (.seq (.reg order_Book_Place_r4) .ret)))
theorem order_Book_Place_is : fnV prog n_order_Book_Place = some (27, order_Book_Place, [.tmp 8]) := by kernel_rfl
/- order_Book_Changes -/
@[simp] def order_Book_Changes_r0 : List VOp :=
  [(oo 5 (.box (.tmp 0))),
   (oo 6 (.box (.tmp 1))),
   (oo 7 (.box (.tmp 2))),
   (oo 9 (.box (.tmp 4))),
   (oo 10 (.mov (.const (kb false))))]
@[simp] def order_Book_Changes_r1 : List VOp :=
  [(oo 13 (.ld (.tmp 5) none)),
   (oo 14 (.peq false (.tmp 13) (.const (.pointer none))))]
@[simp] def order_Book_Changes_r2 : List VOp :=
  [(oo 10 (.mov (.const (kb false))))]
@[simp] def order_Book_Changes_r3 : List VOp :=
  [(oo 15 (.ld (.tmp 5) none)),
   (oo 16 (.ld (.tmp 6) none)),
   (oo 17 (.ld (.tmp 7) (some 3))),
   (oo 18 (.call n_order_Book_chain [(.tmp 15), (.tmp 16), (.tmp 17)])),
   (oo 11 (.mov (.tmp 18)))]
@[simp] def order_Book_Changes_r4 : List VOp :=
  [(oo 19 (.mov (.tmp 3))),
   (oo 20 (.bin .lss (.tmp 19) (.const (ki 1)))),
   (oo 21 (.mov (.tmp 20))),
   (og 22 21 false (.mov (.tmp 3))),
   (og 23 21 false (.mov (.tmp 11))),
   (og 24 21 false (.len (.tmp 23))),
   (og 25 21 false (.bin .geq (.tmp 22) (.tmp 24))),
   (oo 26 (.pick (.tmp 21) (.const (kb true)) (.tmp 25)))]
@[simp] def order_Book_Changes_r5 : List VOp :=
  [(oo 10 (.mov (.const (kb false))))]
@[simp] def order_Book_Changes_r6 : List VOp :=
  [(oo 27 (.mkfn n_order_Book_Changes_1 [] [(.tmp 5), (.tmp 6), (.tmp 7), (.tmp 9)])),
   (oo 12 (.mov (.tmp 27)))]
@[simp] def order_Book_Changes_s0 : VT :=
  .op (oo 34 (.callv (.tmp 28) [(.tmp 33)])) <|
  .op (oo 39 (.ld (.tmp 38) (some 2))) <|
  .op (oo 40 (.callv (.tmp 35) [(.tmp 39)])) <|
  .op (oo 41 (.beq true (.tmp 34) (.tmp 40))) <|
  .op (oo 10 (.mov (.tmp 41))) <|
  .done
@[simp] def order_Book_Changes_s1 : VT :=
  .op (oo 39 (.ld (.tmp 38) (some 2))) <|
  .op (oo 34 (.callv (.tmp 28) [(.tmp 33)])) <|
  .op (oo 40 (.callv (.tmp 35) [(.tmp 39)])) <|
  .op (oo 41 (.beq true (.tmp 34) (.tmp 40))) <|
  .op (oo 10 (.mov (.tmp 41))) <|
  .done
@[simp] def order_Book_Changes_t7 : VT :=
  .op (oo 28 (.mov (.tmp 12))) <|
  .op (oo 29 (.mov (.tmp 11))) <|
  .op (oo 30 (.mov (.tmp 3))) <|
  .op (oo 31 (.bin .sub (.tmp 30) (.const (ki 1)))) <|
  .op (oo 32 (.ia 2 (.tmp 29) (.tmp 31))) <|
  .op (oo 33 (.ld (.tmp 32) (some 2))) <|
  .op (oo 35 (.mov (.tmp 12))) <|
  .op (oo 36 (.mov (.tmp 11))) <|
  .op (oo 37 (.mov (.tmp 3))) <|
  .op (oo 38 (.ia 2 (.tmp 36) (.tmp 37))) <|
  .alt (order_Book_Changes_s0) (order_Book_Changes_s1)
def order_Book_Changes : VCode := (.seq (.reg order_Book_Changes_r0) (.seq (.seq (.reg order_Book_Changes_r1) (.cond (.tmp 14) (.seq (.reg order_Book_Changes_r2) .ret) .skip)) (.seq (.reg order_Book_Changes_r3) (.seq (.seq (.reg order_Book_Changes_r4) (.cond (.tmp 26) (.seq (.reg order_Book_Changes_r5) .ret) .skip)) (.seq (.reg order_Book_Changes_r6) (.seq (.any order_Book_Changes_t7) .ret))))))
theorem order_Book_Changes_is : fnV prog n_order_Book_Changes = some (42, order_Book_Changes, [.tmp 10]) := by kernel_rfl
/- rr18_Committed -/
@[simp] def rr18_Committed_r0 : List VOp :=
  [(oo 2 (.box (.tmp 0))),
   (oo 4 (.mov (.const (kb false))))]
@[simp] def rr18_Committed_r1 : List VOp :=
  [(oo 5 (.ld (.tmp 2) (some 3))),
   (oo 6 (.mov (.tmp 1))),
   (oo 7 (.call n_rr18_Ended [(.tmp 5), (.tmp 6)])),
   (oo 8 (.bin .eql (.tmp 7) (.const (ki 5)))),
   (oo 4 (.mov (.tmp 8)))]
def rr18_Committed : VCode := (.seq (.reg rr18_Committed_r0) (.seq (.reg rr18_Committed_r1) .ret))
theorem rr18_Committed_is : fnV prog n_rr18_Committed = some (9, rr18_Committed, [.tmp 4]) := by kernel_rfl
/- rr18_flat -/
@[simp] def rr18_flat_r0 : List VOp :=
  [(oo 2 (.box (.tmp 0))),
   (oo 4 (.mov (.const (kb false))))]
@[simp] def rr18_flat_r1 : List VOp :=
  [(oo 7 (.mov (.tmp 1))),
   (oo 8 (.bin .gtr (.tmp 7) (.const (ki 6)))),
   (oo 9 (.mov (.tmp 8))),
   (og 10 9 false (.fa 8 (.tmp 2))),
   (og 11 9 false (.ld (.tmp 10) none)),
   (og 12 9 false (.len (.tmp 11))),
   (og 13 9 false (.bin .gtr (.tmp 12) (.const (ki 6)))),
   (oo 14 (.pick (.tmp 9) (.const (kb true)) (.tmp 13)))]
@[simp] def rr18_flat_r2 : List VOp :=
  [(oo 4 (.mov (.const (kb false))))]
@[simp] def rr18_flat_r3 : List VOp :=
  [(oo 5 (.mov (.const (ki 0))))]
@[simp] def rr18_flat_r4 : List VOp :=
  [(oo 15 (.mov (.tmp 5))),
   (oo 16 (.fa 8 (.tmp 2))),
   (oo 17 (.ld (.tmp 16) none)),
   (oo 18 (.len (.tmp 17))),
   (oo 19 (.bin .lss (.tmp 15) (.tmp 18)))]
@[simp] def rr18_flat_r5 : List VOp :=
  [(oo 22 (.fa 8 (.tmp 2))),
   (oo 23 (.ld (.tmp 22) none)),
   (oo 24 (.mov (.tmp 5))),
   (oo 25 (.ia 9 (.tmp 23) (.tmp 24))),
   (oo 26 (.ld (.tmp 25) (some 9))),
   (oo 27 (.mov (.tmp 1))),
   (oo 28 (.bin .add (.tmp 27) (.const (ki 1)))),
   (oo 29 (.call n_rr18_flat [(.tmp 26), (.tmp 28)])),
   (oo 6 (.mov (.tmp 29)))]
@[simp] def rr18_flat_r6 : List VOp :=
  [(oo 30 (.mov (.tmp 6))),
   (oo 31 (.un .not (.tmp 30)))]
@[simp] def rr18_flat_r7 : List VOp :=
  [(oo 4 (.mov (.const (kb false))))]
@[simp] def rr18_flat_r8 : List VOp :=
  [(oo 20 (.mov (.tmp 5))),
   (oo 21 (.bin .add (.tmp 20) (.const (ki 1)))),
   (oo 5 (.mov (.tmp 21)))]
def rr18_flat_l9 : VCode :=
  (.seq (.seq (.reg rr18_flat_r4) (.cond (.tmp 19) .skip (.exit 0))) (.seq (.block 1 (.seq (.reg rr18_flat_r5) (.seq (.reg rr18_flat_r6) (.cond (.tmp 31) (.seq (.reg rr18_flat_r7) .ret) .skip)))) (.reg rr18_flat_r8)))
@[simp] def rr18_flat_r10 : List VOp :=
  [(oo 32 (.ld (.tmp 2) (some 9))),
   (oo 33 (.call n_rr03_Size [(.tmp 32)])),
   (oo 34 (.bin .leq (.tmp 33) (.const (ki 30)))),
   (oo 4 (.mov (.tmp 34)))]
def rr18_flat : VCode := (.seq (.reg rr18_flat_r0) (.seq (.seq (.reg rr18_flat_r1) (.cond (.tmp 14) (.seq (.reg rr18_flat_r2) .ret) .skip)) (.seq (.seq (.reg rr18_flat_r3) (.block 0 (.loop rr18_flat_l9))) (.seq (.reg rr18_flat_r10) .ret))))
theorem rr18_flat_is : fnV prog n_rr18_flat = some (35, rr18_flat, [.tmp 4]) := by kernel_rfl
/- hist_Check -/
@[simp] def hist_Check_r0 : List VOp :=
  [(oo 1 (.box (.tmp 0))),
   (oo 2 (.mov (.const (ki 0))))]
@[simp] def hist_Check_r1 : List VOp :=
  [(oo 10 (.ld (.tmp 1) (some 3))),
   (oo 11 (.mkmap (false, [.i .i64], false))),
   (oo 12 (.mkmap (true, [.i .i64, .i .i64, .b, .i .i64, .s], false))),
   (oo 13 (.mkmap (false, [.i .i64], false))),
   (oo 14 (.build [.nil 1, .nil 22, .nil 5, .iv (.v (.map none)), .iv (.v (.map none)), .iv (.v (.map none))] [(0, 3, (.tmp 10)), (3, 1, (.tmp 11)), (4, 1, (.tmp 12)), (5, 1, (.tmp 13))])),
   (oo 15 (.box (.tmp 14))),
   (oo 3 (.alloc [.iv (.v (.pointer none))])),
   (on (.st (.tmp 3) (.tmp 15) 1))]
@[simp] def hist_Check_r2 : List VOp :=
  [(oo 16 (.mkfn n_hist_Check_1 [] [(.tmp 3)])),
   (oo 4 (.mov (.tmp 16)))]
@[simp] def hist_Check_r3 : List VOp :=
  [(oo 17 (.ld (.tmp 3) none)),
   (oo 18 (.mkfn n_hist_checker_order [(.tmp 17)] [])),
   (oo 5 (.mov (.tmp 18)))]
@[simp] def hist_Check_r4 : List VOp :=
  [(oo 19 (.fa 0 (.tmp 1))),
   (oo 20 (.ld (.tmp 19) none)),
   (oo 21 (.len (.tmp 20))),
   (oo 22 (.bin .lss (.tmp 21) (.const (ki 1)))),
   (oo 23 (.mov (.tmp 22))),
   (og 24 23 false (.fa 0 (.tmp 1))),
   (og 25 23 false (.ld (.tmp 24) none)),
   (og 26 23 false (.len (.tmp 25))),
   (og 27 23 false (.bin .gtr (.tmp 26) (.const (ki 3)))),
   (oo 28 (.pick (.tmp 23) (.const (kb true)) (.tmp 27)))]
@[simp] def hist_Check_r5 : List VOp :=
  [(oo 29 (.fa 0 (.tmp 1))),
   (oo 30 (.ld (.tmp 29) none)),
   (oo 31 (.len (.tmp 30))),
   (oo 32 (.mov (.const (ki 0))))]
@[simp] def hist_Check_r6 : List VOp :=
  [(oo 33 (.bin .lss (.tmp 32) (.tmp 31)))]
@[simp] def hist_Check_r7 : List VOp :=
  [(oo 34 (.ia 1 (.tmp 30) (.tmp 32))),
   (oo 35 (.ld (.tmp 34) (some 1))),
   (oo 7 (.alloc [.nil 1])),
   (on (.st (.tmp 7) (.tmp 35) 1))]
@[simp] def hist_Check_r8 : List VOp :=
  [(oo 36 (.ld (.tmp 7) (some 1))),
   (oo 37 (.call n_row_Check [(.tmp 36)])),
   (oo 38 (.bin .neq (.tmp 37) (.const (ki 0))))]
@[simp] def hist_Check_r9 : List VOp :=
  [(oo 39 (.bin .add (.tmp 32) (.const (ki 1)))),
   (oo 32 (.mov (.tmp 39)))]
def hist_Check_l10 : VCode :=
  (.seq (.reg hist_Check_r6) (.seq (.cond (.tmp 33) .skip (.exit 0)) (.seq (.block 1 (.seq (.reg hist_Check_r7) (.seq (.reg hist_Check_r8) (.cond (.tmp 38) (.goto 0) .skip)))) (.reg hist_Check_r9))))
@[simp] def hist_Check_r11 : List VOp :=
  [(oo 40 (.fa 1 (.tmp 1))),
   (oo 41 (.ld (.tmp 40) none)),
   (oo 42 (.len (.tmp 41))),
   (oo 43 (.mov (.const (ki 0))))]
@[simp] def hist_Check_r12 : List VOp :=
  [(oo 44 (.bin .lss (.tmp 43) (.tmp 42)))]
@[simp] def hist_Check_r13 : List VOp :=
  [(oo 45 (.ia 22 (.tmp 41) (.tmp 43))),
   (oo 46 (.ld (.tmp 45) (some 22))),
   (oo 9 (.alloc [zi, zi, zi, zi, zb, zi, zs, zi, zi, zi, .nil 3, zi, zi, zb, zi, zs, zb, zi, zs, .nil 9, .nil 5, zb])),
   (on (.st (.tmp 9) (.tmp 46) 22))]
@[simp] def hist_Check_r14 : List VOp :=
  [(oo 47 (.mov (.tmp 4))),
   (oo 48 (.ld (.tmp 9) (some 22))),
   (oo 49 (.callv (.tmp 47) [(.tmp 48)])),
   (oo 50 (.un .not (.tmp 49)))]
@[simp] def hist_Check_r15 : List VOp :=
  [(oo 51 (.bin .add (.tmp 43) (.const (ki 1)))),
   (oo 43 (.mov (.tmp 51)))]
def hist_Check_l16 : VCode :=
  (.seq (.reg hist_Check_r12) (.seq (.cond (.tmp 44) .skip (.exit 2)) (.seq (.block 3 (.seq (.reg hist_Check_r13) (.seq (.reg hist_Check_r14) (.cond (.tmp 50) (.goto 0) .skip)))) (.reg hist_Check_r15))))
@[simp] def hist_Check_r17 : List VOp :=
  [(oo 52 (.mov (.tmp 5))),
   (oo 53 (.callv (.tmp 52) []))]
@[simp] def hist_Check_r18 : List VOp :=
  [(oo 2 (.mov (.const (ki 0))))]
@[simp] def hist_Check_r19 : List VOp :=
  [(oo 2 (.mov (.const (ki 180))))]
@[simp] def hist_Check_r20 : List VOp :=
  [(oo 2 (.mov (.const (ki 180))))]
def hist_Check : VCode := (.seq (.reg hist_Check_r0) (.scopeL (.seq (.reg hist_Check_r1) (.seq (.reg hist_Check_r2) (.seq (.reg hist_Check_r3) (.seq (.seq (.reg hist_Check_r4) (.cond (.tmp 28) (.goto 0) .skip)) (.seq (.seq (.reg hist_Check_r5) (.block 0 (.loop hist_Check_l10))) (.seq (.seq (.reg hist_Check_r11) (.block 2 (.loop hist_Check_l16))) (.seq (.seq (.reg hist_Check_r17) (.cond (.tmp 53) (.seq (.reg hist_Check_r18) .ret) .skip)) (.seq .skip (.seq (.reg hist_Check_r19) .ret))))))))) 0 (.seq .skip (.seq (.reg hist_Check_r20) .ret))))
theorem hist_Check_is : fnV prog n_hist_Check = some (54, hist_Check, [.tmp 2]) := by kernel_rfl
/- row_Clone -/
@[simp] def row_Clone_r0 : List VOp :=
  [(oo 2 (.nils 3))]
@[simp] def row_Clone_r1 : List VOp :=
  [(oo 3 (.mov (.tmp 0))),
   (oo 4 (.call n_slices_Clone_api_Row_api_Value [(.tmp 3)])),
   (oo 2 (.mov (.tmp 4)))]
def row_Clone : VCode := (.seq (.reg row_Clone_r0) (.seq (.reg row_Clone_r1) .ret))
theorem row_Clone_is : fnV prog n_row_Clone = some (5, row_Clone, [.tmp 2]) := by kernel_rfl
/- rr18_tables -/
@[simp] def rr18_tables_r0 : List VOp :=
  [(oo 1 (.box (.tmp 0))),
   (oo 2 (.mov (.const (kb false))))]
@[simp] def rr18_tables_r1 : List VOp :=
  [(oo 5 (.fa 0 (.tmp 1))),
   (oo 6 (.ld (.tmp 5) none)),
   (oo 7 (.len (.tmp 6))),
   (oo 8 (.bin .lss (.tmp 7) (.const (ki 1)))),
   (oo 9 (.mov (.tmp 8))),
   (og 10 9 false (.fa 0 (.tmp 1))),
   (og 11 9 false (.ld (.tmp 10) none)),
   (og 12 9 false (.len (.tmp 11))),
   (og 13 9 false (.bin .gtr (.tmp 12) (.const (ki 3)))),
   (oo 14 (.pick (.tmp 9) (.const (kb true)) (.tmp 13)))]
@[simp] def rr18_tables_r2 : List VOp :=
  [(oo 2 (.mov (.const (kb false))))]
@[simp] def rr18_tables_r3 : List VOp :=
  [(oo 3 (.mov (.const (ki 0))))]
@[simp] def rr18_tables_r4 : List VOp :=
  [(oo 15 (.mov (.tmp 3))),
   (oo 16 (.fa 0 (.tmp 1))),
   (oo 17 (.ld (.tmp 16) none)),
   (oo 18 (.len (.tmp 17))),
   (oo 19 (.bin .lss (.tmp 15) (.tmp 18)))]
@[simp] def rr18_tables_r5 : List VOp :=
  [(oo 22 (.fa 0 (.tmp 1))),
   (oo 23 (.ld (.tmp 22) none)),
   (oo 24 (.mov (.tmp 3))),
   (oo 25 (.ia 1 (.tmp 23) (.tmp 24))),
   (oo 26 (.ld (.tmp 25) (some 1))),
   (oo 27 (.call n_rr02_May [(.tmp 26)])),
   (oo 4 (.mov (.tmp 27)))]
@[simp] def rr18_tables_r6 : List VOp :=
  [(oo 28 (.mov (.tmp 4))),
   (oo 29 (.un .not (.tmp 28)))]
@[simp] def rr18_tables_r7 : List VOp :=
  [(oo 2 (.mov (.const (kb false))))]
@[simp] def rr18_tables_r8 : List VOp :=
  [(oo 20 (.mov (.tmp 3))),
   (oo 21 (.bin .add (.tmp 20) (.const (ki 1)))),
   (oo 3 (.mov (.tmp 21)))]
def rr18_tables_l9 : VCode :=
  (.seq (.seq (.reg rr18_tables_r4) (.cond (.tmp 19) .skip (.exit 0))) (.seq (.block 1 (.seq (.reg rr18_tables_r5) (.seq (.reg rr18_tables_r6) (.cond (.tmp 29) (.seq (.reg rr18_tables_r7) .ret) .skip)))) (.reg rr18_tables_r8)))
@[simp] def rr18_tables_r10 : List VOp :=
  [(oo 2 (.mov (.const (kb true))))]
def rr18_tables : VCode := (.seq (.reg rr18_tables_r0) (.seq (.seq (.reg rr18_tables_r1) (.cond (.tmp 14) (.seq (.reg rr18_tables_r2) .ret) .skip)) (.seq (.seq (.reg rr18_tables_r3) (.block 0 (.loop rr18_tables_l9))) (.seq (.reg rr18_tables_r10) .ret))))
theorem rr18_tables_is : fnV prog n_rr18_tables = some (30, rr18_tables, [.tmp 2]) := by kernel_rfl
/- rr18_event -/
@[simp] def rr18_event_r0 : List VOp :=
  [(oo 2 (.box (.tmp 0))),
   (oo 4 (.mov (.const (kb false))))]
@[simp] def rr18_event_r1 : List VOp :=
  [(oo 6 (.ld (.tmp 2) (some 3))),
   (oo 7 (.mov (.tmp 1))),
   (oo 8 (.call n_rr18_frame [(.tmp 6), (.tmp 7)])),
   (oo 5 (.mov (.tmp 8)))]
@[simp] def rr18_event_r2 : List VOp :=
  [(oo 9 (.mov (.tmp 5))),
   (oo 10 (.un .not (.tmp 9)))]
@[simp] def rr18_event_r3 : List VOp :=
  [(oo 4 (.mov (.const (kb false))))]
@[simp] def rr18_event_r4 : List VOp :=
  [(oo 11 (.fa 1 (.tmp 2))),
   (oo 12 (.ld (.tmp 11) none)),
   (oo 13 (.mov (.tmp 1))),
   (oo 14 (.ia 22 (.tmp 12) (.tmp 13))),
   (oo 15 (.fa 1 (.tmp 14))),
   (oo 16 (.ld (.tmp 15) none))]
@[simp] def rr18_event_r5 : List VOp :=
  [(oo 18 (.bin .eql (.tmp 16) (.const (ki 2)))),
   (oo 17 (.mov (.tmp 18)))]
@[simp] def rr18_event_r6 : List VOp :=
  [(oo 19 (.ld (.tmp 2) (some 3))),
   (oo 20 (.mov (.tmp 1))),
   (oo 21 (.call n_rr18_read [(.tmp 19), (.tmp 20)])),
   (oo 4 (.mov (.tmp 21)))]
@[simp] def rr18_event_r7 : List VOp :=
  [(oo 23 (.bin .eql (.tmp 16) (.const (ki 3)))),
   (oo 22 (.mov (.tmp 23)))]
@[simp] def rr18_event_r8 : List VOp :=
  [(oo 24 (.ld (.tmp 2) (some 3))),
   (oo 25 (.mov (.tmp 1))),
   (oo 26 (.call n_rr18_write [(.tmp 24), (.tmp 25)])),
   (oo 4 (.mov (.tmp 26)))]
@[simp] def rr18_event_r9 : List VOp :=
  [(oo 28 (.bin .eql (.tmp 16) (.const (ki 4)))),
   (oo 27 (.mov (.tmp 28)))]
@[simp] def rr18_event_r10 : List VOp :=
  [(oo 29 (.ld (.tmp 2) (some 3))),
   (oo 30 (.mov (.tmp 1))),
   (oo 31 (.call n_rr18_pred [(.tmp 29), (.tmp 30)])),
   (oo 4 (.mov (.tmp 31)))]
@[simp] def rr18_event_r11 : List VOp :=
  [(oo 4 (.mov (.const (kb true))))]
def rr18_event : VCode := (.seq (.reg rr18_event_r0) (.seq (.reg rr18_event_r1) (.seq (.seq (.reg rr18_event_r2) (.cond (.tmp 10) (.seq (.reg rr18_event_r3) .ret) .skip)) (.seq (.seq (.reg rr18_event_r4) (.block 0 (.seq (.reg rr18_event_r5) (.cond (.tmp 17) (.seq (.reg rr18_event_r6) .ret) (.seq (.reg rr18_event_r7) (.cond (.tmp 22) (.seq (.reg rr18_event_r8) .ret) (.seq (.reg rr18_event_r9) (.cond (.tmp 27) (.seq (.reg rr18_event_r10) .ret) .skip)))))))) (.seq (.reg rr18_event_r11) .ret)))))
theorem rr18_event_is : fnV prog n_rr18_event = some (32, rr18_event, [.tmp 4]) := by kernel_rfl
/- rr18_installed -/
@[simp] def rr18_installed_r0 : List VOp :=
  [(oo 2 (.box (.tmp 0))),
   (oo 4 (.mov (.const (kb false))))]
@[simp] def rr18_installed_r1 : List VOp :=
  [(oo 10 (.fa 1 (.tmp 2))),
   (oo 11 (.ld (.tmp 10) none)),
   (oo 12 (.mov (.tmp 1))),
   (oo 13 (.ia 22 (.tmp 11) (.tmp 12))),
   (oo 14 (.ld (.tmp 13) (some 22))),
   (oo 5 (.alloc [zi, zi, zi, zi, zb, zi, zs, zi, zi, zi, .nil 3, zi, zi, zb, zi, zs, zb, zi, zs, .nil 9, .nil 5, zb])),
   (on (.st (.tmp 5) (.tmp 14) 22))]
@[simp] def rr18_installed_r2 : List VOp :=
  [(oo 15 (.ld (.tmp 2) (some 3))),
   (oo 16 (.fa 0 (.tmp 5))),
   (oo 17 (.ld (.tmp 16) none)),
   (oo 18 (.call n_rr18_Committed [(.tmp 15), (.tmp 17)])),
   (oo 6 (.mov (.tmp 18)))]
@[simp] def rr18_installed_r3 : List VOp :=
  [(oo 19 (.fa 1 (.tmp 5))),
   (oo 20 (.ld (.tmp 19) none)),
   (oo 21 (.bin .neq (.tmp 20) (.const (ki 3)))),
   (oo 22 (.mov (.tmp 21))),
   (og 23 22 false (.mov (.tmp 6))),
   (og 24 22 false (.un .not (.tmp 23))),
   (oo 25 (.pick (.tmp 22) (.const (kb true)) (.tmp 24)))]
@[simp] def rr18_installed_r4 : List VOp :=
  [(oo 4 (.mov (.const (kb true))))]
@[simp] def rr18_installed_r5 : List VOp :=
  [(oo 7 (.mov (.const (ki 0))))]
@[simp] def rr18_installed_r6 : List VOp :=
  [(oo 26 (.mov (.tmp 7))),
   (oo 27 (.fa 2 (.tmp 2))),
   (oo 28 (.ld (.tmp 27) none)),
   (oo 29 (.len (.tmp 28))),
   (oo 30 (.bin .lss (.tmp 26) (.tmp 29)))]
@[simp] def rr18_installed_r7 : List VOp :=
  [(oo 33 (.fa 2 (.tmp 2))),
   (oo 34 (.ld (.tmp 33) none)),
   (oo 35 (.mov (.tmp 7))),
   (oo 36 (.ia 5 (.tmp 34) (.tmp 35))),
   (oo 37 (.ld (.tmp 36) (some 5))),
   (oo 8 (.alloc [zi, zb, zi, zs, .nil 1])),
   (on (.st (.tmp 8) (.tmp 37) 5))]
@[simp] def rr18_installed_r8 : List VOp :=
  [(oo 38 (.fa 0 (.tmp 8))),
   (oo 39 (.ld (.tmp 38) none)),
   (oo 40 (.fa 3 (.tmp 5))),
   (oo 41 (.ld (.tmp 40) none)),
   (oo 42 (.bin .neq (.tmp 39) (.tmp 41))),
   (oo 43 (.mov (.tmp 42))),
   (og 44 43 false (.fa 1 (.tmp 8))),
   (og 45 43 false (.ld (.tmp 44) (some 3))),
   (og 46 43 false (.fa 4 (.tmp 5))),
   (og 47 43 false (.ld (.tmp 46) (some 3))),
   (og 48 43 false (.eqs true [.b, .i .i64, .s] (.tmp 45) (.tmp 47))),
   (oo 49 (.pick (.tmp 43) (.const (kb true)) (.tmp 48)))]
@[simp] def rr18_installed_r9 : List VOp :=
  [(oo 9 (.mov (.const (ki 0))))]
@[simp] def rr18_installed_r10 : List VOp :=
  [(oo 50 (.mov (.tmp 9))),
   (oo 51 (.fa 4 (.tmp 8))),
   (oo 52 (.ld (.tmp 51) none)),
   (oo 53 (.len (.tmp 52))),
   (oo 54 (.bin .lss (.tmp 50) (.tmp 53)))]
@[simp] def rr18_installed_t11 : VT :=
  .op (oo 57 (.fa 4 (.tmp 8))) <|
  .op (oo 58 (.ld (.tmp 57) none)) <|
  .op (oo 59 (.mov (.tmp 9))) <|
  .op (oo 60 (.ia 1 (.tmp 58) (.tmp 59))) <|
  .op (oo 61 (.ld (.tmp 60) none)) <|
  .op (oo 62 (.fa 0 (.tmp 5))) <|
  .op (oo 63 (.ld (.tmp 62) none)) <|
  .op (oo 64 (.bin .eql (.tmp 61) (.tmp 63))) <|
  .done
@[simp] def rr18_installed_r12 : List VOp :=
  [(oo 4 (.mov (.const (kb true))))]
@[simp] def rr18_installed_r13 : List VOp :=
  [(oo 55 (.mov (.tmp 9))),
   (oo 56 (.bin .add (.tmp 55) (.const (ki 1)))),
   (oo 9 (.mov (.tmp 56)))]
def rr18_installed_l14 : VCode :=
  (.seq (.seq (.reg rr18_installed_r10) (.cond (.tmp 54) .skip (.exit 2))) (.seq (.block 3 (.seq (.any rr18_installed_t11) (.cond (.tmp 64) (.seq (.reg rr18_installed_r12) .ret) .skip))) (.reg rr18_installed_r13)))
@[simp] def rr18_installed_r15 : List VOp :=
  [(oo 31 (.mov (.tmp 7))),
   (oo 32 (.bin .add (.tmp 31) (.const (ki 1)))),
   (oo 7 (.mov (.tmp 32)))]
def rr18_installed_l16 : VCode :=
  (.seq (.seq (.reg rr18_installed_r6) (.cond (.tmp 30) .skip (.exit 0))) (.seq (.block 1 (.seq (.reg rr18_installed_r7) (.seq (.seq (.reg rr18_installed_r8) (.cond (.tmp 49) (.exit 1) .skip)) (.seq (.reg rr18_installed_r9) (.block 2 (.loop rr18_installed_l14)))))) (.reg rr18_installed_r15)))
@[simp] def rr18_installed_r17 : List VOp :=
  [(oo 4 (.mov (.const (kb false))))]
def rr18_installed : VCode := (.seq (.reg rr18_installed_r0) (.seq (.reg rr18_installed_r1) (.seq (.reg rr18_installed_r2) (.seq (.seq (.reg rr18_installed_r3) (.cond (.tmp 25) (.seq (.reg rr18_installed_r4) .ret) .skip)) (.seq (.seq (.reg rr18_installed_r5) (.block 0 (.loop rr18_installed_l16))) (.seq (.reg rr18_installed_r17) .ret))))))
theorem rr18_installed_is : fnV prog n_rr18_installed = some (65, rr18_installed, [.tmp 4]) := by kernel_rfl
/- rr18_install -/
@[simp] def rr18_install_r0 : List VOp :=
  [(oo 2 (.box (.tmp 0))),
   (oo 4 (.mov (.const (kb false))))]
@[simp] def rr18_install_r1 : List VOp :=
  [(oo 10 (.fa 2 (.tmp 2))),
   (oo 11 (.ld (.tmp 10) none)),
   (oo 12 (.mov (.tmp 1))),
   (oo 13 (.ia 5 (.tmp 11) (.tmp 12))),
   (oo 14 (.ld (.tmp 13) (some 5))),
   (oo 5 (.alloc [zi, zb, zi, zs, .nil 1])),
   (on (.st (.tmp 5) (.tmp 14) 5))]
@[simp] def rr18_install_r2 : List VOp :=
  [(oo 6 (.mov (.const (ki 0))))]
@[simp] def rr18_install_r3 : List VOp :=
  [(oo 15 (.mov (.tmp 6))),
   (oo 16 (.mov (.tmp 1))),
   (oo 17 (.bin .lss (.tmp 15) (.tmp 16)))]
@[simp] def rr18_install_t4 : VT :=
  .op (oo 20 (.fa 2 (.tmp 2))) <|
  .op (oo 21 (.ld (.tmp 20) none)) <|
  .op (oo 22 (.mov (.tmp 6))) <|
  .op (oo 23 (.ia 5 (.tmp 21) (.tmp 22))) <|
  .op (oo 24 (.fa 0 (.tmp 23))) <|
  .op (oo 25 (.ld (.tmp 24) none)) <|
  .op (oo 26 (.fa 0 (.tmp 5))) <|
  .op (oo 27 (.ld (.tmp 26) none)) <|
  .op (oo 28 (.bin .eql (.tmp 25) (.tmp 27))) <|
  .op (oo 29 (.mov (.tmp 28))) <|
  .op (og 30 29 true (.fa 2 (.tmp 2))) <|
  .op (og 31 29 true (.ld (.tmp 30) none)) <|
  .op (og 32 29 true (.mov (.tmp 6))) <|
  .op (og 33 29 true (.ia 5 (.tmp 31) (.tmp 32))) <|
  .op (og 34 29 true (.fa 1 (.tmp 33))) <|
  .op (og 35 29 true (.ld (.tmp 34) (some 3))) <|
  .op (og 36 29 true (.fa 1 (.tmp 5))) <|
  .op (og 37 29 true (.ld (.tmp 36) (some 3))) <|
  .op (og 38 29 true (.eqs false [.b, .i .i64, .s] (.tmp 35) (.tmp 37))) <|
  .op (oo 39 (.pick (.tmp 29) (.tmp 38) (.const (kb false)))) <|
  .done
@[simp] def rr18_install_r5 : List VOp :=
  [(oo 4 (.mov (.const (kb false))))]
@[simp] def rr18_install_r6 : List VOp :=
  [(oo 18 (.mov (.tmp 6))),
   (oo 19 (.bin .add (.tmp 18) (.const (ki 1)))),
   (oo 6 (.mov (.tmp 19)))]
def rr18_install_l7 : VCode :=
  (.seq (.seq (.reg rr18_install_r3) (.cond (.tmp 17) .skip (.exit 0))) (.seq (.block 1 (.seq (.any rr18_install_t4) (.cond (.tmp 39) (.seq (.reg rr18_install_r5) .ret) .skip))) (.reg rr18_install_r6)))
@[simp] def rr18_install_r8 : List VOp :=
  [(oo 7 (.mov (.const (ki 0))))]
@[simp] def rr18_install_r9 : List VOp :=
  [(oo 40 (.mov (.tmp 7))),
   (oo 41 (.fa 4 (.tmp 5))),
   (oo 42 (.ld (.tmp 41) none)),
   (oo 43 (.len (.tmp 42))),
   (oo 44 (.bin .lss (.tmp 40) (.tmp 43)))]
@[simp] def rr18_install_t10 : VT :=
  .op (oo 47 (.ld (.tmp 2) (some 3))) <|
  .op (oo 48 (.fa 4 (.tmp 5))) <|
  .op (oo 49 (.ld (.tmp 48) none)) <|
  .op (oo 50 (.mov (.tmp 7))) <|
  .op (oo 51 (.ia 1 (.tmp 49) (.tmp 50))) <|
  .op (oo 52 (.ld (.tmp 51) none)) <|
  .op (oo 53 (.call n_rr18_Committed [(.tmp 47), (.tmp 52)])) <|
  .op (oo 8 (.mov (.tmp 53))) <|
  .done
@[simp] def rr18_install_t11 : VT :=
  .op (oo 54 (.mov (.tmp 8))) <|
  .op (oo 55 (.un .not (.tmp 54))) <|
  .op (oo 56 (.mov (.tmp 55))) <|
  .op (og 57 56 false (.ld (.tmp 2) (some 3))) <|
  .op (og 58 56 false (.fa 1 (.tmp 2))) <|
  .op (og 59 56 false (.ld (.tmp 58) none)) <|
  .op (og 60 56 false (.len (.tmp 59))) <|
  .op (og 61 56 false (.fa 4 (.tmp 5))) <|
  .op (og 62 56 false (.ld (.tmp 61) none)) <|
  .op (og 63 56 false (.mov (.tmp 7))) <|
  .op (og 64 56 false (.ia 1 (.tmp 62) (.tmp 63))) <|
  .op (og 65 56 false (.ld (.tmp 64) none)) <|
  .op (og 66 56 false (.fa 0 (.tmp 5))) <|
  .op (og 67 56 false (.ld (.tmp 66) none)) <|
  .op (og 68 56 false (.fa 1 (.tmp 5))) <|
  .op (og 69 56 false (.ld (.tmp 68) (some 3))) <|
  .op (og 70 56 false (.call n_rr18_Writes [(.tmp 57), (.tmp 60), (.tmp 65), (.tmp 67), (.tmp 69)])) <|
  .op (og 71 56 false (.bin .eql (.tmp 70) (.const (ki 0)))) <|
  .op (oo 72 (.pick (.tmp 56) (.const (kb true)) (.tmp 71))) <|
  .done
@[simp] def rr18_install_r12 : List VOp :=
  [(oo 4 (.mov (.const (kb false))))]
@[simp] def rr18_install_r13 : List VOp :=
  [(oo 9 (.mov (.const (ki 0))))]
@[simp] def rr18_install_r14 : List VOp :=
  [(oo 73 (.mov (.tmp 9))),
   (oo 74 (.mov (.tmp 7))),
   (oo 75 (.bin .lss (.tmp 73) (.tmp 74)))]
@[simp] def rr18_install_t15 : VT :=
  .op (oo 78 (.fa 4 (.tmp 5))) <|
  .op (oo 79 (.ld (.tmp 78) none)) <|
  .op (oo 80 (.mov (.tmp 9))) <|
  .op (oo 81 (.ia 1 (.tmp 79) (.tmp 80))) <|
  .op (oo 82 (.ld (.tmp 81) none)) <|
  .op (oo 83 (.fa 4 (.tmp 5))) <|
  .op (oo 84 (.ld (.tmp 83) none)) <|
  .op (oo 85 (.mov (.tmp 7))) <|
  .op (oo 86 (.ia 1 (.tmp 84) (.tmp 85))) <|
  .op (oo 87 (.ld (.tmp 86) none)) <|
  .op (oo 88 (.bin .eql (.tmp 82) (.tmp 87))) <|
  .done
@[simp] def rr18_install_r16 : List VOp :=
  [(oo 4 (.mov (.const (kb false))))]
@[simp] def rr18_install_r17 : List VOp :=
  [(oo 76 (.mov (.tmp 9))),
   (oo 77 (.bin .add (.tmp 76) (.const (ki 1)))),
   (oo 9 (.mov (.tmp 77)))]
def rr18_install_l18 : VCode :=
  (.seq (.seq (.reg rr18_install_r14) (.cond (.tmp 75) .skip (.exit 4))) (.seq (.block 5 (.seq (.any rr18_install_t15) (.cond (.tmp 88) (.seq (.reg rr18_install_r16) .ret) .skip))) (.reg rr18_install_r17)))
@[simp] def rr18_install_r19 : List VOp :=
  [(oo 45 (.mov (.tmp 7))),
   (oo 46 (.bin .add (.tmp 45) (.const (ki 1)))),
   (oo 7 (.mov (.tmp 46)))]
def rr18_install_l20 : VCode :=
  (.seq (.seq (.reg rr18_install_r9) (.cond (.tmp 44) .skip (.exit 2))) (.seq (.block 3 (.seq (.any rr18_install_t10) (.seq (.seq (.any rr18_install_t11) (.cond (.tmp 72) (.seq (.reg rr18_install_r12) .ret) .skip)) (.seq (.reg rr18_install_r13) (.block 4 (.loop rr18_install_l18)))))) (.reg rr18_install_r19)))
@[simp] def rr18_install_r21 : List VOp :=
  [(oo 89 (.fa 4 (.tmp 5))),
   (oo 90 (.ld (.tmp 89) none)),
   (oo 91 (.len (.tmp 90))),
   (oo 92 (.bin .gtr (.tmp 91) (.const (ki 0)))),
   (oo 4 (.mov (.tmp 92)))]
def rr18_install : VCode := (.seq (.reg rr18_install_r0) (.seq (.reg rr18_install_r1) (.seq (.seq (.reg rr18_install_r2) (.block 0 (.loop rr18_install_l7))) (.seq (.seq (.reg rr18_install_r8) (.block 2 (.loop rr18_install_l20))) (.seq (.reg rr18_install_r21) .ret)))))
theorem rr18_install_is : fnV prog n_rr18_install = some (93, rr18_install, [.tmp 4]) := by kernel_rfl
/- slices_Clone_int_int -/
@[simp] def slices_Clone_int_int_r0 : List VOp :=
  [(oo 2 (.nils 1))]
@[simp] def slices_Clone_int_int_r1 : List VOp :=
  [(oo 3 (.mov (.tmp 0))),
   (oo 4 (.snil false (.tmp 3)))]
@[simp] def slices_Clone_int_int_r2 : List VOp :=
  [(oo 2 (.nils 1))]
@[simp] def slices_Clone_int_int_r3 : List VOp :=
  [(oo 5 (.lit 1 0 [])),
   (oo 6 (.mov (.tmp 0))),
   (oo 7 (.app 1 8 (.tmp 5) (.tmp 6))),
   (oo 2 (.mov (.tmp 7)))]
def slices_Clone_int_int : VCode := (.seq (.reg slices_Clone_int_int_r0) (.seq (.seq (.reg slices_Clone_int_int_r1) (.cond (.tmp 4) (.seq (.reg slices_Clone_int_int_r2) .ret) .skip)) (.seq (.reg slices_Clone_int_int_r3) .ret)))
theorem slices_Clone_int_int_is : fnV prog n_slices_Clone_int_int = some (8, slices_Clone_int_int, [.tmp 2]) := by kernel_rfl
/- order_Book_chain -/
@[simp] def order_Book_chain_r0 : List VOp :=
  [(oo 5 (.box (.tmp 2))),
   (oo 6 (.nils 2))]
@[simp] def order_Book_chain_t1 : VT :=
  .op (oo 10 (.mov (.tmp 0))) <|
  .op (oo 11 (.chk (.tmp 10))) <|
  .op (oo 12 (.fa 4 (.tmp 11))) <|
  .op (oo 13 (.ld (.tmp 12) none)) <|
  .op (oo 14 (.mov (.tmp 1))) <|
  .op (oo 15 (.ld (.tmp 5) (some 3))) <|
  .op (oo 16 (.build [zi, zb, zi, zs] [(0, 1, (.tmp 14)), (1, 3, (.tmp 15))])) <|
  .op (oo 17 (.lkp (true, [.i .i64, .b, .i .i64, .s], false) [.nil 2] (.tmp 13) (.tmp 16) true)) <|
  .op (oo 9 (.mov (.tmp 17))) <|
  .op (oo 18 (.ext 0 (.tmp 9))) <|
  .op (oo 19 (.ext 1 (.tmp 9))) <|
  .op (oo 7 (.mov (.tmp 18))) <|
  .op (oo 8 (.mov (.tmp 19))) <|
  .done
@[simp] def order_Book_chain_r2 : List VOp :=
  [(oo 20 (.mov (.tmp 8))),
   (oo 21 (.un .not (.tmp 20)))]
@[simp] def order_Book_chain_r3 : List VOp :=
  [(oo 22 (.build [zi, zi] [])),
   (oo 23 (.lit 2 1 [(0, (.tmp 22))])),
   (oo 6 (.mov (.tmp 23)))]
@[simp] def order_Book_chain_r4 : List VOp :=
  [(oo 24 (.mov (.tmp 7))),
   (oo 6 (.mov (.tmp 24)))]
def order_Book_chain : VCode := (.seq (.reg order_Book_chain_r0) (.seq (.any order_Book_chain_t1) (.seq (.seq (.reg order_Book_chain_r2) (.cond (.tmp 21) (.seq (.reg order_Book_chain_r3) .ret) .skip)) (.seq (.reg order_Book_chain_r4) .ret))))
theorem order_Book_chain_is : fnV prog n_order_Book_chain = some (25, order_Book_chain, [.tmp 6]) := by kernel_rfl
/- rr18_Writes -/
@[simp] def rr18_Writes_r0 : List VOp :=
  [(oo 5 (.box (.tmp 0))),
   (oo 9 (.box (.tmp 4))),
   (oo 10 (.mov (.const (ki 0))))]
@[simp] def rr18_Writes_r1 : List VOp :=
  [(oo 11 (.mov (.const (ki 0))))]
@[simp] def rr18_Writes_r2 : List VOp :=
  [(oo 12 (.mov (.const (ki 0))))]
@[simp] def rr18_Writes_r3 : List VOp :=
  [(oo 14 (.mov (.tmp 12))),
   (oo 15 (.mov (.tmp 1))),
   (oo 16 (.bin .lss (.tmp 14) (.tmp 15))),
   (oo 17 (.mov (.tmp 16))),
   (og 18 17 true (.mov (.tmp 12))),
   (og 19 17 true (.fa 1 (.tmp 5))),
   (og 20 17 true (.ld (.tmp 19) none)),
   (og 21 17 true (.len (.tmp 20))),
   (og 22 17 true (.bin .lss (.tmp 18) (.tmp 21))),
   (oo 23 (.pick (.tmp 17) (.tmp 22) (.const (kb false))))]
@[simp] def rr18_Writes_r4 : List VOp :=
  [(oo 26 (.fa 1 (.tmp 5))),
   (oo 27 (.ld (.tmp 26) none)),
   (oo 28 (.mov (.tmp 12))),
   (oo 29 (.ia 22 (.tmp 27) (.tmp 28))),
   (oo 30 (.ld (.tmp 29) (some 22))),
   (oo 13 (.alloc [zi, zi, zi, zi, zb, zi, zs, zi, zi, zi, .nil 3, zi, zi, zb, zi, zs, zb, zi, zs, .nil 9, .nil 5, zb])),
   (on (.st (.tmp 13) (.tmp 30) 22))]
@[simp] def rr18_Writes_r5 : List VOp :=
  [(oo 31 (.fa 1 (.tmp 13))),
   (oo 32 (.ld (.tmp 31) none)),
   (oo 33 (.bin .eql (.tmp 32) (.const (ki 3)))),
   (oo 34 (.mov (.tmp 33))),
   (og 35 34 true (.fa 0 (.tmp 13))),
   (og 36 34 true (.ld (.tmp 35) none)),
   (og 37 34 true (.mov (.tmp 2))),
   (og 38 34 true (.bin .eql (.tmp 36) (.tmp 37))),
   (oo 39 (.pick (.tmp 34) (.tmp 38) (.const (kb false)))),
   (oo 40 (.mov (.tmp 39))),
   (og 41 40 true (.fa 3 (.tmp 13))),
   (og 42 40 true (.ld (.tmp 41) none)),
   (og 43 40 true (.mov (.tmp 3))),
   (og 44 40 true (.bin .eql (.tmp 42) (.tmp 43))),
   (oo 45 (.pick (.tmp 40) (.tmp 44) (.const (kb false)))),
   (oo 46 (.mov (.tmp 45))),
   (og 47 46 true (.fa 4 (.tmp 13))),
   (og 48 46 true (.ld (.tmp 47) (some 3))),
   (og 49 46 true (.ld (.tmp 9) (some 3))),
   (og 50 46 true (.eqs false [.b, .i .i64, .s] (.tmp 48) (.tmp 49))),
   (oo 51 (.pick (.tmp 46) (.tmp 50) (.const (kb false))))]
@[simp] def rr18_Writes_r6 : List VOp :=
  [(oo 52 (.mov (.tmp 11))),
   (oo 53 (.bin .add (.tmp 52) (.const (ki 1)))),
   (oo 11 (.mov (.tmp 53)))]
@[simp] def rr18_Writes_r7 : List VOp :=
  [(oo 24 (.mov (.tmp 12))),
   (oo 25 (.bin .add (.tmp 24) (.const (ki 1)))),
   (oo 12 (.mov (.tmp 25)))]
def rr18_Writes_l8 : VCode :=
  (.seq (.seq (.reg rr18_Writes_r3) (.cond (.tmp 23) .skip (.exit 0))) (.seq (.block 1 (.seq (.reg rr18_Writes_r4) (.seq (.reg rr18_Writes_r5) (.cond (.tmp 51) (.reg rr18_Writes_r6) .skip)))) (.reg rr18_Writes_r7)))
@[simp] def rr18_Writes_r9 : List VOp :=
  [(oo 54 (.mov (.tmp 11))),
   (oo 10 (.mov (.tmp 54)))]
def rr18_Writes : VCode := (.seq (.reg rr18_Writes_r0) (.seq (.reg rr18_Writes_r1) (.seq (.seq (.reg rr18_Writes_r2) (.block 0 (.loop rr18_Writes_l8))) (.seq (.reg rr18_Writes_r9) .ret))))
theorem rr18_Writes_is : fnV prog n_rr18_Writes = some (55, rr18_Writes, [.tmp 10]) := by kernel_rfl
/- slices_IndexFunc_api_Version_api_Version -/
@[simp] def slices_IndexFunc_api_Version_api_Version_r0 : List VOp :=
  [(oo 4 (.mov (.const (ki 0))))]
@[simp] def slices_IndexFunc_api_Version_api_Version_r1 : List VOp :=
  [(oo 6 (.mov (.tmp 0))),
   (oo 7 (.len (.tmp 6))),
   (oo 8 (.mov (.const (ki 0))))]
@[simp] def slices_IndexFunc_api_Version_api_Version_r2 : List VOp :=
  [(oo 9 (.bin .lss (.tmp 8) (.tmp 7)))]
@[simp] def slices_IndexFunc_api_Version_api_Version_r3 : List VOp :=
  [(oo 10 (.mov (.tmp 8))),
   (oo 5 (.mov (.tmp 10)))]
@[simp] def slices_IndexFunc_api_Version_api_Version_r4 : List VOp :=
  [(oo 11 (.mov (.tmp 1))),
   (oo 12 (.mov (.tmp 0))),
   (oo 13 (.mov (.tmp 5))),
   (oo 14 (.ia 2 (.tmp 12) (.tmp 13))),
   (oo 15 (.ld (.tmp 14) (some 2))),
   (oo 16 (.callv (.tmp 11) [(.tmp 15)]))]
@[simp] def slices_IndexFunc_api_Version_api_Version_r5 : List VOp :=
  [(oo 17 (.mov (.tmp 5))),
   (oo 4 (.mov (.tmp 17)))]
@[simp] def slices_IndexFunc_api_Version_api_Version_r6 : List VOp :=
  [(oo 18 (.bin .add (.tmp 8) (.const (ki 1)))),
   (oo 8 (.mov (.tmp 18)))]
def slices_IndexFunc_api_Version_api_Version_l7 : VCode :=
  (.seq (.reg slices_IndexFunc_api_Version_api_Version_r2) (.seq (.cond (.tmp 9) .skip (.exit 0)) (.seq (.block 1 (.seq (.reg slices_IndexFunc_api_Version_api_Version_r3) (.seq (.reg slices_IndexFunc_api_Version_api_Version_r4) (.cond (.tmp 16) (.seq (.reg slices_IndexFunc_api_Version_api_Version_r5) .ret) .skip)))) (.reg slices_IndexFunc_api_Version_api_Version_r6))))
@[simp] def slices_IndexFunc_api_Version_api_Version_r8 : List VOp :=
  [(oo 4 (.mov (.const (ki (-1)))))]
def slices_IndexFunc_api_Version_api_Version : VCode := (.seq (.reg slices_IndexFunc_api_Version_api_Version_r0) (.seq (.seq (.reg slices_IndexFunc_api_Version_api_Version_r1) (.block 0 (.loop slices_IndexFunc_api_Version_api_Version_l7))) (.seq (.reg slices_IndexFunc_api_Version_api_Version_r8) .ret)))
theorem slices_IndexFunc_api_Version_api_Version_is : fnV prog n_slices_IndexFunc_api_Version_api_Version = some (19, slices_IndexFunc_api_Version_api_Version, [.tmp 4]) := by kernel_rfl
/- order_Book_Place_1 -/
@[simp] def order_Book_Place_1_r0 : List VOp :=
  [(oo 2 (.box (.tmp 0))),
   (oo 3 (.mov (.const (kb false))))]
@[simp] def order_Book_Place_1_r1 : List VOp :=
  [(oo 4 (.fa 0 (.tmp 2))),
   (oo 5 (.ld (.tmp 4) none)),
   (oo 6 (.fa 0 (.tmp 1))),
   (oo 7 (.ld (.tmp 6) none)),
   (oo 8 (.bin .eql (.tmp 5) (.tmp 7))),
   (oo 3 (.mov (.tmp 8)))]
def order_Book_Place_1 : VCode := (.seq (.reg order_Book_Place_1_r0) (.seq (.reg order_Book_Place_1_r1) .ret))
theorem order_Book_Place_1_is : fnV prog n_order_Book_Place_1 = some (9, order_Book_Place_1, [.tmp 3]) := by kernel_rfl
/- order_Book_Changes_1 -/
@[simp] def order_Book_Changes_1_r0 : List VOp :=
  [(oo 5 (.box (.tmp 0))),
   (oo 6 (.mov (.const (kb false))))]
@[simp] def order_Book_Changes_1_r1 : List VOp :=
  [(oo 10 (.ld (.tmp 1) none)),
   (oo 11 (.ld (.tmp 2) none)),
   (oo 12 (.ld (.tmp 3) (some 3))),
   (oo 13 (.ld (.tmp 5) (some 2))),
   (oo 14 (.call n_order_Book_Row [(.tmp 10), (.tmp 11), (.tmp 12), (.tmp 13)])),
   (oo 9 (.mov (.tmp 14))),
   (oo 15 (.ext 0 (.tmp 9))),
   (oo 16 (.ext 1 (.tmp 9))),
   (oo 7 (.mov (.tmp 15))),
   (oo 8 (.mov (.tmp 16)))]
@[simp] def order_Book_Changes_1_r2 : List VOp :=
  [(oo 17 (.mov (.tmp 7))),
   (oo 18 (.len (.tmp 17))),
   (oo 19 (.bin .gtr (.tmp 18) (.const (ki 0)))),
   (oo 20 (.mov (.tmp 19))),
   (og 21 20 true (.ld (.tmp 4) (some 9))),
   (og 22 20 true (.mov (.tmp 7))),
   (og 23 20 true (.call n_pred_Holds [(.tmp 21), (.tmp 22)])),
   (oo 24 (.pick (.tmp 20) (.tmp 23) (.const (kb false)))),
   (oo 6 (.mov (.tmp 24)))]
def order_Book_Changes_1 : VCode := (.seq (.reg order_Book_Changes_1_r0) (.seq (.reg order_Book_Changes_1_r1) (.seq (.reg order_Book_Changes_1_r2) .ret)))
theorem order_Book_Changes_1_is : fnV prog n_order_Book_Changes_1 = some (25, order_Book_Changes_1, [.tmp 6]) := by kernel_rfl
/- pred_Holds -/
@[simp] def pred_Holds_r0 : List VOp :=
  [(oo 2 (.box (.tmp 0))),
   (oo 3 (.box (.tmp 1))),
   (oo 4 (.mov (.const (kb false))))]
@[simp] def pred_Holds_r1 : List VOp :=
  [(oo 6 (.mkfn n_pred_Holds_1 [] [(.tmp 3)])),
   (oo 5 (.alloc [.iv (.v .nilFunc)])),
   (on (.st (.tmp 5) (.tmp 6) 1))]
@[simp] def pred_Holds_r2 : List VOp :=
  [(oo 7 (.fa 0 (.tmp 2))),
   (oo 8 (.ld (.tmp 7) none))]
@[simp] def pred_Holds_r3 : List VOp :=
  [(oo 10 (.bin .eql (.tmp 8) (.const (ki 1)))),
   (oo 9 (.mov (.tmp 10)))]
@[simp] def pred_Holds_r4 : List VOp :=
  [(oo 4 (.mov (.const (kb true))))]
@[simp] def pred_Holds_r5 : List VOp :=
  [(oo 12 (.bin .eql (.tmp 8) (.const (ki 3)))),
   (oo 11 (.mov (.tmp 12)))]
@[simp] def pred_Holds_r6 : List VOp :=
  [(oo 13 (.bin .eql (.tmp 8) (.const (ki 4)))),
   (oo 11 (.mov (.tmp 13)))]
@[simp] def pred_Holds_r7 : List VOp :=
  [(oo 14 (.bin .eql (.tmp 8) (.const (ki 5)))),
   (oo 11 (.mov (.tmp 14)))]
@[simp] def pred_Holds_r8 : List VOp :=
  [(oo 15 (.bin .eql (.tmp 8) (.const (ki 6)))),
   (oo 11 (.mov (.tmp 15)))]
@[simp] def pred_Holds_r9 : List VOp :=
  [(oo 16 (.bin .eql (.tmp 8) (.const (ki 7)))),
   (oo 11 (.mov (.tmp 16)))]
@[simp] def pred_Holds_r10 : List VOp :=
  [(oo 17 (.bin .eql (.tmp 8) (.const (ki 8)))),
   (oo 11 (.mov (.tmp 17)))]
@[simp] def pred_Holds_r11 : List VOp :=
  [(oo 18 (.bin .eql (.tmp 8) (.const (ki 9)))),
   (oo 11 (.mov (.tmp 18)))]
@[simp] def pred_Holds_r12 : List VOp :=
  [(oo 19 (.ld (.tmp 2) (some 9))),
   (oo 20 (.ld (.tmp 3) none)),
   (oo 21 (.call n_pred_leaf [(.tmp 19), (.tmp 20)])),
   (oo 4 (.mov (.tmp 21)))]
@[simp] def pred_Holds_r13 : List VOp :=
  [(oo 23 (.bin .eql (.tmp 8) (.const (ki 10)))),
   (oo 22 (.mov (.tmp 23)))]
@[simp] def pred_Holds_t14 : VT :=
  .op (oo 24 (.fa 8 (.tmp 2))) <|
  .op (oo 25 (.ld (.tmp 24) none)) <|
  .op (oo 26 (.len (.tmp 25))) <|
  .op (oo 27 (.bin .eql (.tmp 26) (.const (ki 0)))) <|
  .op (oo 28 (.mov (.tmp 27))) <|
  .op (og 29 28 false (.ld (.tmp 5) none)) <|
  .op (og 30 28 false (.fa 8 (.tmp 2))) <|
  .op (og 31 28 false (.ld (.tmp 30) none)) <|
  .op (og 32 28 false (.ia 9 (.tmp 31) (.const (ki 0)))) <|
  .op (og 33 28 false (.ld (.tmp 32) (some 9))) <|
  .op (og 34 28 false (.callv (.tmp 29) [(.tmp 33)])) <|
  .op (og 35 28 false (.un .not (.tmp 34))) <|
  .op (oo 36 (.pick (.tmp 28) (.const (kb true)) (.tmp 35))) <|
  .op (oo 4 (.mov (.tmp 36))) <|
  .done
@[simp] def pred_Holds_r15 : List VOp :=
  [(oo 38 (.bin .eql (.tmp 8) (.const (ki 11)))),
   (oo 37 (.mov (.tmp 38)))]
@[simp] def pred_Holds_r16 : List VOp :=
  [(oo 39 (.fa 8 (.tmp 2))),
   (oo 40 (.ld (.tmp 39) none)),
   (oo 41 (.mkfn n_pred_Holds_2 [] [(.tmp 5)])),
   (oo 42 (.call n_slices_ContainsFunc_api_Pred_api_Pred [(.tmp 40), (.tmp 41)])),
   (oo 43 (.un .not (.tmp 42))),
   (oo 4 (.mov (.tmp 43)))]
@[simp] def pred_Holds_r17 : List VOp :=
  [(oo 45 (.bin .eql (.tmp 8) (.const (ki 12)))),
   (oo 44 (.mov (.tmp 45)))]
@[simp] def pred_Holds_r18 : List VOp :=
  [(oo 46 (.fa 8 (.tmp 2))),
   (oo 47 (.ld (.tmp 46) none)),
   (oo 48 (.ld (.tmp 5) none)),
   (oo 49 (.call n_slices_ContainsFunc_api_Pred_api_Pred [(.tmp 47), (.tmp 48)])),
   (oo 4 (.mov (.tmp 49)))]
@[simp] def pred_Holds_r19 : List VOp :=
  [(oo 4 (.mov (.const (kb false))))]
def pred_Holds : VCode := (.seq (.reg pred_Holds_r0) (.seq (.reg pred_Holds_r1) (.seq (.seq (.reg pred_Holds_r2) (.block 0 (.seq (.reg pred_Holds_r3) (.cond (.tmp 9) (.seq (.reg pred_Holds_r4) .ret) (.seq (.seq (.reg pred_Holds_r5) (.cond (.tmp 11) .skip (.seq (.reg pred_Holds_r6) (.cond (.tmp 11) .skip (.seq (.reg pred_Holds_r7) (.cond (.tmp 11) .skip (.seq (.reg pred_Holds_r8) (.cond (.tmp 11) .skip (.seq (.reg pred_Holds_r9) (.cond (.tmp 11) .skip (.seq (.reg pred_Holds_r10) (.cond (.tmp 11) .skip (.reg pred_Holds_r11))))))))))))) (.cond (.tmp 11) (.seq (.reg pred_Holds_r12) .ret) (.seq (.reg pred_Holds_r13) (.cond (.tmp 22) (.seq (.any pred_Holds_t14) .ret) (.seq (.reg pred_Holds_r15) (.cond (.tmp 37) (.seq (.reg pred_Holds_r16) .ret) (.seq (.reg pred_Holds_r17) (.cond (.tmp 44) (.seq (.reg pred_Holds_r18) .ret) .skip)))))))))))) (.seq (.reg pred_Holds_r19) .ret))))
theorem pred_Holds_is : fnV prog n_pred_Holds = some (50, pred_Holds, [.tmp 4]) := by kernel_rfl
/- rr18_Ended -/
@[simp] def rr18_Ended_r0 : List VOp :=
  [(oo 2 (.box (.tmp 0))),
   (oo 4 (.mov (.const (ki 0))))]
@[simp] def rr18_Ended_r1 : List VOp :=
  [(oo 5 (.mov (.const (ki 0))))]
@[simp] def rr18_Ended_r2 : List VOp :=
  [(oo 7 (.mov (.tmp 5))),
   (oo 8 (.fa 1 (.tmp 2))),
   (oo 9 (.ld (.tmp 8) none)),
   (oo 10 (.len (.tmp 9))),
   (oo 11 (.bin .lss (.tmp 7) (.tmp 10)))]
@[simp] def rr18_Ended_r3 : List VOp :=
  [(oo 14 (.fa 1 (.tmp 2))),
   (oo 15 (.ld (.tmp 14) none)),
   (oo 16 (.mov (.tmp 5))),
   (oo 17 (.ia 22 (.tmp 15) (.tmp 16))),
   (oo 18 (.ld (.tmp 17) (some 22))),
   (oo 6 (.alloc [zi, zi, zi, zi, zb, zi, zs, zi, zi, zi, .nil 3, zi, zi, zb, zi, zs, zb, zi, zs, .nil 9, .nil 5, zb])),
   (on (.st (.tmp 6) (.tmp 18) 22))]
@[simp] def rr18_Ended_r4 : List VOp :=
  [(oo 19 (.fa 0 (.tmp 6))),
   (oo 20 (.ld (.tmp 19) none)),
   (oo 21 (.mov (.tmp 1))),
   (oo 22 (.bin .eql (.tmp 20) (.tmp 21))),
   (oo 23 (.mov (.tmp 22))),
   (og 24 23 true (.fa 1 (.tmp 6))),
   (og 25 23 true (.ld (.tmp 24) none)),
   (og 26 23 true (.bin .eql (.tmp 25) (.const (ki 5)))),
   (og 27 23 true (.mov (.tmp 26))),
   (og 28 27 false (.fa 1 (.tmp 6))),
   (og 29 27 false (.ld (.tmp 28) none)),
   (og 30 27 false (.bin .eql (.tmp 29) (.const (ki 6)))),
   (og 31 23 true (.pick (.tmp 27) (.const (kb true)) (.tmp 30))),
   (oo 32 (.pick (.tmp 23) (.tmp 31) (.const (kb false))))]
@[simp] def rr18_Ended_r5 : List VOp :=
  [(oo 33 (.fa 1 (.tmp 6))),
   (oo 34 (.ld (.tmp 33) none)),
   (oo 4 (.mov (.tmp 34)))]
@[simp] def rr18_Ended_r6 : List VOp :=
  [(oo 12 (.mov (.tmp 5))),
   (oo 13 (.bin .add (.tmp 12) (.const (ki 1)))),
   (oo 5 (.mov (.tmp 13)))]
def rr18_Ended_l7 : VCode :=
  (.seq (.seq (.reg rr18_Ended_r2) (.cond (.tmp 11) .skip (.exit 0))) (.seq (.block 1 (.seq (.reg rr18_Ended_r3) (.seq (.reg rr18_Ended_r4) (.cond (.tmp 32) (.seq (.reg rr18_Ended_r5) .ret) .skip)))) (.reg rr18_Ended_r6)))
@[simp] def rr18_Ended_r8 : List VOp :=
  [(oo 4 (.mov (.const (ki 0))))]
def rr18_Ended : VCode := (.seq (.reg rr18_Ended_r0) (.seq (.seq (.reg rr18_Ended_r1) (.block 0 (.loop rr18_Ended_l7))) (.seq (.reg rr18_Ended_r8) .ret)))
theorem rr18_Ended_is : fnV prog n_rr18_Ended = some (35, rr18_Ended, [.tmp 4]) := by kernel_rfl
/- hist_Check_1 -/
@[simp] def hist_Check_1_r0 : List VOp :=
  [(oo 2 (.box (.tmp 0))),
   (oo 3 (.mov (.const (kb false))))]
@[simp] def hist_Check_1_r1 : List VOp :=
  [(oo 4 (.ld (.tmp 1) none)),
   (oo 5 (.ld (.tmp 2) (some 22))),
   (oo 6 (.call n_hist_checker_frame [(.tmp 4), (.tmp 5)])),
   (oo 7 (.mov (.tmp 6))),
   (og 8 7 true (.ld (.tmp 1) none)),
   (og 9 7 true (.ld (.tmp 2) (some 22))),
   (og 10 7 true (.call n_hist_checker_read [(.tmp 8), (.tmp 9)])),
   (oo 11 (.pick (.tmp 7) (.tmp 10) (.const (kb false)))),
   (oo 12 (.mov (.tmp 11))),
   (og 13 12 true (.ld (.tmp 1) none)),
   (og 14 12 true (.ld (.tmp 2) (some 22))),
   (og 15 12 true (.call n_hist_checker_saw [(.tmp 13), (.tmp 14)])),
   (oo 16 (.pick (.tmp 12) (.tmp 15) (.const (kb false)))),
   (oo 17 (.mov (.tmp 16))),
   (og 18 17 true (.ld (.tmp 1) none)),
   (og 19 17 true (.ld (.tmp 2) (some 22))),
   (og 20 17 true (.call n_hist_checker_write [(.tmp 18), (.tmp 19)])),
   (oo 21 (.pick (.tmp 17) (.tmp 20) (.const (kb false)))),
   (oo 3 (.mov (.tmp 21)))]
def hist_Check_1 : VCode := (.seq (.reg hist_Check_1_r0) (.seq (.reg hist_Check_1_r1) .ret))
theorem hist_Check_1_is : fnV prog n_hist_Check_1 = some (22, hist_Check_1, [.tmp 3]) := by kernel_rfl
/- hist_checker_frame -/
@[simp] def hist_checker_frame_r0 : List VOp :=
  [(oo 3 (.box (.tmp 1))),
   (oo 4 (.mov (.const (kb false))))]
@[simp] def hist_checker_frame_r1 : List VOp :=
  [(oo 6 (.fa 0 (.tmp 3))),
   (oo 7 (.ld (.tmp 6) none)),
   (oo 8 (.bin .lss (.tmp 7) (.const (ki 1)))),
   (oo 9 (.mov (.tmp 8))),
   (og 10 9 false (.fa 1 (.tmp 3))),
   (og 11 9 false (.ld (.tmp 10) none)),
   (og 12 9 false (.bin .lss (.tmp 11) (.const (ki 1)))),
   (oo 13 (.pick (.tmp 9) (.const (kb true)) (.tmp 12))),
   (oo 14 (.mov (.tmp 13))),
   (og 15 14 false (.fa 1 (.tmp 3))),
   (og 16 14 false (.ld (.tmp 15) none)),
   (og 17 14 false (.bin .gtr (.tmp 16) (.const (ki 6)))),
   (oo 18 (.pick (.tmp 14) (.const (kb true)) (.tmp 17)))]
@[simp] def hist_checker_frame_r2 : List VOp :=
  [(oo 4 (.mov (.const (kb false))))]
@[simp] def hist_checker_frame_t3 : VT :=
  .op (oo 19 (.mov (.tmp 0))) <|
  .op (oo 20 (.chk (.tmp 19))) <|
  .op (oo 21 (.fa 3 (.tmp 20))) <|
  .op (oo 22 (.ld (.tmp 21) none)) <|
  .op (oo 23 (.fa 0 (.tmp 3))) <|
  .op (oo 24 (.ld (.tmp 23) none)) <|
  .op (oo 25 (.lkp (false, [.i .i64], false) [zi] (.tmp 22) (.tmp 24) false)) <|
  .op (oo 5 (.mov (.tmp 25))) <|
  .done
@[simp] def hist_checker_frame_r4 : List VOp :=
  [(oo 26 (.fa 1 (.tmp 3))),
   (oo 27 (.ld (.tmp 26) none)),
   (oo 28 (.bin .eql (.tmp 27) (.const (ki 1))))]
@[simp] def hist_checker_frame_r5 : List VOp :=
  [(oo 29 (.mov (.tmp 5))),
   (oo 30 (.bin .neq (.tmp 29) (.const (ki 0)))),
   (oo 31 (.mov (.tmp 30))),
   (og 32 31 false (.fa 2 (.tmp 3))),
   (og 33 31 false (.ld (.tmp 32) none)),
   (og 34 31 false (.bin .lss (.tmp 33) (.const (ki 1)))),
   (oo 35 (.pick (.tmp 31) (.const (kb true)) (.tmp 34))),
   (oo 36 (.mov (.tmp 35))),
   (og 37 36 false (.fa 2 (.tmp 3))),
   (og 38 36 false (.ld (.tmp 37) none)),
   (og 39 36 false (.bin .gtr (.tmp 38) (.const (ki 5)))),
   (oo 40 (.pick (.tmp 36) (.const (kb true)) (.tmp 39)))]
@[simp] def hist_checker_frame_r6 : List VOp :=
  [(oo 4 (.mov (.const (kb false))))]
@[simp] def hist_checker_frame_t7 : VT :=
  .op (oo 41 (.mov (.tmp 0))) <|
  .op (oo 42 (.chk (.tmp 41))) <|
  .op (oo 43 (.fa 3 (.tmp 42))) <|
  .op (oo 44 (.ld (.tmp 43) none)) <|
  .op (oo 45 (.fa 0 (.tmp 3))) <|
  .op (oo 46 (.ld (.tmp 45) none)) <|
  .op (oo 47 (.fa 1 (.tmp 3))) <|
  .op (oo 48 (.ld (.tmp 47) none)) <|
  .op (on (.mset (false, [.i .i64], false) (.tmp 44) (.tmp 46) (.tmp 48))) <|
  .done
@[simp] def hist_checker_frame_r8 : List VOp :=
  [(oo 4 (.mov (.const (kb true))))]
@[simp] def hist_checker_frame_r9 : List VOp :=
  [(oo 49 (.mov (.tmp 5))),
   (oo 50 (.bin .neq (.tmp 49) (.const (ki 1))))]
@[simp] def hist_checker_frame_r10 : List VOp :=
  [(oo 4 (.mov (.const (kb false))))]
@[simp] def hist_checker_frame_r11 : List VOp :=
  [(oo 51 (.fa 1 (.tmp 3))),
   (oo 52 (.ld (.tmp 51) none)),
   (oo 53 (.bin .eql (.tmp 52) (.const (ki 5)))),
   (oo 54 (.mov (.tmp 53))),
   (og 55 54 false (.fa 1 (.tmp 3))),
   (og 56 54 false (.ld (.tmp 55) none)),
   (og 57 54 false (.bin .eql (.tmp 56) (.const (ki 6)))),
   (oo 58 (.pick (.tmp 54) (.const (kb true)) (.tmp 57)))]
@[simp] def hist_checker_frame_t12 : VT :=
  .op (oo 59 (.mov (.tmp 0))) <|
  .op (oo 60 (.chk (.tmp 59))) <|
  .op (oo 61 (.fa 3 (.tmp 60))) <|
  .op (oo 62 (.ld (.tmp 61) none)) <|
  .op (oo 63 (.fa 0 (.tmp 3))) <|
  .op (oo 64 (.ld (.tmp 63) none)) <|
  .op (oo 65 (.fa 1 (.tmp 3))) <|
  .op (oo 66 (.ld (.tmp 65) none)) <|
  .op (on (.mset (false, [.i .i64], false) (.tmp 62) (.tmp 64) (.tmp 66))) <|
  .done
@[simp] def hist_checker_frame_r13 : List VOp :=
  [(oo 4 (.mov (.const (kb true))))]
def hist_checker_frame : VCode := (.seq (.reg hist_checker_frame_r0) (.seq (.seq (.reg hist_checker_frame_r1) (.cond (.tmp 18) (.seq (.reg hist_checker_frame_r2) .ret) .skip)) (.seq (.any hist_checker_frame_t3) (.seq (.seq (.reg hist_checker_frame_r4) (.cond (.tmp 28) (.seq (.seq (.reg hist_checker_frame_r5) (.cond (.tmp 40) (.seq (.reg hist_checker_frame_r6) .ret) .skip)) (.seq (.any hist_checker_frame_t7) (.seq (.reg hist_checker_frame_r8) .ret))) .skip)) (.seq (.seq (.reg hist_checker_frame_r9) (.cond (.tmp 50) (.seq (.reg hist_checker_frame_r10) .ret) .skip)) (.seq (.seq (.reg hist_checker_frame_r11) (.cond (.tmp 58) (.any hist_checker_frame_t12) .skip)) (.seq (.reg hist_checker_frame_r13) .ret)))))))
theorem hist_checker_frame_is : fnV prog n_hist_checker_frame = some (67, hist_checker_frame, [.tmp 4]) := by kernel_rfl
/- hist_checker_read -/
@[simp] def hist_checker_read_r0 : List VOp :=
  [(oo 3 (.box (.tmp 1))),
   (oo 4 (.mov (.const (kb false))))]
@[simp] def hist_checker_read_r1 : List VOp :=
  [(oo 7 (.fa 1 (.tmp 3))),
   (oo 8 (.ld (.tmp 7) none)),
   (oo 9 (.bin .neq (.tmp 8) (.const (ki 2))))]
@[simp] def hist_checker_read_r2 : List VOp :=
  [(oo 4 (.mov (.const (kb true))))]
@[simp] def hist_checker_read_r3 : List VOp :=
  [(oo 10 (.fa 3 (.tmp 3))),
   (oo 11 (.ld (.tmp 10) none)),
   (oo 12 (.fa 4 (.tmp 3))),
   (oo 13 (.ld (.tmp 12) (some 3))),
   (oo 14 (.build [zi, zb, zi, zs] [(0, 1, (.tmp 11)), (1, 3, (.tmp 13))])),
   (oo 5 (.alloc [zi, zb, zi, zs])),
   (on (.st (.tmp 5) (.tmp 14) 4))]
@[simp] def hist_checker_read_t4 : VT :=
  .op (oo 15 (.mov (.tmp 0))) <|
  .op (oo 16 (.chk (.tmp 15))) <|
  .op (oo 17 (.fa 4 (.tmp 16))) <|
  .op (oo 18 (.ld (.tmp 17) none)) <|
  .op (oo 19 (.fa 0 (.tmp 3))) <|
  .op (oo 20 (.ld (.tmp 19) none)) <|
  .op (oo 21 (.ld (.tmp 5) (some 4))) <|
  .op (oo 22 (.build [zi, zi, zb, zi, zs] [(0, 1, (.tmp 20)), (1, 4, (.tmp 21))])) <|
  .op (oo 23 (.lkp (true, [.i .i64, .i .i64, .b, .i .i64, .s], false) [zi] (.tmp 18) (.tmp 22) false)) <|
  .op (oo 6 (.mov (.tmp 23))) <|
  .done
@[simp] def hist_checker_read_r5 : List VOp :=
  [(oo 24 (.mov (.tmp 6))),
   (oo 25 (.bin .gtr (.tmp 24) (.const (ki 0))))]
@[simp] def hist_checker_read_r6 : List VOp :=
  [(oo 26 (.mov (.tmp 0))),
   (oo 27 (.fa 3 (.tmp 3))),
   (oo 28 (.ld (.tmp 27) none)),
   (oo 29 (.fa 4 (.tmp 3))),
   (oo 30 (.ld (.tmp 29) (some 3))),
   (oo 31 (.call n_hist_checker_key [(.tmp 26), (.tmp 28), (.tmp 30)])),
   (oo 32 (.mov (.tmp 31))),
   (og 33 32 true (.fa 7 (.tmp 3))),
   (og 34 32 true (.ld (.tmp 33) (some 2))),
   (og 35 32 true (.fa 0 (.tmp 3))),
   (og 36 32 true (.ld (.tmp 35) none)),
   (og 37 32 true (.mov (.tmp 6))),
   (og 38 32 true (.build [zi, zi] [(0, 1, (.tmp 36)), (1, 1, (.tmp 37))])),
   (og 39 32 true (.eqs false [.i .i64, .i .i64] (.tmp 34) (.tmp 38))),
   (oo 40 (.pick (.tmp 32) (.tmp 39) (.const (kb false)))),
   (oo 4 (.mov (.tmp 40)))]
@[simp] def hist_checker_read_r7 : List VOp :=
  [(oo 41 (.mov (.tmp 0))),
   (oo 42 (.fa 3 (.tmp 3))),
   (oo 43 (.ld (.tmp 42) none)),
   (oo 44 (.fa 4 (.tmp 3))),
   (oo 45 (.ld (.tmp 44) (some 3))),
   (oo 46 (.call n_hist_checker_key [(.tmp 41), (.tmp 43), (.tmp 45)])),
   (oo 47 (.mov (.tmp 46))),
   (og 48 47 true (.fa 7 (.tmp 3))),
   (og 49 47 true (.ld (.tmp 48) (some 2))),
   (og 50 47 true (.build [zi, zi] [])),
   (og 51 47 true (.eqs false [.i .i64, .i .i64] (.tmp 49) (.tmp 50))),
   (og 52 47 true (.mov (.tmp 51))),
   (og 53 52 false (.mov (.tmp 0))),
   (og 54 52 false (.ld (.tmp 5) (some 4))),
   (og 55 52 false (.fa 7 (.tmp 3))),
   (og 56 52 false (.ld (.tmp 55) (some 2))),
   (og 57 52 false (.call n_hist_checker_version [(.tmp 53), (.tmp 54), (.tmp 56)])),
   (og 58 47 true (.pick (.tmp 52) (.const (kb true)) (.tmp 57))),
   (oo 59 (.pick (.tmp 47) (.tmp 58) (.const (kb false)))),
   (oo 4 (.mov (.tmp 59)))]
def hist_checker_read : VCode := (.seq (.reg hist_checker_read_r0) (.seq (.seq (.reg hist_checker_read_r1) (.cond (.tmp 9) (.seq (.reg hist_checker_read_r2) .ret) .skip)) (.seq (.reg hist_checker_read_r3) (.seq (.seq (.any hist_checker_read_t4) (.seq (.reg hist_checker_read_r5) (.cond (.tmp 25) (.seq (.reg hist_checker_read_r6) .ret) .skip))) (.seq (.reg hist_checker_read_r7) .ret)))))
theorem hist_checker_read_is : fnV prog n_hist_checker_read = some (60, hist_checker_read, [.tmp 4]) := by kernel_rfl
/- hist_checker_saw -/
@[simp] def hist_checker_saw_r0 : List VOp :=
  [(oo 3 (.box (.tmp 1))),
   (oo 4 (.mov (.const (kb false))))]
@[simp] def hist_checker_saw_r1 : List VOp :=
  [(oo 11 (.fa 1 (.tmp 3))),
   (oo 12 (.ld (.tmp 11) none)),
   (oo 13 (.bin .neq (.tmp 12) (.const (ki 4))))]
@[simp] def hist_checker_saw_r2 : List VOp :=
  [(oo 4 (.mov (.const (kb true))))]
@[simp] def hist_checker_saw_t3 : VT :=
  .op (oo 14 (.fa 3 (.tmp 3))) <|
  .op (oo 15 (.ld (.tmp 14) none)) <|
  .op (oo 16 (.bin .lss (.tmp 15) (.const (ki 0)))) <|
  .op (oo 17 (.mov (.tmp 16))) <|
  .op (og 18 17 false (.fa 3 (.tmp 3))) <|
  .op (og 19 17 false (.ld (.tmp 18) none)) <|
  .op (og 20 17 false (.mov (.tmp 0))) <|
  .op (og 21 17 false (.chk (.tmp 20))) <|
  .op (og 22 17 false (.fa 0 (.tmp 21))) <|
  .op (og 23 17 false (.fa 0 (.tmp 22))) <|
  .op (og 24 17 false (.ld (.tmp 23) none)) <|
  .op (og 25 17 false (.len (.tmp 24))) <|
  .op (og 26 17 false (.bin .geq (.tmp 19) (.tmp 25))) <|
  .op (oo 27 (.pick (.tmp 17) (.const (kb true)) (.tmp 26))) <|
  .op (oo 28 (.mov (.tmp 27))) <|
  .op (og 29 28 false (.mov (.tmp 0))) <|
  .op (og 30 28 false (.chk (.tmp 29))) <|
  .op (og 31 28 false (.fa 0 (.tmp 30))) <|
  .op (og 32 28 false (.fa 0 (.tmp 31))) <|
  .op (og 33 28 false (.ld (.tmp 32) none)) <|
  .op (og 34 28 false (.fa 3 (.tmp 3))) <|
  .op (og 35 28 false (.ld (.tmp 34) none)) <|
  .op (og 36 28 false (.ia 1 (.tmp 33) (.tmp 35))) <|
  .op (og 37 28 false (.ld (.tmp 36) (some 1))) <|
  .op (og 38 28 false (.fa 11 (.tmp 3))) <|
  .op (og 39 28 false (.ld (.tmp 38) (some 9))) <|
  .op (og 40 28 false (.call n_pred_Check [(.tmp 37), (.tmp 39)])) <|
  .op (og 41 28 false (.bin .neq (.tmp 40) (.const (ki 0)))) <|
  .op (oo 42 (.pick (.tmp 28) (.const (kb true)) (.tmp 41))) <|
  .done
@[simp] def hist_checker_saw_r4 : List VOp :=
  [(oo 4 (.mov (.const (kb false))))]
@[simp] def hist_checker_saw_r5 : List VOp :=
  [(oo 43 (.mkmap (true, [.i .i64, .b, .i .i64, .s], true))),
   (oo 5 (.mov (.tmp 43)))]
@[simp] def hist_checker_saw_r6 : List VOp :=
  [(oo 44 (.fa 20 (.tmp 3))),
   (oo 45 (.ld (.tmp 44) none)),
   (oo 46 (.len (.tmp 45))),
   (oo 47 (.mov (.const (ki 0))))]
@[simp] def hist_checker_saw_r7 : List VOp :=
  [(oo 48 (.bin .lss (.tmp 47) (.tmp 46)))]
@[simp] def hist_checker_saw_r8 : List VOp :=
  [(oo 49 (.mov (.tmp 47))),
   (oo 50 (.ia 5 (.tmp 45) (.tmp 47))),
   (oo 51 (.ld (.tmp 50) (some 5))),
   (oo 7 (.alloc [zb, zi, zs, zi, zi])),
   (oo 6 (.mov (.tmp 49))),
   (on (.st (.tmp 7) (.tmp 51) 5))]
@[simp] def hist_checker_saw_r9 : List VOp :=
  [(oo 52 (.fa 3 (.tmp 3))),
   (oo 53 (.ld (.tmp 52) none)),
   (oo 54 (.fa 0 (.tmp 7))),
   (oo 55 (.ld (.tmp 54) (some 3))),
   (oo 56 (.build [zi, zb, zi, zs] [(0, 1, (.tmp 53)), (1, 3, (.tmp 55))])),
   (oo 8 (.alloc [zi, zb, zi, zs])),
   (on (.st (.tmp 8) (.tmp 56) 4))]
@[simp] def hist_checker_saw_t10 : VT :=
  .op (oo 57 (.mov (.tmp 0))) <|
  .op (oo 58 (.fa 3 (.tmp 3))) <|
  .op (oo 59 (.ld (.tmp 58) none)) <|
  .op (oo 60 (.fa 0 (.tmp 7))) <|
  .op (oo 61 (.ld (.tmp 60) (some 3))) <|
  .op (oo 62 (.call n_hist_checker_key [(.tmp 57), (.tmp 59), (.tmp 61)])) <|
  .op (oo 63 (.un .not (.tmp 62))) <|
  .op (oo 64 (.mov (.tmp 63))) <|
  .op (og 65 64 false (.mov (.tmp 0))) <|
  .op (og 66 64 false (.ld (.tmp 8) (some 4))) <|
  .op (og 67 64 false (.fa 3 (.tmp 7))) <|
  .op (og 68 64 false (.ld (.tmp 67) (some 2))) <|
  .op (og 69 64 false (.call n_hist_checker_version [(.tmp 65), (.tmp 66), (.tmp 68)])) <|
  .op (og 70 64 false (.un .not (.tmp 69))) <|
  .op (oo 71 (.pick (.tmp 64) (.const (kb true)) (.tmp 70))) <|
  .op (oo 72 (.mov (.tmp 71))) <|
  .op (og 73 72 false (.mov (.tmp 6))) <|
  .op (og 74 72 false (.bin .gtr (.tmp 73) (.const (ki 0)))) <|
  .op (og 75 72 false (.mov (.tmp 74))) <|
  .op (og 76 75 true (.fa 20 (.tmp 3))) <|
  .op (og 77 75 true (.ld (.tmp 76) none)) <|
  .op (og 78 75 true (.mov (.tmp 6))) <|
  .op (og 79 75 true (.bin .sub (.tmp 78) (.const (ki 1)))) <|
  .op (og 80 75 true (.ia 5 (.tmp 77) (.tmp 79))) <|
  .op (og 81 75 true (.fa 0 (.tmp 80))) <|
  .op (og 82 75 true (.ld (.tmp 81) (some 3))) <|
  .op (og 83 75 true (.fa 0 (.tmp 7))) <|
  .op (og 84 75 true (.ld (.tmp 83) (some 3))) <|
  .op (og 85 75 true (.call n_value_Compare [(.tmp 82), (.tmp 84)])) <|
  .op (og 86 75 true (.bin .geq (.tmp 85) (.const (ki 0)))) <|
  .op (og 87 72 false (.pick (.tmp 75) (.tmp 86) (.const (kb false)))) <|
  .op (oo 88 (.pick (.tmp 72) (.const (kb true)) (.tmp 87))) <|
  .done
@[simp] def hist_checker_saw_r11 : List VOp :=
  [(oo 4 (.mov (.const (kb false))))]
@[simp] def hist_checker_saw_r12 : List VOp :=
  [(oo 89 (.mov (.tmp 5))),
   (oo 90 (.ld (.tmp 8) (some 4))),
   (oo 91 (.fa 3 (.tmp 7))),
   (oo 92 (.ld (.tmp 91) (some 2))),
   (on (.mset (true, [.i .i64, .b, .i .i64, .s], true) (.tmp 89) (.tmp 90) (.tmp 92)))]
@[simp] def hist_checker_saw_r13 : List VOp :=
  [(oo 93 (.bin .add (.tmp 47) (.const (ki 1)))),
   (oo 47 (.mov (.tmp 93)))]
def hist_checker_saw_l14 : VCode :=
  (.seq (.reg hist_checker_saw_r7) (.seq (.cond (.tmp 48) .skip (.exit 0)) (.seq (.block 1 (.seq (.reg hist_checker_saw_r8) (.seq (.reg hist_checker_saw_r9) (.seq (.seq (.any hist_checker_saw_t10) (.cond (.tmp 88) (.seq (.reg hist_checker_saw_r11) .ret) .skip)) (.reg hist_checker_saw_r12))))) (.reg hist_checker_saw_r13))))
@[simp] def hist_checker_saw_t15 : VT :=
  .op (oo 94 (.mov (.tmp 0))) <|
  .op (oo 95 (.chk (.tmp 94))) <|
  .op (oo 96 (.fa 5 (.tmp 95))) <|
  .op (oo 97 (.ld (.tmp 96) none)) <|
  .op (oo 98 (.fa 0 (.tmp 3))) <|
  .op (oo 99 (.ld (.tmp 98) none)) <|
  .op (oo 100 (.lkp (false, [.i .i64], false) [.nil 4] (.tmp 97) (.tmp 99) false)) <|
  .op (oo 101 (.len (.tmp 100))) <|
  .op (oo 102 (.mov (.const (ki 0)))) <|
  .done
@[simp] def hist_checker_saw_r16 : List VOp :=
  [(oo 103 (.bin .lss (.tmp 102) (.tmp 101)))]
@[simp] def hist_checker_saw_r17 : List VOp :=
  [(oo 104 (.ia 4 (.tmp 100) (.tmp 102))),
   (oo 105 (.ld (.tmp 104) (some 4))),
   (oo 10 (.alloc [zi, zb, zi, zs])),
   (on (.st (.tmp 10) (.tmp 105) 4))]
@[simp] def hist_checker_saw_t18 : VT :=
  .op (oo 106 (.fa 0 (.tmp 10))) <|
  .op (oo 107 (.ld (.tmp 106) none)) <|
  .op (oo 108 (.fa 3 (.tmp 3))) <|
  .op (oo 109 (.ld (.tmp 108) none)) <|
  .op (oo 110 (.bin .eql (.tmp 107) (.tmp 109))) <|
  .op (oo 111 (.mov (.tmp 110))) <|
  .op (og 112 111 true (.mov (.tmp 5))) <|
  .op (og 113 111 true (.ld (.tmp 10) (some 4))) <|
  .op (og 114 111 true (.lkp (true, [.i .i64, .b, .i .i64, .s], true) [zi, zi] (.tmp 112) (.tmp 113) false)) <|
  .op (og 115 111 true (.fa 0 (.tmp 3))) <|
  .op (og 116 111 true (.ld (.tmp 115) none)) <|
  .op (og 117 111 true (.mov (.tmp 0))) <|
  .op (og 118 111 true (.chk (.tmp 117))) <|
  .op (og 119 111 true (.fa 4 (.tmp 118))) <|
  .op (og 120 111 true (.ld (.tmp 119) none)) <|
  .op (og 121 111 true (.fa 0 (.tmp 3))) <|
  .op (og 122 111 true (.ld (.tmp 121) none)) <|
  .op (og 123 111 true (.ld (.tmp 10) (some 4))) <|
  .op (og 124 111 true (.build [zi, zi, zb, zi, zs] [(0, 1, (.tmp 122)), (1, 4, (.tmp 123))])) <|
  .op (og 125 111 true (.lkp (true, [.i .i64, .i .i64, .b, .i .i64, .s], false) [zi] (.tmp 120) (.tmp 124) false)) <|
  .op (og 126 111 true (.build [zi, zi] [(0, 1, (.tmp 116)), (1, 1, (.tmp 125))])) <|
  .op (og 127 111 true (.eqs true [.i .i64, .i .i64] (.tmp 114) (.tmp 126))) <|
  .op (oo 128 (.pick (.tmp 111) (.tmp 127) (.const (kb false)))) <|
  .done
@[simp] def hist_checker_saw_r19 : List VOp :=
  [(oo 4 (.mov (.const (kb false))))]
@[simp] def hist_checker_saw_r20 : List VOp :=
  [(oo 129 (.bin .add (.tmp 102) (.const (ki 1)))),
   (oo 102 (.mov (.tmp 129)))]
def hist_checker_saw_l21 : VCode :=
  (.seq (.reg hist_checker_saw_r16) (.seq (.cond (.tmp 103) .skip (.exit 2)) (.seq (.block 3 (.seq (.reg hist_checker_saw_r17) (.seq (.any hist_checker_saw_t18) (.cond (.tmp 128) (.seq (.reg hist_checker_saw_r19) .ret) .skip)))) (.reg hist_checker_saw_r20))))
@[simp] def hist_checker_saw_r22 : List VOp :=
  [(oo 4 (.mov (.const (kb true))))]
def hist_checker_saw : VCode := (.seq (.reg hist_checker_saw_r0) (.seq (.seq (.reg hist_checker_saw_r1) (.cond (.tmp 13) (.seq (.reg hist_checker_saw_r2) .ret) .skip)) (.seq (.seq (.any hist_checker_saw_t3) (.cond (.tmp 42) (.seq (.reg hist_checker_saw_r4) .ret) .skip)) (.seq (.reg hist_checker_saw_r5) (.seq (.seq (.reg hist_checker_saw_r6) (.block 0 (.loop hist_checker_saw_l14))) (.seq (.seq (.any hist_checker_saw_t15) (.block 2 (.loop hist_checker_saw_l21))) (.seq (.reg hist_checker_saw_r22) .ret)))))))
theorem hist_checker_saw_is : fnV prog n_hist_checker_saw = some (130, hist_checker_saw, [.tmp 4]) := by kernel_rfl
/- hist_checker_write -/
@[simp] def hist_checker_write_r0 : List VOp :=
  [(oo 3 (.box (.tmp 1))),
   (oo 4 (.mov (.const (kb false))))]
@[simp] def hist_checker_write_r1 : List VOp :=
  [(oo 7 (.fa 1 (.tmp 3))),
   (oo 8 (.ld (.tmp 7) none)),
   (oo 9 (.bin .neq (.tmp 8) (.const (ki 3))))]
@[simp] def hist_checker_write_r2 : List VOp :=
  [(oo 4 (.mov (.const (kb true))))]
@[simp] def hist_checker_write_r3 : List VOp :=
  [(oo 10 (.fa 3 (.tmp 3))),
   (oo 11 (.ld (.tmp 10) none)),
   (oo 12 (.fa 4 (.tmp 3))),
   (oo 13 (.ld (.tmp 12) (some 3))),
   (oo 14 (.build [zi, zb, zi, zs] [(0, 1, (.tmp 11)), (1, 3, (.tmp 13))])),
   (oo 5 (.alloc [zi, zb, zi, zs])),
   (on (.st (.tmp 5) (.tmp 14) 4))]
@[simp] def hist_checker_write_r4 : List VOp :=
  [(oo 15 (.fa 0 (.tmp 3))),
   (oo 16 (.ld (.tmp 15) none)),
   (oo 17 (.ld (.tmp 5) (some 4))),
   (oo 18 (.build [zi, zi, zb, zi, zs] [(0, 1, (.tmp 16)), (1, 4, (.tmp 17))])),
   (oo 6 (.alloc [zi, zi, zb, zi, zs])),
   (on (.st (.tmp 6) (.tmp 18) 5))]
@[simp] def hist_checker_write_t5 : VT :=
  .op (oo 19 (.mov (.tmp 0))) <|
  .op (oo 20 (.fa 3 (.tmp 3))) <|
  .op (oo 21 (.ld (.tmp 20) none)) <|
  .op (oo 22 (.fa 4 (.tmp 3))) <|
  .op (oo 23 (.ld (.tmp 22) (some 3))) <|
  .op (oo 24 (.call n_hist_checker_key [(.tmp 19), (.tmp 21), (.tmp 23)])) <|
  .op (oo 25 (.un .not (.tmp 24))) <|
  .op (oo 26 (.mov (.tmp 25))) <|
  .op (og 27 26 false (.fa 9 (.tmp 3))) <|
  .op (og 28 26 false (.ld (.tmp 27) none)) <|
  .op (og 29 26 false (.mov (.tmp 0))) <|
  .op (og 30 26 false (.chk (.tmp 29))) <|
  .op (og 31 26 false (.fa 4 (.tmp 30))) <|
  .op (og 32 26 false (.ld (.tmp 31) none)) <|
  .op (og 33 26 false (.ld (.tmp 6) (some 5))) <|
  .op (og 34 26 false (.lkp (true, [.i .i64, .i .i64, .b, .i .i64, .s], false) [zi] (.tmp 32) (.tmp 33) false)) <|
  .op (og 35 26 false (.bin .add (.tmp 34) (.const (ki 1)))) <|
  .op (og 36 26 false (.bin .neq (.tmp 28) (.tmp 35))) <|
  .op (oo 37 (.pick (.tmp 26) (.const (kb true)) (.tmp 36))) <|
  .done
@[simp] def hist_checker_write_r6 : List VOp :=
  [(oo 4 (.mov (.const (kb false))))]
@[simp] def hist_checker_write_r7 : List VOp :=
  [(oo 38 (.fa 9 (.tmp 3))),
   (oo 39 (.ld (.tmp 38) none)),
   (oo 40 (.bin .eql (.tmp 39) (.const (ki 1))))]
@[simp] def hist_checker_write_s0 : VT :=
  .op (oo 46 (.ld (.tmp 45) none)) <|
  .op (oo 55 (.lit 4 1 [(0, (.tmp 54))])) <|
  .op (oo 56 (.app 4 40 (.tmp 53) (.tmp 55))) <|
  .op (on (.mset (false, [.i .i64], false) (.tmp 44) (.tmp 46) (.tmp 56))) <|
  .done
@[simp] def hist_checker_write_s1 : VT :=
  .op (oo 46 (.ld (.tmp 45) none)) <|
  .op (oo 56 (.app 4 40 (.tmp 53) (.tmp 55))) <|
  .op (on (.mset (false, [.i .i64], false) (.tmp 44) (.tmp 46) (.tmp 56))) <|
  .done
@[simp] def hist_checker_write_s2 : VT :=
  .op (oo 56 (.app 4 40 (.tmp 53) (.tmp 55))) <|
  .op (oo 46 (.ld (.tmp 45) none)) <|
  .op (on (.mset (false, [.i .i64], false) (.tmp 44) (.tmp 46) (.tmp 56))) <|
  .done
@[simp] def hist_checker_write_s3 : VT :=
  .op (oo 55 (.lit 4 1 [(0, (.tmp 54))])) <|
  .alt (hist_checker_write_s1) (hist_checker_write_s2)
@[simp] def hist_checker_write_s4 : VT :=
  .op (oo 44 (.ld (.tmp 43) none)) <|
  .alt (hist_checker_write_s0) (hist_checker_write_s3)
@[simp] def hist_checker_write_s5 : VT :=
  .op (oo 44 (.ld (.tmp 43) none)) <|
  .op (oo 55 (.lit 4 1 [(0, (.tmp 54))])) <|
  .op (oo 56 (.app 4 40 (.tmp 53) (.tmp 55))) <|
  .op (on (.mset (false, [.i .i64], false) (.tmp 44) (.tmp 46) (.tmp 56))) <|
  .done
@[simp] def hist_checker_write_s6 : VT :=
  .op (oo 44 (.ld (.tmp 43) none)) <|
  .op (oo 56 (.app 4 40 (.tmp 53) (.tmp 55))) <|
  .op (on (.mset (false, [.i .i64], false) (.tmp 44) (.tmp 46) (.tmp 56))) <|
  .done
@[simp] def hist_checker_write_s7 : VT :=
  .op (oo 56 (.app 4 40 (.tmp 53) (.tmp 55))) <|
  .op (oo 44 (.ld (.tmp 43) none)) <|
  .op (on (.mset (false, [.i .i64], false) (.tmp 44) (.tmp 46) (.tmp 56))) <|
  .done
@[simp] def hist_checker_write_s8 : VT :=
  .op (oo 55 (.lit 4 1 [(0, (.tmp 54))])) <|
  .alt (hist_checker_write_s6) (hist_checker_write_s7)
@[simp] def hist_checker_write_s9 : VT :=
  .op (oo 46 (.ld (.tmp 45) none)) <|
  .alt (hist_checker_write_s5) (hist_checker_write_s8)
@[simp] def hist_checker_write_s10 : VT :=
  .op (oo 44 (.ld (.tmp 43) none)) <|
  .alt (hist_checker_write_s1) (hist_checker_write_s2)
@[simp] def hist_checker_write_s11 : VT :=
  .op (oo 46 (.ld (.tmp 45) none)) <|
  .alt (hist_checker_write_s6) (hist_checker_write_s7)
@[simp] def hist_checker_write_s12 : VT :=
  .op (oo 56 (.app 4 40 (.tmp 53) (.tmp 55))) <|
  .op (oo 44 (.ld (.tmp 43) none)) <|
  .op (oo 46 (.ld (.tmp 45) none)) <|
  .op (on (.mset (false, [.i .i64], false) (.tmp 44) (.tmp 46) (.tmp 56))) <|
  .done
@[simp] def hist_checker_write_s13 : VT :=
  .op (oo 55 (.lit 4 1 [(0, (.tmp 54))])) <|
  .alt (hist_checker_write_s10) (  .alt (hist_checker_write_s11) (hist_checker_write_s12))
@[simp] def hist_checker_write_t8 : VT :=
  .op (oo 41 (.mov (.tmp 0))) <|
  .op (oo 42 (.chk (.tmp 41))) <|
  .op (oo 43 (.fa 5 (.tmp 42))) <|
  .op (oo 45 (.fa 0 (.tmp 3))) <|
  .op (oo 47 (.mov (.tmp 0))) <|
  .op (oo 48 (.chk (.tmp 47))) <|
  .op (oo 49 (.fa 5 (.tmp 48))) <|
  .op (oo 50 (.ld (.tmp 49) none)) <|
  .op (oo 51 (.fa 0 (.tmp 3))) <|
  .op (oo 52 (.ld (.tmp 51) none)) <|
  .op (oo 53 (.lkp (false, [.i .i64], false) [.nil 4] (.tmp 50) (.tmp 52) false)) <|
  .op (oo 54 (.ld (.tmp 5) (some 4))) <|
  .alt (hist_checker_write_s4) (  .alt (hist_checker_write_s9) (hist_checker_write_s13))
@[simp] def hist_checker_write_t9 : VT :=
  .op (oo 57 (.mov (.tmp 0))) <|
  .op (oo 58 (.chk (.tmp 57))) <|
  .op (oo 59 (.fa 4 (.tmp 58))) <|
  .op (oo 60 (.ld (.tmp 59) none)) <|
  .op (oo 61 (.ld (.tmp 6) (some 5))) <|
  .op (oo 62 (.fa 9 (.tmp 3))) <|
  .op (oo 63 (.ld (.tmp 62) none)) <|
  .op (on (.mset (true, [.i .i64, .i .i64, .b, .i .i64, .s], false) (.tmp 60) (.tmp 61) (.tmp 63))) <|
  .done
@[simp] def hist_checker_write_t10 : VT :=
  .op (oo 64 (.fa 10 (.tmp 3))) <|
  .op (oo 65 (.ld (.tmp 64) none)) <|
  .op (oo 66 (.len (.tmp 65))) <|
  .op (oo 67 (.bin .eql (.tmp 66) (.const (ki 0)))) <|
  .op (oo 68 (.mov (.tmp 67))) <|
  .op (og 69 68 false (.mov (.tmp 0))) <|
  .op (og 70 68 false (.chk (.tmp 69))) <|
  .op (og 71 68 false (.fa 0 (.tmp 70))) <|
  .op (og 72 68 false (.fa 0 (.tmp 71))) <|
  .op (og 73 68 false (.ld (.tmp 72) none)) <|
  .op (og 74 68 false (.fa 3 (.tmp 3))) <|
  .op (og 75 68 false (.ld (.tmp 74) none)) <|
  .op (og 76 68 false (.ia 1 (.tmp 73) (.tmp 75))) <|
  .op (og 77 68 false (.ld (.tmp 76) (some 1))) <|
  .op (og 78 68 false (.fa 10 (.tmp 3))) <|
  .op (og 79 68 false (.ld (.tmp 78) none)) <|
  .op (og 80 68 false (.call n_row_Fits [(.tmp 77), (.tmp 79)])) <|
  .op (og 81 68 false (.mov (.tmp 80))) <|
  .op (og 82 81 true (.fa 10 (.tmp 3))) <|
  .op (og 83 81 true (.ld (.tmp 82) none)) <|
  .op (og 84 81 true (.ia 3 (.tmp 83) (.const (ki 0)))) <|
  .op (og 85 81 true (.ld (.tmp 84) (some 3))) <|
  .op (og 86 81 true (.fa 4 (.tmp 3))) <|
  .op (og 87 81 true (.ld (.tmp 86) (some 3))) <|
  .op (og 88 81 true (.eqs false [.b, .i .i64, .s] (.tmp 85) (.tmp 87))) <|
  .op (og 89 68 false (.pick (.tmp 81) (.tmp 88) (.const (kb false)))) <|
  .op (oo 90 (.pick (.tmp 68) (.const (kb true)) (.tmp 89))) <|
  .op (oo 4 (.mov (.tmp 90))) <|
  .done
def hist_checker_write : VCode := (.seq (.reg hist_checker_write_r0) (.seq (.seq (.reg hist_checker_write_r1) (.cond (.tmp 9) (.seq (.reg hist_checker_write_r2) .ret) .skip)) (.seq (.reg hist_checker_write_r3) (.seq (.reg hist_checker_write_r4) (.seq (.seq (.any hist_checker_write_t5) (.cond (.tmp 37) (.seq (.reg hist_checker_write_r6) .ret) .skip)) (.seq (.seq (.reg hist_checker_write_r7) (.cond (.tmp 40) (.any hist_checker_write_t8) .skip)) (.seq (.any hist_checker_write_t9) (.seq (.any hist_checker_write_t10) .ret))))))))
theorem hist_checker_write_is : fnV prog n_hist_checker_write = some (91, hist_checker_write, [.tmp 4]) := by kernel_rfl
/- hist_checker_order -/
@[simp] def hist_checker_order_r0 : List VOp :=
  [(oo 2 (.mov (.const (kb false))))]
@[simp] def hist_checker_order_r1 : List VOp :=
  [(oo 15 (.mkmap (true, [.i .i64, .i .i64, .b, .i .i64, .s], false))),
   (oo 3 (.mov (.tmp 15)))]
@[simp] def hist_checker_order_r2 : List VOp :=
  [(oo 16 (.mov (.tmp 0))),
   (oo 17 (.chk (.tmp 16))),
   (oo 18 (.fa 5 (.tmp 17))),
   (oo 19 (.ld (.tmp 18) none)),
   (oo 20 (.rng (false, [.i .i64], false) (.tmp 19)))]
@[simp] def hist_checker_order_r3 : List VOp :=
  [(oo 21 (.nxt (.tmp 20))),
   (oo 22 (.ext 0 (.tmp 21)))]
@[simp] def hist_checker_order_r4 : List VOp :=
  [(oo 23 (.ent (.tmp 20))),
   (oo 24 (.ext 0 (.tmp 23))),
   (oo 25 (.ext 1 (.tmp 23))),
   (oo 4 (.mov (.tmp 24))),
   (oo 5 (.mov (.tmp 25)))]
@[simp] def hist_checker_order_r5 : List VOp :=
  [(oo 26 (.mov (.tmp 0))),
   (oo 27 (.chk (.tmp 26))),
   (oo 28 (.fa 3 (.tmp 27))),
   (oo 29 (.ld (.tmp 28) none)),
   (oo 30 (.mov (.tmp 4))),
   (oo 31 (.lkp (false, [.i .i64], false) [zi] (.tmp 29) (.tmp 30) false)),
   (oo 32 (.bin .eql (.tmp 31) (.const (ki 5))))]
@[simp] def hist_checker_order_r6 : List VOp :=
  [(oo 33 (.mov (.tmp 5))),
   (oo 34 (.len (.tmp 33))),
   (oo 35 (.mov (.const (ki 0))))]
@[simp] def hist_checker_order_r7 : List VOp :=
  [(oo 36 (.bin .lss (.tmp 35) (.tmp 34)))]
@[simp] def hist_checker_order_r8 : List VOp :=
  [(oo 37 (.ia 4 (.tmp 33) (.tmp 35))),
   (oo 38 (.ld (.tmp 37) (some 4))),
   (oo 7 (.alloc [zi, zb, zi, zs])),
   (on (.st (.tmp 7) (.tmp 38) 4))]
@[simp] def hist_checker_order_r9 : List VOp :=
  [(oo 39 (.mov (.tmp 3))),
   (oo 40 (.mov (.tmp 4))),
   (oo 41 (.ld (.tmp 7) (some 4))),
   (oo 42 (.build [zi, zi, zb, zi, zs] [(0, 1, (.tmp 40)), (1, 4, (.tmp 41))])),
   (on (.mset (true, [.i .i64, .i .i64, .b, .i .i64, .s], false) (.tmp 39) (.tmp 42) (.const (ki 1))))]
@[simp] def hist_checker_order_r10 : List VOp :=
  [(oo 43 (.bin .add (.tmp 35) (.const (ki 1)))),
   (oo 35 (.mov (.tmp 43)))]
def hist_checker_order_l11 : VCode :=
  (.seq (.reg hist_checker_order_r7) (.seq (.cond (.tmp 36) .skip (.exit 2)) (.seq (.block 3 (.seq (.reg hist_checker_order_r8) (.reg hist_checker_order_r9))) (.reg hist_checker_order_r10))))
def hist_checker_order_l12 : VCode :=
  (.seq (.reg hist_checker_order_r3) (.seq (.cond (.tmp 22) .skip (.exit 0)) (.block 1 (.seq (.reg hist_checker_order_r4) (.seq (.reg hist_checker_order_r5) (.cond (.tmp 32) (.seq (.reg hist_checker_order_r6) (.block 2 (.loop hist_checker_order_l11))) .skip))))))
@[simp] def hist_checker_order_r13 : List VOp :=
  [(oo 44 (.mkmap (true, [.i .i64, .b, .i .i64, .s], false))),
   (oo 8 (.mov (.tmp 44)))]
@[simp] def hist_checker_order_r14 : List VOp :=
  [(oo 45 (.mov (.tmp 0))),
   (oo 46 (.chk (.tmp 45))),
   (oo 47 (.fa 0 (.tmp 46))),
   (oo 48 (.fa 2 (.tmp 47))),
   (oo 49 (.ld (.tmp 48) none)),
   (oo 50 (.len (.tmp 49))),
   (oo 51 (.mov (.const (ki 0))))]
@[simp] def hist_checker_order_r15 : List VOp :=
  [(oo 52 (.bin .lss (.tmp 51) (.tmp 50)))]
@[simp] def hist_checker_order_r16 : List VOp :=
  [(oo 53 (.ia 5 (.tmp 49) (.tmp 51))),
   (oo 54 (.ld (.tmp 53) (some 5))),
   (oo 10 (.alloc [zi, zb, zi, zs, .nil 1])),
   (on (.st (.tmp 10) (.tmp 54) 5))]
@[simp] def hist_checker_order_r17 : List VOp :=
  [(oo 55 (.fa 0 (.tmp 10))),
   (oo 56 (.ld (.tmp 55) none)),
   (oo 57 (.fa 1 (.tmp 10))),
   (oo 58 (.ld (.tmp 57) (some 3))),
   (oo 59 (.build [zi, zb, zi, zs] [(0, 1, (.tmp 56)), (1, 3, (.tmp 58))])),
   (oo 11 (.alloc [zi, zb, zi, zs])),
   (on (.st (.tmp 11) (.tmp 59) 4))]
@[simp] def hist_checker_order_s0 : VT :=
  .op (oo 62 (.lkp (true, [.i .i64, .b, .i .i64, .s], false) [zi] (.tmp 60) (.tmp 61) false)) <|
  .op (oo 63 (.bin .add (.tmp 62) (.const (ki 1)))) <|
  .op (oo 64 (.ment (true, [.i .i64, .b, .i .i64, .s], false) [zi] (.tmp 60) (.tmp 61))) <|
  .op (oo 65 (.ext 1 (.tmp 64))) <|
  .op (on (.est (.tmp 60) (.tmp 65) (.tmp 63))) <|
  .done
@[simp] def hist_checker_order_s1 : VT :=
  .op (oo 64 (.ment (true, [.i .i64, .b, .i .i64, .s], false) [zi] (.tmp 60) (.tmp 61))) <|
  .op (oo 62 (.lkp (true, [.i .i64, .b, .i .i64, .s], false) [zi] (.tmp 60) (.tmp 61) false)) <|
  .op (oo 63 (.bin .add (.tmp 62) (.const (ki 1)))) <|
  .op (oo 65 (.ext 1 (.tmp 64))) <|
  .op (on (.est (.tmp 60) (.tmp 65) (.tmp 63))) <|
  .done
@[simp] def hist_checker_order_t18 : VT :=
  .op (oo 60 (.mov (.tmp 8))) <|
  .op (oo 61 (.ld (.tmp 11) (some 4))) <|
  .alt (hist_checker_order_s0) (hist_checker_order_s1)
@[simp] def hist_checker_order_r19 : List VOp :=
  [(oo 66 (.mov (.tmp 8))),
   (oo 67 (.ld (.tmp 11) (some 4))),
   (oo 68 (.lkp (true, [.i .i64, .b, .i .i64, .s], false) [zi] (.tmp 66) (.tmp 67) false)),
   (oo 69 (.bin .gtr (.tmp 68) (.const (ki 1)))),
   (oo 70 (.mov (.tmp 69))),
   (og 71 70 false (.fa 4 (.tmp 10))),
   (og 72 70 false (.ld (.tmp 71) none)),
   (og 73 70 false (.len (.tmp 72))),
   (og 74 70 false (.bin .eql (.tmp 73) (.const (ki 0)))),
   (oo 75 (.pick (.tmp 70) (.const (kb true)) (.tmp 74)))]
@[simp] def hist_checker_order_r20 : List VOp :=
  [(oo 2 (.mov (.const (kb false))))]
@[simp] def hist_checker_order_r21 : List VOp :=
  [(oo 76 (.fa 4 (.tmp 10))),
   (oo 77 (.ld (.tmp 76) none)),
   (oo 78 (.len (.tmp 77))),
   (oo 79 (.mov (.const (ki 0))))]
@[simp] def hist_checker_order_r22 : List VOp :=
  [(oo 80 (.bin .lss (.tmp 79) (.tmp 78)))]
@[simp] def hist_checker_order_r23 : List VOp :=
  [(oo 81 (.ia 1 (.tmp 77) (.tmp 79))),
   (oo 82 (.ld (.tmp 81) none)),
   (oo 13 (.mov (.tmp 82)))]
@[simp] def hist_checker_order_r24 : List VOp :=
  [(oo 83 (.mov (.tmp 13))),
   (oo 84 (.ld (.tmp 11) (some 4))),
   (oo 85 (.build [zi, zi, zb, zi, zs] [(0, 1, (.tmp 83)), (1, 4, (.tmp 84))])),
   (oo 14 (.alloc [zi, zi, zb, zi, zs])),
   (on (.st (.tmp 14) (.tmp 85) 5))]
@[simp] def hist_checker_order_r25 : List VOp :=
  [(oo 86 (.mov (.tmp 3))),
   (oo 87 (.ld (.tmp 14) (some 5))),
   (oo 88 (.lkp (true, [.i .i64, .i .i64, .b, .i .i64, .s], false) [zi] (.tmp 86) (.tmp 87) false)),
   (oo 89 (.bin .eql (.tmp 88) (.const (ki 0))))]
@[simp] def hist_checker_order_r26 : List VOp :=
  [(oo 2 (.mov (.const (kb false))))]
@[simp] def hist_checker_order_r27 : List VOp :=
  [(oo 90 (.mov (.tmp 3))),
   (oo 91 (.ld (.tmp 14) (some 5))),
   (on (.mdel (true, [.i .i64, .i .i64, .b, .i .i64, .s], false) (.tmp 90) (.tmp 91)))]
@[simp] def hist_checker_order_r28 : List VOp :=
  [(oo 92 (.bin .add (.tmp 79) (.const (ki 1)))),
   (oo 79 (.mov (.tmp 92)))]
def hist_checker_order_l29 : VCode :=
  (.seq (.reg hist_checker_order_r22) (.seq (.cond (.tmp 80) .skip (.exit 6)) (.seq (.block 7 (.seq (.reg hist_checker_order_r23) (.seq (.reg hist_checker_order_r24) (.seq (.seq (.reg hist_checker_order_r25) (.cond (.tmp 89) (.seq (.reg hist_checker_order_r26) .ret) .skip)) (.reg hist_checker_order_r27))))) (.reg hist_checker_order_r28))))
@[simp] def hist_checker_order_r30 : List VOp :=
  [(oo 93 (.bin .add (.tmp 51) (.const (ki 1)))),
   (oo 51 (.mov (.tmp 93)))]
def hist_checker_order_l31 : VCode :=
  (.seq (.reg hist_checker_order_r15) (.seq (.cond (.tmp 52) .skip (.exit 4)) (.seq (.block 5 (.seq (.reg hist_checker_order_r16) (.seq (.reg hist_checker_order_r17) (.seq (.any hist_checker_order_t18) (.seq (.seq (.reg hist_checker_order_r19) (.cond (.tmp 75) (.seq (.reg hist_checker_order_r20) .ret) .skip)) (.seq (.reg hist_checker_order_r21) (.block 6 (.loop hist_checker_order_l29)))))))) (.reg hist_checker_order_r30))))
@[simp] def hist_checker_order_r32 : List VOp :=
  [(oo 94 (.mov (.tmp 3))),
   (oo 95 (.lenm (.tmp 94))),
   (oo 96 (.bin .eql (.tmp 95) (.const (ki 0)))),
   (oo 2 (.mov (.tmp 96)))]
def hist_checker_order : VCode := (.seq (.reg hist_checker_order_r0) (.seq (.reg hist_checker_order_r1) (.seq (.seq (.reg hist_checker_order_r2) (.block 0 (.loop hist_checker_order_l12))) (.seq (.reg hist_checker_order_r13) (.seq (.seq (.reg hist_checker_order_r14) (.block 4 (.loop hist_checker_order_l31))) (.seq (.reg hist_checker_order_r32) .ret))))))
theorem hist_checker_order_is : fnV prog n_hist_checker_order = some (97, hist_checker_order, [.tmp 2]) := by kernel_rfl
/- row_Check -/
@[simp] def row_Check_r0 : List VOp :=
  [(oo 1 (.box (.tmp 0))),
   (oo 2 (.mov (.const (ki 0))))]
@[simp] def row_Check_r1 : List VOp :=
  [(oo 3 (.fa 0 (.tmp 1))),
   (oo 4 (.ld (.tmp 3) none)),
   (oo 5 (.len (.tmp 4))),
   (oo 6 (.bin .lss (.tmp 5) (.const (ki 1)))),
   (oo 7 (.mov (.tmp 6))),
   (og 8 7 false (.fa 0 (.tmp 1))),
   (og 9 7 false (.ld (.tmp 8) none)),
   (og 10 7 false (.len (.tmp 9))),
   (og 11 7 false (.bin .gtr (.tmp 10) (.const (ki 4)))),
   (oo 12 (.pick (.tmp 7) (.const (kb true)) (.tmp 11)))]
@[simp] def row_Check_r2 : List VOp :=
  [(oo 2 (.mov (.const (ki 1))))]
@[simp] def row_Check_r3 : List VOp :=
  [(oo 2 (.mov (.const (ki 0))))]
def row_Check : VCode := (.seq (.reg row_Check_r0) (.seq (.seq (.reg row_Check_r1) (.cond (.tmp 12) (.seq (.reg row_Check_r2) .ret) .skip)) (.seq (.reg row_Check_r3) .ret)))
theorem row_Check_is : fnV prog n_row_Check = some (13, row_Check, [.tmp 2]) := by kernel_rfl
/- slices_Clone_api_Row_api_Value -/
@[simp] def slices_Clone_api_Row_api_Value_r0 : List VOp :=
  [(oo 2 (.nils 3))]
@[simp] def slices_Clone_api_Row_api_Value_r1 : List VOp :=
  [(oo 3 (.mov (.tmp 0))),
   (oo 4 (.snil false (.tmp 3)))]
@[simp] def slices_Clone_api_Row_api_Value_r2 : List VOp :=
  [(oo 2 (.nils 3))]
@[simp] def slices_Clone_api_Row_api_Value_r3 : List VOp :=
  [(oo 5 (.lit 3 0 [])),
   (oo 6 (.mov (.tmp 0))),
   (oo 7 (.app 3 32 (.tmp 5) (.tmp 6))),
   (oo 2 (.mov (.tmp 7)))]
def slices_Clone_api_Row_api_Value : VCode := (.seq (.reg slices_Clone_api_Row_api_Value_r0) (.seq (.seq (.reg slices_Clone_api_Row_api_Value_r1) (.cond (.tmp 4) (.seq (.reg slices_Clone_api_Row_api_Value_r2) .ret) .skip)) (.seq (.reg slices_Clone_api_Row_api_Value_r3) .ret)))
theorem slices_Clone_api_Row_api_Value_is : fnV prog n_slices_Clone_api_Row_api_Value = some (8, slices_Clone_api_Row_api_Value, [.tmp 2]) := by kernel_rfl
/- rr02_May -/
@[simp] def rr02_May_r0 : List VOp :=
  [(oo 1 (.box (.tmp 0))),
   (oo 2 (.mov (.const (kb false))))]
@[simp] def rr02_May_r1 : List VOp :=
  [(oo 3 (.fa 0 (.tmp 1))),
   (oo 4 (.ld (.tmp 3) none)),
   (oo 5 (.len (.tmp 4))),
   (oo 6 (.bin .geq (.tmp 5) (.const (ki 1)))),
   (oo 7 (.mov (.tmp 6))),
   (og 8 7 true (.fa 0 (.tmp 1))),
   (og 9 7 true (.ld (.tmp 8) none)),
   (og 10 7 true (.len (.tmp 9))),
   (og 11 7 true (.bin .leq (.tmp 10) (.const (ki 4)))),
   (oo 12 (.pick (.tmp 7) (.tmp 11) (.const (kb false)))),
   (oo 2 (.mov (.tmp 12)))]
def rr02_May : VCode := (.seq (.reg rr02_May_r0) (.seq (.reg rr02_May_r1) .ret))
theorem rr02_May_is : fnV prog n_rr02_May = some (13, rr02_May, [.tmp 2]) := by kernel_rfl
/- rr18_frame -/
@[simp] def rr18_frame_r0 : List VOp :=
  [(oo 2 (.box (.tmp 0))),
   (oo 4 (.mov (.const (kb false))))]
@[simp] def rr18_frame_r1 : List VOp :=
  [(oo 9 (.fa 1 (.tmp 2))),
   (oo 10 (.ld (.tmp 9) none)),
   (oo 11 (.mov (.tmp 1))),
   (oo 12 (.ia 22 (.tmp 10) (.tmp 11))),
   (oo 13 (.ld (.tmp 12) (some 22))),
   (oo 5 (.alloc [zi, zi, zi, zi, zb, zi, zs, zi, zi, zi, .nil 3, zi, zi, zb, zi, zs, zb, zi, zs, .nil 9, .nil 5, zb])),
   (on (.st (.tmp 5) (.tmp 13) 22))]
@[simp] def rr18_frame_r2 : List VOp :=
  [(oo 14 (.fa 0 (.tmp 5))),
   (oo 15 (.ld (.tmp 14) none)),
   (oo 16 (.bin .lss (.tmp 15) (.const (ki 1)))),
   (oo 17 (.mov (.tmp 16))),
   (og 18 17 false (.fa 1 (.tmp 5))),
   (og 19 17 false (.ld (.tmp 18) none)),
   (og 20 17 false (.bin .lss (.tmp 19) (.const (ki 1)))),
   (oo 21 (.pick (.tmp 17) (.const (kb true)) (.tmp 20))),
   (oo 22 (.mov (.tmp 21))),
   (og 23 22 false (.fa 1 (.tmp 5))),
   (og 24 22 false (.ld (.tmp 23) none)),
   (og 25 22 false (.bin .gtr (.tmp 24) (.const (ki 6)))),
   (oo 26 (.pick (.tmp 22) (.const (kb true)) (.tmp 25)))]
@[simp] def rr18_frame_r3 : List VOp :=
  [(oo 4 (.mov (.const (kb false))))]
@[simp] def rr18_frame_r4 : List VOp :=
  [(oo 6 (.mov (.const (kb false))))]
@[simp] def rr18_frame_r5 : List VOp :=
  [(oo 7 (.mov (.const (ki 0))))]
@[simp] def rr18_frame_r6 : List VOp :=
  [(oo 27 (.mov (.tmp 7))),
   (oo 28 (.mov (.tmp 1))),
   (oo 29 (.bin .lss (.tmp 27) (.tmp 28)))]
@[simp] def rr18_frame_r7 : List VOp :=
  [(oo 32 (.fa 1 (.tmp 2))),
   (oo 33 (.ld (.tmp 32) none)),
   (oo 34 (.mov (.tmp 7))),
   (oo 35 (.ia 22 (.tmp 33) (.tmp 34))),
   (oo 36 (.ld (.tmp 35) (some 22))),
   (oo 8 (.alloc [zi, zi, zi, zi, zb, zi, zs, zi, zi, zi, .nil 3, zi, zi, zb, zi, zs, zb, zi, zs, .nil 9, .nil 5, zb])),
   (on (.st (.tmp 8) (.tmp 36) 22))]
@[simp] def rr18_frame_r8 : List VOp :=
  [(oo 37 (.fa 0 (.tmp 8))),
   (oo 38 (.ld (.tmp 37) none)),
   (oo 39 (.fa 0 (.tmp 5))),
   (oo 40 (.ld (.tmp 39) none)),
   (oo 41 (.bin .neq (.tmp 38) (.tmp 40)))]
@[simp] def rr18_frame_r9 : List VOp :=
  [(oo 6 (.mov (.const (kb true))))]
@[simp] def rr18_frame_r10 : List VOp :=
  [(oo 42 (.fa 1 (.tmp 8))),
   (oo 43 (.ld (.tmp 42) none)),
   (oo 44 (.bin .eql (.tmp 43) (.const (ki 5)))),
   (oo 45 (.mov (.tmp 44))),
   (og 46 45 false (.fa 1 (.tmp 8))),
   (og 47 45 false (.ld (.tmp 46) none)),
   (og 48 45 false (.bin .eql (.tmp 47) (.const (ki 6)))),
   (oo 49 (.pick (.tmp 45) (.const (kb true)) (.tmp 48)))]
@[simp] def rr18_frame_r11 : List VOp :=
  [(oo 4 (.mov (.const (kb false))))]
@[simp] def rr18_frame_r12 : List VOp :=
  [(oo 30 (.mov (.tmp 7))),
   (oo 31 (.bin .add (.tmp 30) (.const (ki 1)))),
   (oo 7 (.mov (.tmp 31)))]
def rr18_frame_l13 : VCode :=
  (.seq (.seq (.reg rr18_frame_r6) (.cond (.tmp 29) .skip (.exit 0))) (.seq (.block 1 (.seq (.reg rr18_frame_r7) (.seq (.seq (.reg rr18_frame_r8) (.cond (.tmp 41) (.exit 1) .skip)) (.seq (.reg rr18_frame_r9) (.seq (.reg rr18_frame_r10) (.cond (.tmp 49) (.seq (.reg rr18_frame_r11) .ret) .skip)))))) (.reg rr18_frame_r12)))
@[simp] def rr18_frame_r14 : List VOp :=
  [(oo 50 (.fa 1 (.tmp 5))),
   (oo 51 (.ld (.tmp 50) none)),
   (oo 52 (.bin .eql (.tmp 51) (.const (ki 1))))]
@[simp] def rr18_frame_r15 : List VOp :=
  [(oo 53 (.mov (.tmp 6))),
   (oo 54 (.un .not (.tmp 53))),
   (oo 55 (.mov (.tmp 54))),
   (og 56 55 true (.fa 2 (.tmp 5))),
   (og 57 55 true (.ld (.tmp 56) none)),
   (og 58 55 true (.bin .geq (.tmp 57) (.const (ki 1)))),
   (oo 59 (.pick (.tmp 55) (.tmp 58) (.const (kb false)))),
   (oo 60 (.mov (.tmp 59))),
   (og 61 60 true (.fa 2 (.tmp 5))),
   (og 62 60 true (.ld (.tmp 61) none)),
   (og 63 60 true (.bin .leq (.tmp 62) (.const (ki 5)))),
   (oo 64 (.pick (.tmp 60) (.tmp 63) (.const (kb false)))),
   (oo 4 (.mov (.tmp 64)))]
@[simp] def rr18_frame_r16 : List VOp :=
  [(oo 65 (.mov (.tmp 6))),
   (oo 4 (.mov (.tmp 65)))]
def rr18_frame : VCode := (.seq (.reg rr18_frame_r0) (.seq (.reg rr18_frame_r1) (.seq (.seq (.reg rr18_frame_r2) (.cond (.tmp 26) (.seq (.reg rr18_frame_r3) .ret) .skip)) (.seq (.reg rr18_frame_r4) (.seq (.seq (.reg rr18_frame_r5) (.block 0 (.loop rr18_frame_l13))) (.seq (.seq (.reg rr18_frame_r14) (.cond (.tmp 52) (.seq (.reg rr18_frame_r15) .ret) .skip)) (.seq (.reg rr18_frame_r16) .ret)))))))
theorem rr18_frame_is : fnV prog n_rr18_frame = some (66, rr18_frame, [.tmp 4]) := by kernel_rfl
/- rr18_read -/
@[simp] def rr18_read_r0 : List VOp :=
  [(oo 2 (.box (.tmp 0))),
   (oo 4 (.mov (.const (kb false))))]
@[simp] def rr18_read_r1 : List VOp :=
  [(oo 9 (.fa 1 (.tmp 2))),
   (oo 10 (.ld (.tmp 9) none)),
   (oo 11 (.mov (.tmp 1))),
   (oo 12 (.ia 22 (.tmp 10) (.tmp 11))),
   (oo 13 (.ld (.tmp 12) (some 22))),
   (oo 5 (.alloc [zi, zi, zi, zi, zb, zi, zs, zi, zi, zi, .nil 3, zi, zi, zb, zi, zs, zb, zi, zs, .nil 9, .nil 5, zb])),
   (on (.st (.tmp 5) (.tmp 13) 22))]
@[simp] def rr18_read_r2 : List VOp :=
  [(oo 14 (.ld (.tmp 2) (some 3))),
   (oo 15 (.fa 3 (.tmp 5))),
   (oo 16 (.ld (.tmp 15) none)),
   (oo 17 (.fa 4 (.tmp 5))),
   (oo 18 (.ld (.tmp 17) (some 3))),
   (oo 19 (.call n_rr18_key [(.tmp 14), (.tmp 16), (.tmp 18)])),
   (oo 6 (.mov (.tmp 19)))]
@[simp] def rr18_read_r3 : List VOp :=
  [(oo 20 (.mov (.tmp 6))),
   (oo 21 (.un .not (.tmp 20)))]
@[simp] def rr18_read_r4 : List VOp :=
  [(oo 4 (.mov (.const (kb false))))]
@[simp] def rr18_read_r5 : List VOp :=
  [(oo 22 (.ld (.tmp 2) (some 3))),
   (oo 23 (.mov (.tmp 1))),
   (oo 24 (.fa 0 (.tmp 5))),
   (oo 25 (.ld (.tmp 24) none)),
   (oo 26 (.fa 3 (.tmp 5))),
   (oo 27 (.ld (.tmp 26) none)),
   (oo 28 (.fa 4 (.tmp 5))),
   (oo 29 (.ld (.tmp 28) (some 3))),
   (oo 30 (.call n_rr18_Writes [(.tmp 22), (.tmp 23), (.tmp 25), (.tmp 27), (.tmp 29)])),
   (oo 7 (.mov (.tmp 30)))]
@[simp] def rr18_read_r6 : List VOp :=
  [(oo 31 (.mov (.tmp 7))),
   (oo 32 (.bin .gtr (.tmp 31) (.const (ki 0))))]
@[simp] def rr18_read_r7 : List VOp :=
  [(oo 33 (.fa 7 (.tmp 5))),
   (oo 34 (.ld (.tmp 33) (some 2))),
   (oo 35 (.fa 0 (.tmp 5))),
   (oo 36 (.ld (.tmp 35) none)),
   (oo 37 (.mov (.tmp 7))),
   (oo 38 (.build [zi, zi] [(0, 1, (.tmp 36)), (1, 1, (.tmp 37))])),
   (oo 39 (.eqs false [.i .i64, .i .i64] (.tmp 34) (.tmp 38))),
   (oo 4 (.mov (.tmp 39)))]
@[simp] def rr18_read_r8 : List VOp :=
  [(oo 40 (.build [zi, zi] [])),
   (oo 8 (.alloc [zi, zi])),
   (on (.st (.tmp 8) (.tmp 40) 2))]
@[simp] def rr18_read_r9 : List VOp :=
  [(oo 41 (.fa 7 (.tmp 5))),
   (oo 42 (.ld (.tmp 41) (some 2))),
   (oo 43 (.ld (.tmp 8) (some 2))),
   (oo 44 (.eqs false [.i .i64, .i .i64] (.tmp 42) (.tmp 43))),
   (oo 45 (.mov (.tmp 44))),
   (og 46 45 false (.ld (.tmp 2) (some 3))),
   (og 47 45 false (.mov (.tmp 1))),
   (og 48 45 false (.fa 3 (.tmp 5))),
   (og 49 45 false (.ld (.tmp 48) none)),
   (og 50 45 false (.fa 4 (.tmp 5))),
   (og 51 45 false (.ld (.tmp 50) (some 3))),
   (og 52 45 false (.fa 7 (.tmp 5))),
   (og 53 45 false (.ld (.tmp 52) (some 2))),
   (og 54 45 false (.call n_rr18_version [(.tmp 46), (.tmp 47), (.tmp 49), (.tmp 51), (.tmp 53)])),
   (oo 55 (.pick (.tmp 45) (.const (kb true)) (.tmp 54))),
   (oo 4 (.mov (.tmp 55)))]
def rr18_read : VCode := (.seq (.reg rr18_read_r0) (.seq (.reg rr18_read_r1) (.seq (.reg rr18_read_r2) (.seq (.seq (.reg rr18_read_r3) (.cond (.tmp 21) (.seq (.reg rr18_read_r4) .ret) .skip)) (.seq (.reg rr18_read_r5) (.seq (.seq (.reg rr18_read_r6) (.cond (.tmp 32) (.seq (.reg rr18_read_r7) .ret) .skip)) (.seq (.reg rr18_read_r8) (.seq (.reg rr18_read_r9) .ret))))))))
theorem rr18_read_is : fnV prog n_rr18_read = some (56, rr18_read, [.tmp 4]) := by kernel_rfl
/- rr18_write -/
@[simp] def rr18_write_r0 : List VOp :=
  [(oo 2 (.box (.tmp 0))),
   (oo 4 (.mov (.const (kb false))))]
@[simp] def rr18_write_r1 : List VOp :=
  [(oo 8 (.fa 1 (.tmp 2))),
   (oo 9 (.ld (.tmp 8) none)),
   (oo 10 (.mov (.tmp 1))),
   (oo 11 (.ia 22 (.tmp 9) (.tmp 10))),
   (oo 12 (.ld (.tmp 11) (some 22))),
   (oo 5 (.alloc [zi, zi, zi, zi, zb, zi, zs, zi, zi, zi, .nil 3, zi, zi, zb, zi, zs, zb, zi, zs, .nil 9, .nil 5, zb])),
   (on (.st (.tmp 5) (.tmp 12) 22))]
@[simp] def rr18_write_r2 : List VOp :=
  [(oo 13 (.ld (.tmp 2) (some 3))),
   (oo 14 (.fa 3 (.tmp 5))),
   (oo 15 (.ld (.tmp 14) none)),
   (oo 16 (.fa 4 (.tmp 5))),
   (oo 17 (.ld (.tmp 16) (some 3))),
   (oo 18 (.call n_rr18_key [(.tmp 13), (.tmp 15), (.tmp 17)])),
   (oo 6 (.mov (.tmp 18)))]
@[simp] def rr18_write_s0 : VT :=
  .op (og 23 21 false (.ld (.tmp 22) none)) <|
  .op (og 32 21 false (.call n_rr18_Writes [(.tmp 24), (.tmp 25), (.tmp 27), (.tmp 29), (.tmp 31)])) <|
  .op (og 33 21 false (.bin .add (.tmp 32) (.const (ki 1)))) <|
  .op (og 34 21 false (.bin .neq (.tmp 23) (.tmp 33))) <|
  .op (oo 35 (.pick (.tmp 21) (.const (kb true)) (.tmp 34))) <|
  .done
@[simp] def rr18_write_s1 : VT :=
  .op (og 32 21 false (.call n_rr18_Writes [(.tmp 24), (.tmp 25), (.tmp 27), (.tmp 29), (.tmp 31)])) <|
  .op (og 23 21 false (.ld (.tmp 22) none)) <|
  .op (og 33 21 false (.bin .add (.tmp 32) (.const (ki 1)))) <|
  .op (og 34 21 false (.bin .neq (.tmp 23) (.tmp 33))) <|
  .op (oo 35 (.pick (.tmp 21) (.const (kb true)) (.tmp 34))) <|
  .done
@[simp] def rr18_write_t3 : VT :=
  .op (oo 19 (.mov (.tmp 6))) <|
  .op (oo 20 (.un .not (.tmp 19))) <|
  .op (oo 21 (.mov (.tmp 20))) <|
  .op (og 22 21 false (.fa 9 (.tmp 5))) <|
  .op (og 24 21 false (.ld (.tmp 2) (some 3))) <|
  .op (og 25 21 false (.mov (.tmp 1))) <|
  .op (og 26 21 false (.fa 0 (.tmp 5))) <|
  .op (og 27 21 false (.ld (.tmp 26) none)) <|
  .op (og 28 21 false (.fa 3 (.tmp 5))) <|
  .op (og 29 21 false (.ld (.tmp 28) none)) <|
  .op (og 30 21 false (.fa 4 (.tmp 5))) <|
  .op (og 31 21 false (.ld (.tmp 30) (some 3))) <|
  .alt (rr18_write_s0) (rr18_write_s1)
@[simp] def rr18_write_r4 : List VOp :=
  [(oo 4 (.mov (.const (kb false))))]
@[simp] def rr18_write_t5 : VT :=
  .op (oo 36 (.fa 0 (.tmp 2))) <|
  .op (oo 37 (.ld (.tmp 36) none)) <|
  .op (oo 38 (.fa 3 (.tmp 5))) <|
  .op (oo 39 (.ld (.tmp 38) none)) <|
  .op (oo 40 (.ia 1 (.tmp 37) (.tmp 39))) <|
  .op (oo 41 (.ld (.tmp 40) (some 1))) <|
  .op (oo 42 (.fa 10 (.tmp 5))) <|
  .op (oo 43 (.ld (.tmp 42) none)) <|
  .op (oo 44 (.call n_rr02_Fits [(.tmp 41), (.tmp 43)])) <|
  .op (oo 7 (.mov (.tmp 44))) <|
  .done
@[simp] def rr18_write_t6 : VT :=
  .op (oo 45 (.fa 10 (.tmp 5))) <|
  .op (oo 46 (.ld (.tmp 45) none)) <|
  .op (oo 47 (.len (.tmp 46))) <|
  .op (oo 48 (.bin .eql (.tmp 47) (.const (ki 0)))) <|
  .op (oo 49 (.mov (.tmp 48))) <|
  .op (og 50 49 false (.mov (.tmp 7))) <|
  .op (og 51 49 false (.mov (.tmp 50))) <|
  .op (og 52 51 true (.fa 10 (.tmp 5))) <|
  .op (og 53 51 true (.ld (.tmp 52) none)) <|
  .op (og 54 51 true (.ia 3 (.tmp 53) (.const (ki 0)))) <|
  .op (og 55 51 true (.ld (.tmp 54) (some 3))) <|
  .op (og 56 51 true (.fa 4 (.tmp 5))) <|
  .op (og 57 51 true (.ld (.tmp 56) (some 3))) <|
  .op (og 58 51 true (.eqs false [.b, .i .i64, .s] (.tmp 55) (.tmp 57))) <|
  .op (og 59 49 false (.pick (.tmp 51) (.tmp 58) (.const (kb false)))) <|
  .op (oo 60 (.pick (.tmp 49) (.const (kb true)) (.tmp 59))) <|
  .op (oo 4 (.mov (.tmp 60))) <|
  .done
def rr18_write : VCode := (.seq (.reg rr18_write_r0) (.seq (.reg rr18_write_r1) (.seq (.reg rr18_write_r2) (.seq (.seq (.any rr18_write_t3) (.cond (.tmp 35) (.seq (.reg rr18_write_r4) .ret) .skip)) (.seq (.any rr18_write_t5) (.seq (.any rr18_write_t6) .ret))))))
theorem rr18_write_is : fnV prog n_rr18_write = some (61, rr18_write, [.tmp 4]) := by kernel_rfl
/- rr18_pred -/
@[simp] def rr18_pred_r0 : List VOp :=
  [(oo 2 (.box (.tmp 0))),
   (oo 4 (.mov (.const (kb false))))]
@[simp] def rr18_pred_r1 : List VOp :=
  [(oo 14 (.fa 1 (.tmp 2))),
   (oo 15 (.ld (.tmp 14) none)),
   (oo 16 (.mov (.tmp 1))),
   (oo 17 (.ia 22 (.tmp 15) (.tmp 16))),
   (oo 18 (.ld (.tmp 17) (some 22))),
   (oo 5 (.alloc [zi, zi, zi, zi, zb, zi, zs, zi, zi, zi, .nil 3, zi, zi, zb, zi, zs, zb, zi, zs, .nil 9, .nil 5, zb])),
   (on (.st (.tmp 5) (.tmp 18) 22))]
@[simp] def rr18_pred_t2 : VT :=
  .op (oo 19 (.fa 3 (.tmp 5))) <|
  .op (oo 20 (.ld (.tmp 19) none)) <|
  .op (oo 21 (.bin .lss (.tmp 20) (.const (ki 0)))) <|
  .op (oo 22 (.mov (.tmp 21))) <|
  .op (og 23 22 false (.fa 3 (.tmp 5))) <|
  .op (og 24 22 false (.ld (.tmp 23) none)) <|
  .op (og 25 22 false (.fa 0 (.tmp 2))) <|
  .op (og 26 22 false (.ld (.tmp 25) none)) <|
  .op (og 27 22 false (.len (.tmp 26))) <|
  .op (og 28 22 false (.bin .geq (.tmp 24) (.tmp 27))) <|
  .op (oo 29 (.pick (.tmp 22) (.const (kb true)) (.tmp 28))) <|
  .op (oo 30 (.mov (.tmp 29))) <|
  .op (og 31 30 false (.fa 0 (.tmp 2))) <|
  .op (og 32 30 false (.ld (.tmp 31) none)) <|
  .op (og 33 30 false (.fa 3 (.tmp 5))) <|
  .op (og 34 30 false (.ld (.tmp 33) none)) <|
  .op (og 35 30 false (.ia 1 (.tmp 32) (.tmp 34))) <|
  .op (og 36 30 false (.ld (.tmp 35) (some 1))) <|
  .op (og 37 30 false (.fa 11 (.tmp 5))) <|
  .op (og 38 30 false (.ld (.tmp 37) (some 9))) <|
  .op (og 39 30 false (.call n_rr03_May [(.tmp 36), (.tmp 38)])) <|
  .op (og 40 30 false (.un .not (.tmp 39))) <|
  .op (oo 41 (.pick (.tmp 30) (.const (kb true)) (.tmp 40))) <|
  .done
@[simp] def rr18_pred_r3 : List VOp :=
  [(oo 4 (.mov (.const (kb false))))]
@[simp] def rr18_pred_r4 : List VOp :=
  [(oo 6 (.mov (.const (ki 0))))]
@[simp] def rr18_pred_r5 : List VOp :=
  [(oo 42 (.mov (.tmp 6))),
   (oo 43 (.fa 20 (.tmp 5))),
   (oo 44 (.ld (.tmp 43) none)),
   (oo 45 (.len (.tmp 44))),
   (oo 46 (.bin .lss (.tmp 42) (.tmp 45)))]
@[simp] def rr18_pred_r6 : List VOp :=
  [(oo 49 (.fa 20 (.tmp 5))),
   (oo 50 (.ld (.tmp 49) none)),
   (oo 51 (.mov (.tmp 6))),
   (oo 52 (.ia 5 (.tmp 50) (.tmp 51))),
   (oo 53 (.ld (.tmp 52) (some 5))),
   (oo 7 (.alloc [zb, zi, zs, zi, zi])),
   (on (.st (.tmp 7) (.tmp 53) 5))]
@[simp] def rr18_pred_r7 : List VOp :=
  [(oo 54 (.ld (.tmp 2) (some 3))),
   (oo 55 (.fa 3 (.tmp 5))),
   (oo 56 (.ld (.tmp 55) none)),
   (oo 57 (.fa 0 (.tmp 7))),
   (oo 58 (.ld (.tmp 57) (some 3))),
   (oo 59 (.call n_rr18_key [(.tmp 54), (.tmp 56), (.tmp 58)])),
   (oo 8 (.mov (.tmp 59)))]
@[simp] def rr18_pred_r8 : List VOp :=
  [(oo 60 (.mov (.tmp 8))),
   (oo 61 (.un .not (.tmp 60))),
   (oo 62 (.mov (.tmp 61))),
   (og 63 62 false (.ld (.tmp 2) (some 3))),
   (og 64 62 false (.mov (.tmp 1))),
   (og 65 62 false (.fa 3 (.tmp 5))),
   (og 66 62 false (.ld (.tmp 65) none)),
   (og 67 62 false (.fa 0 (.tmp 7))),
   (og 68 62 false (.ld (.tmp 67) (some 3))),
   (og 69 62 false (.fa 3 (.tmp 7))),
   (og 70 62 false (.ld (.tmp 69) (some 2))),
   (og 71 62 false (.call n_rr18_version [(.tmp 63), (.tmp 64), (.tmp 66), (.tmp 68), (.tmp 70)])),
   (og 72 62 false (.un .not (.tmp 71))),
   (oo 73 (.pick (.tmp 62) (.const (kb true)) (.tmp 72)))]
@[simp] def rr18_pred_r9 : List VOp :=
  [(oo 4 (.mov (.const (kb false))))]
@[simp] def rr18_pred_t10 : VT :=
  .op (oo 74 (.mov (.tmp 6))) <|
  .op (oo 75 (.bin .gtr (.tmp 74) (.const (ki 0)))) <|
  .op (oo 76 (.mov (.tmp 75))) <|
  .op (og 77 76 true (.fa 20 (.tmp 5))) <|
  .op (og 78 76 true (.ld (.tmp 77) none)) <|
  .op (og 79 76 true (.mov (.tmp 6))) <|
  .op (og 80 76 true (.bin .sub (.tmp 79) (.const (ki 1)))) <|
  .op (og 81 76 true (.ia 5 (.tmp 78) (.tmp 80))) <|
  .op (og 82 76 true (.fa 0 (.tmp 81))) <|
  .op (og 83 76 true (.ld (.tmp 82) (some 3))) <|
  .op (og 84 76 true (.fa 0 (.tmp 7))) <|
  .op (og 85 76 true (.ld (.tmp 84) (some 3))) <|
  .op (og 86 76 true (.call n_rr01_Compare [(.tmp 83), (.tmp 85)])) <|
  .op (og 87 76 true (.bin .geq (.tmp 86) (.const (ki 0)))) <|
  .op (oo 88 (.pick (.tmp 76) (.tmp 87) (.const (kb false)))) <|
  .done
@[simp] def rr18_pred_r11 : List VOp :=
  [(oo 4 (.mov (.const (kb false))))]
@[simp] def rr18_pred_r12 : List VOp :=
  [(oo 47 (.mov (.tmp 6))),
   (oo 48 (.bin .add (.tmp 47) (.const (ki 1)))),
   (oo 6 (.mov (.tmp 48)))]
def rr18_pred_l13 : VCode :=
  (.seq (.seq (.reg rr18_pred_r5) (.cond (.tmp 46) .skip (.exit 0))) (.seq (.block 1 (.seq (.reg rr18_pred_r6) (.seq (.reg rr18_pred_r7) (.seq (.seq (.reg rr18_pred_r8) (.cond (.tmp 73) (.seq (.reg rr18_pred_r9) .ret) .skip)) (.seq (.any rr18_pred_t10) (.cond (.tmp 88) (.seq (.reg rr18_pred_r11) .ret) .skip)))))) (.reg rr18_pred_r12)))
@[simp] def rr18_pred_r14 : List VOp :=
  [(oo 9 (.mov (.const (ki 0))))]
@[simp] def rr18_pred_r15 : List VOp :=
  [(oo 89 (.mov (.tmp 9))),
   (oo 90 (.mov (.tmp 1))),
   (oo 91 (.bin .lss (.tmp 89) (.tmp 90)))]
@[simp] def rr18_pred_r16 : List VOp :=
  [(oo 94 (.fa 1 (.tmp 2))),
   (oo 95 (.ld (.tmp 94) none)),
   (oo 96 (.mov (.tmp 9))),
   (oo 97 (.ia 22 (.tmp 95) (.tmp 96))),
   (oo 98 (.ld (.tmp 97) (some 22))),
   (oo 10 (.alloc [zi, zi, zi, zi, zb, zi, zs, zi, zi, zi, .nil 3, zi, zi, zb, zi, zs, zb, zi, zs, .nil 9, .nil 5, zb])),
   (on (.st (.tmp 10) (.tmp 98) 22))]
@[simp] def rr18_pred_r17 : List VOp :=
  [(oo 99 (.fa 1 (.tmp 10))),
   (oo 100 (.ld (.tmp 99) none)),
   (oo 101 (.bin .neq (.tmp 100) (.const (ki 3)))),
   (oo 102 (.mov (.tmp 101))),
   (og 103 102 false (.fa 0 (.tmp 10))),
   (og 104 102 false (.ld (.tmp 103) none)),
   (og 105 102 false (.fa 0 (.tmp 5))),
   (og 106 102 false (.ld (.tmp 105) none)),
   (og 107 102 false (.bin .neq (.tmp 104) (.tmp 106))),
   (oo 108 (.pick (.tmp 102) (.const (kb true)) (.tmp 107))),
   (oo 109 (.mov (.tmp 108))),
   (og 110 109 false (.fa 3 (.tmp 10))),
   (og 111 109 false (.ld (.tmp 110) none)),
   (og 112 109 false (.fa 3 (.tmp 5))),
   (og 113 109 false (.ld (.tmp 112) none)),
   (og 114 109 false (.bin .neq (.tmp 111) (.tmp 113))),
   (oo 115 (.pick (.tmp 109) (.const (kb true)) (.tmp 114)))]
@[simp] def rr18_pred_s0 : VT :=
  .op (oo 126 (.call n_rr18_Writes [(.tmp 118), (.tmp 119), (.tmp 121), (.tmp 123), (.tmp 125)])) <|
  .op (oo 127 (.build [zi, zi] [(0, 1, (.tmp 117)), (1, 1, (.tmp 126))])) <|
  .op (oo 11 (.alloc [zi, zi])) <|
  .op (on (.st (.tmp 11) (.tmp 127) 2)) <|
  .done
@[simp] def rr18_pred_s1 : VT :=
  .op (oo 11 (.alloc [zi, zi])) <|
  .op (oo 126 (.call n_rr18_Writes [(.tmp 118), (.tmp 119), (.tmp 121), (.tmp 123), (.tmp 125)])) <|
  .op (oo 127 (.build [zi, zi] [(0, 1, (.tmp 117)), (1, 1, (.tmp 126))])) <|
  .op (on (.st (.tmp 11) (.tmp 127) 2)) <|
  .done
@[simp] def rr18_pred_s2 : VT :=
  .op (oo 117 (.ld (.tmp 116) none)) <|
  .alt (rr18_pred_s0) (rr18_pred_s1)
@[simp] def rr18_pred_s3 : VT :=
  .op (oo 126 (.call n_rr18_Writes [(.tmp 118), (.tmp 119), (.tmp 121), (.tmp 123), (.tmp 125)])) <|
  .op (oo 117 (.ld (.tmp 116) none)) <|
  .op (oo 127 (.build [zi, zi] [(0, 1, (.tmp 117)), (1, 1, (.tmp 126))])) <|
  .op (oo 11 (.alloc [zi, zi])) <|
  .op (on (.st (.tmp 11) (.tmp 127) 2)) <|
  .done
@[simp] def rr18_pred_s4 : VT :=
  .op (oo 117 (.ld (.tmp 116) none)) <|
  .op (oo 126 (.call n_rr18_Writes [(.tmp 118), (.tmp 119), (.tmp 121), (.tmp 123), (.tmp 125)])) <|
  .op (oo 127 (.build [zi, zi] [(0, 1, (.tmp 117)), (1, 1, (.tmp 126))])) <|
  .op (on (.st (.tmp 11) (.tmp 127) 2)) <|
  .done
@[simp] def rr18_pred_s5 : VT :=
  .op (oo 126 (.call n_rr18_Writes [(.tmp 118), (.tmp 119), (.tmp 121), (.tmp 123), (.tmp 125)])) <|
  .op (oo 117 (.ld (.tmp 116) none)) <|
  .op (oo 127 (.build [zi, zi] [(0, 1, (.tmp 117)), (1, 1, (.tmp 126))])) <|
  .op (on (.st (.tmp 11) (.tmp 127) 2)) <|
  .done
@[simp] def rr18_pred_s6 : VT :=
  .op (oo 11 (.alloc [zi, zi])) <|
  .alt (rr18_pred_s4) (rr18_pred_s5)
@[simp] def rr18_pred_t18 : VT :=
  .op (oo 116 (.fa 0 (.tmp 5))) <|
  .op (oo 118 (.ld (.tmp 2) (some 3))) <|
  .op (oo 119 (.mov (.tmp 1))) <|
  .op (oo 120 (.fa 0 (.tmp 5))) <|
  .op (oo 121 (.ld (.tmp 120) none)) <|
  .op (oo 122 (.fa 3 (.tmp 5))) <|
  .op (oo 123 (.ld (.tmp 122) none)) <|
  .op (oo 124 (.fa 4 (.tmp 10))) <|
  .op (oo 125 (.ld (.tmp 124) (some 3))) <|
  .alt (rr18_pred_s2) (  .alt (rr18_pred_s3) (rr18_pred_s6))
@[simp] def rr18_pred_r19 : List VOp :=
  [(oo 12 (.mov (.const (kb false))))]
@[simp] def rr18_pred_r20 : List VOp :=
  [(oo 13 (.mov (.const (ki 0))))]
@[simp] def rr18_pred_r21 : List VOp :=
  [(oo 128 (.mov (.tmp 13))),
   (oo 129 (.fa 20 (.tmp 5))),
   (oo 130 (.ld (.tmp 129) none)),
   (oo 131 (.len (.tmp 130))),
   (oo 132 (.bin .lss (.tmp 128) (.tmp 131)))]
@[simp] def rr18_pred_t22 : VT :=
  .op (oo 135 (.mov (.tmp 12))) <|
  .op (oo 136 (.mov (.tmp 135))) <|
  .op (og 137 136 false (.fa 20 (.tmp 5))) <|
  .op (og 138 136 false (.ld (.tmp 137) none)) <|
  .op (og 139 136 false (.mov (.tmp 13))) <|
  .op (og 140 136 false (.ia 5 (.tmp 138) (.tmp 139))) <|
  .op (og 141 136 false (.fa 0 (.tmp 140))) <|
  .op (og 142 136 false (.ld (.tmp 141) (some 3))) <|
  .op (og 143 136 false (.fa 4 (.tmp 10))) <|
  .op (og 144 136 false (.ld (.tmp 143) (some 3))) <|
  .op (og 145 136 false (.eqs false [.b, .i .i64, .s] (.tmp 142) (.tmp 144))) <|
  .op (og 146 136 false (.mov (.tmp 145))) <|
  .op (og 147 146 true (.fa 20 (.tmp 5))) <|
  .op (og 148 146 true (.ld (.tmp 147) none)) <|
  .op (og 149 146 true (.mov (.tmp 13))) <|
  .op (og 150 146 true (.ia 5 (.tmp 148) (.tmp 149))) <|
  .op (og 151 146 true (.fa 3 (.tmp 150))) <|
  .op (og 152 146 true (.ld (.tmp 151) (some 2))) <|
  .op (og 153 146 true (.ld (.tmp 11) (some 2))) <|
  .op (og 154 146 true (.eqs false [.i .i64, .i .i64] (.tmp 152) (.tmp 153))) <|
  .op (og 155 136 false (.pick (.tmp 146) (.tmp 154) (.const (kb false)))) <|
  .op (oo 156 (.pick (.tmp 136) (.const (kb true)) (.tmp 155))) <|
  .op (oo 12 (.mov (.tmp 156))) <|
  .done
@[simp] def rr18_pred_r23 : List VOp :=
  [(oo 133 (.mov (.tmp 13))),
   (oo 134 (.bin .add (.tmp 133) (.const (ki 1)))),
   (oo 13 (.mov (.tmp 134)))]
def rr18_pred_l24 : VCode :=
  (.seq (.seq (.reg rr18_pred_r21) (.cond (.tmp 132) .skip (.exit 4))) (.seq (.block 5 (.any rr18_pred_t22)) (.reg rr18_pred_r23)))
@[simp] def rr18_pred_r25 : List VOp :=
  [(oo 157 (.mov (.tmp 12))),
   (oo 158 (.un .not (.tmp 157)))]
@[simp] def rr18_pred_r26 : List VOp :=
  [(oo 4 (.mov (.const (kb false))))]
@[simp] def rr18_pred_r27 : List VOp :=
  [(oo 92 (.mov (.tmp 9))),
   (oo 93 (.bin .add (.tmp 92) (.const (ki 1)))),
   (oo 9 (.mov (.tmp 93)))]
def rr18_pred_l28 : VCode :=
  (.seq (.seq (.reg rr18_pred_r15) (.cond (.tmp 91) .skip (.exit 2))) (.seq (.block 3 (.seq (.reg rr18_pred_r16) (.seq (.seq (.reg rr18_pred_r17) (.cond (.tmp 115) (.exit 3) .skip)) (.seq (.any rr18_pred_t18) (.seq (.reg rr18_pred_r19) (.seq (.seq (.reg rr18_pred_r20) (.block 4 (.loop rr18_pred_l24))) (.seq (.reg rr18_pred_r25) (.cond (.tmp 158) (.seq (.reg rr18_pred_r26) .ret) .skip)))))))) (.reg rr18_pred_r27)))
@[simp] def rr18_pred_r29 : List VOp :=
  [(oo 4 (.mov (.const (kb true))))]
def rr18_pred : VCode := (.seq (.reg rr18_pred_r0) (.seq (.reg rr18_pred_r1) (.seq (.seq (.any rr18_pred_t2) (.cond (.tmp 41) (.seq (.reg rr18_pred_r3) .ret) .skip)) (.seq (.seq (.reg rr18_pred_r4) (.block 0 (.loop rr18_pred_l13))) (.seq (.seq (.reg rr18_pred_r14) (.block 2 (.loop rr18_pred_l28))) (.seq (.reg rr18_pred_r29) .ret))))))
theorem rr18_pred_is : fnV prog n_rr18_pred = some (159, rr18_pred, [.tmp 4]) := by kernel_rfl
/- pred_Holds_1 -/
@[simp] def pred_Holds_1_r0 : List VOp :=
  [(oo 2 (.box (.tmp 0))),
   (oo 3 (.mov (.const (kb false))))]
@[simp] def pred_Holds_1_r1 : List VOp :=
  [(oo 4 (.ld (.tmp 2) (some 9))),
   (oo 5 (.ld (.tmp 1) none)),
   (oo 6 (.call n_pred_Holds [(.tmp 4), (.tmp 5)])),
   (oo 3 (.mov (.tmp 6)))]
def pred_Holds_1 : VCode := (.seq (.reg pred_Holds_1_r0) (.seq (.reg pred_Holds_1_r1) .ret))
theorem pred_Holds_1_is : fnV prog n_pred_Holds_1 = some (7, pred_Holds_1, [.tmp 3]) := by kernel_rfl
/- pred_leaf -/
@[simp] def pred_leaf_r0 : List VOp :=
  [(oo 2 (.box (.tmp 0))),
   (oo 4 (.mov (.const (kb false))))]
@[simp] def pred_leaf_r1 : List VOp :=
  [(oo 6 (.fa 1 (.tmp 2))),
   (oo 7 (.ld (.tmp 6) none)),
   (oo 8 (.bin .lss (.tmp 7) (.const (ki 0)))),
   (oo 9 (.mov (.tmp 8))),
   (og 10 9 false (.fa 1 (.tmp 2))),
   (og 11 9 false (.ld (.tmp 10) none)),
   (og 12 9 false (.mov (.tmp 1))),
   (og 13 9 false (.len (.tmp 12))),
   (og 14 9 false (.bin .geq (.tmp 11) (.tmp 13))),
   (oo 15 (.pick (.tmp 9) (.const (kb true)) (.tmp 14)))]
@[simp] def pred_leaf_r2 : List VOp :=
  [(oo 4 (.mov (.const (kb false))))]
@[simp] def pred_leaf_t3 : VT :=
  .op (oo 16 (.mov (.tmp 1))) <|
  .op (oo 17 (.fa 1 (.tmp 2))) <|
  .op (oo 18 (.ld (.tmp 17) none)) <|
  .op (oo 19 (.ia 3 (.tmp 16) (.tmp 18))) <|
  .op (oo 20 (.ld (.tmp 19) (some 3))) <|
  .op (oo 21 (.fa 2 (.tmp 2))) <|
  .op (oo 22 (.ld (.tmp 21) (some 3))) <|
  .op (oo 23 (.call n_value_Compare [(.tmp 20), (.tmp 22)])) <|
  .op (oo 5 (.mov (.tmp 23))) <|
  .done
@[simp] def pred_leaf_r4 : List VOp :=
  [(oo 24 (.fa 0 (.tmp 2))),
   (oo 25 (.ld (.tmp 24) none))]
@[simp] def pred_leaf_r5 : List VOp :=
  [(oo 27 (.bin .eql (.tmp 25) (.const (ki 3)))),
   (oo 26 (.mov (.tmp 27)))]
@[simp] def pred_leaf_r6 : List VOp :=
  [(oo 28 (.mov (.tmp 5))),
   (oo 29 (.bin .eql (.tmp 28) (.const (ki 0)))),
   (oo 4 (.mov (.tmp 29)))]
@[simp] def pred_leaf_r7 : List VOp :=
  [(oo 31 (.bin .eql (.tmp 25) (.const (ki 4)))),
   (oo 30 (.mov (.tmp 31)))]
@[simp] def pred_leaf_r8 : List VOp :=
  [(oo 32 (.mov (.tmp 5))),
   (oo 33 (.bin .neq (.tmp 32) (.const (ki 0)))),
   (oo 4 (.mov (.tmp 33)))]
@[simp] def pred_leaf_r9 : List VOp :=
  [(oo 35 (.bin .eql (.tmp 25) (.const (ki 5)))),
   (oo 34 (.mov (.tmp 35)))]
@[simp] def pred_leaf_r10 : List VOp :=
  [(oo 36 (.mov (.tmp 5))),
   (oo 37 (.bin .lss (.tmp 36) (.const (ki 0)))),
   (oo 4 (.mov (.tmp 37)))]
@[simp] def pred_leaf_r11 : List VOp :=
  [(oo 39 (.bin .eql (.tmp 25) (.const (ki 6)))),
   (oo 38 (.mov (.tmp 39)))]
@[simp] def pred_leaf_r12 : List VOp :=
  [(oo 40 (.mov (.tmp 5))),
   (oo 41 (.bin .leq (.tmp 40) (.const (ki 0)))),
   (oo 4 (.mov (.tmp 41)))]
@[simp] def pred_leaf_r13 : List VOp :=
  [(oo 43 (.bin .eql (.tmp 25) (.const (ki 7)))),
   (oo 42 (.mov (.tmp 43)))]
@[simp] def pred_leaf_r14 : List VOp :=
  [(oo 44 (.mov (.tmp 5))),
   (oo 45 (.bin .gtr (.tmp 44) (.const (ki 0)))),
   (oo 4 (.mov (.tmp 45)))]
@[simp] def pred_leaf_r15 : List VOp :=
  [(oo 47 (.bin .eql (.tmp 25) (.const (ki 8)))),
   (oo 46 (.mov (.tmp 47)))]
@[simp] def pred_leaf_r16 : List VOp :=
  [(oo 48 (.mov (.tmp 5))),
   (oo 49 (.bin .geq (.tmp 48) (.const (ki 0)))),
   (oo 4 (.mov (.tmp 49)))]
@[simp] def pred_leaf_t17 : VT :=
  .op (oo 50 (.mov (.tmp 5))) <|
  .op (oo 51 (.bin .geq (.tmp 50) (.const (ki 0)))) <|
  .op (oo 52 (.mov (.tmp 51))) <|
  .op (og 53 52 true (.mov (.tmp 1))) <|
  .op (og 54 52 true (.fa 1 (.tmp 2))) <|
  .op (og 55 52 true (.ld (.tmp 54) none)) <|
  .op (og 56 52 true (.ia 3 (.tmp 53) (.tmp 55))) <|
  .op (og 57 52 true (.ld (.tmp 56) (some 3))) <|
  .op (og 58 52 true (.fa 5 (.tmp 2))) <|
  .op (og 59 52 true (.ld (.tmp 58) (some 3))) <|
  .op (og 60 52 true (.call n_value_Compare [(.tmp 57), (.tmp 59)])) <|
  .op (og 61 52 true (.bin .leq (.tmp 60) (.const (ki 0)))) <|
  .op (oo 62 (.pick (.tmp 52) (.tmp 61) (.const (kb false)))) <|
  .op (oo 4 (.mov (.tmp 62))) <|
  .done
def pred_leaf : VCode := (.seq (.reg pred_leaf_r0) (.seq (.seq (.reg pred_leaf_r1) (.cond (.tmp 15) (.seq (.reg pred_leaf_r2) .ret) .skip)) (.seq (.any pred_leaf_t3) (.seq (.seq (.reg pred_leaf_r4) (.block 0 (.seq (.reg pred_leaf_r5) (.cond (.tmp 26) (.seq (.reg pred_leaf_r6) .ret) (.seq (.reg pred_leaf_r7) (.cond (.tmp 30) (.seq (.reg pred_leaf_r8) .ret) (.seq (.reg pred_leaf_r9) (.cond (.tmp 34) (.seq (.reg pred_leaf_r10) .ret) (.seq (.reg pred_leaf_r11) (.cond (.tmp 38) (.seq (.reg pred_leaf_r12) .ret) (.seq (.reg pred_leaf_r13) (.cond (.tmp 42) (.seq (.reg pred_leaf_r14) .ret) (.seq (.reg pred_leaf_r15) (.cond (.tmp 46) (.seq (.reg pred_leaf_r16) .ret) .skip)))))))))))))) (.seq (.any pred_leaf_t17) .ret)))))
theorem pred_leaf_is : fnV prog n_pred_leaf = some (63, pred_leaf, [.tmp 4]) := by kernel_rfl
/- slices_ContainsFunc_api_Pred_api_Pred -/
@[simp] def slices_ContainsFunc_api_Pred_api_Pred_r0 : List VOp :=
  [(oo 4 (.mov (.const (kb false))))]
@[simp] def slices_ContainsFunc_api_Pred_api_Pred_r1 : List VOp :=
  [(oo 5 (.mov (.tmp 0))),
   (oo 6 (.mov (.tmp 1))),
   (oo 7 (.call n_slices_IndexFunc_api_Pred_api_Pred [(.tmp 5), (.tmp 6)])),
   (oo 8 (.bin .geq (.tmp 7) (.const (ki 0)))),
   (oo 4 (.mov (.tmp 8)))]
def slices_ContainsFunc_api_Pred_api_Pred : VCode := (.seq (.reg slices_ContainsFunc_api_Pred_api_Pred_r0) (.seq (.reg slices_ContainsFunc_api_Pred_api_Pred_r1) .ret))
theorem slices_ContainsFunc_api_Pred_api_Pred_is : fnV prog n_slices_ContainsFunc_api_Pred_api_Pred = some (9, slices_ContainsFunc_api_Pred_api_Pred, [.tmp 4]) := by kernel_rfl
/- pred_Holds_2 -/
@[simp] def pred_Holds_2_r0 : List VOp :=
  [(oo 2 (.box (.tmp 0))),
   (oo 3 (.mov (.const (kb false))))]
@[simp] def pred_Holds_2_r1 : List VOp :=
  [(oo 4 (.ld (.tmp 1) none)),
   (oo 5 (.ld (.tmp 2) (some 9))),
   (oo 6 (.callv (.tmp 4) [(.tmp 5)])),
   (oo 7 (.un .not (.tmp 6))),
   (oo 3 (.mov (.tmp 7)))]
def pred_Holds_2 : VCode := (.seq (.reg pred_Holds_2_r0) (.seq (.reg pred_Holds_2_r1) .ret))
theorem pred_Holds_2_is : fnV prog n_pred_Holds_2 = some (8, pred_Holds_2, [.tmp 3]) := by kernel_rfl
/- rr03_Holds -/
@[simp] def rr03_Holds_r0 : List VOp :=
  [(oo 2 (.box (.tmp 0))),
   (oo 4 (.mov (.const (kb false))))]
@[simp] def rr03_Holds_r1 : List VOp :=
  [(oo 10 (.fa 0 (.tmp 2))),
   (oo 11 (.ld (.tmp 10) none)),
   (oo 12 (.bin .geq (.tmp 11) (.const (ki 3)))),
   (oo 13 (.mov (.tmp 12))),
   (og 14 13 true (.fa 0 (.tmp 2))),
   (og 15 13 true (.ld (.tmp 14) none)),
   (og 16 13 true (.bin .leq (.tmp 15) (.const (ki 9)))),
   (oo 17 (.pick (.tmp 13) (.tmp 16) (.const (kb false))))]
@[simp] def rr03_Holds_r2 : List VOp :=
  [(oo 18 (.ld (.tmp 2) (some 9))),
   (oo 19 (.mov (.tmp 1))),
   (oo 20 (.call n_rr03_leaf [(.tmp 18), (.tmp 19)])),
   (oo 4 (.mov (.tmp 20)))]
@[simp] def rr03_Holds_r3 : List VOp :=
  [(oo 5 (.mov (.const (kb true))))]
@[simp] def rr03_Holds_r4 : List VOp :=
  [(oo 6 (.mov (.const (kb false))))]
@[simp] def rr03_Holds_r5 : List VOp :=
  [(oo 7 (.mov (.const (kb false))))]
@[simp] def rr03_Holds_r6 : List VOp :=
  [(oo 8 (.mov (.const (ki 0))))]
@[simp] def rr03_Holds_r7 : List VOp :=
  [(oo 21 (.mov (.tmp 8))),
   (oo 22 (.fa 8 (.tmp 2))),
   (oo 23 (.ld (.tmp 22) none)),
   (oo 24 (.len (.tmp 23))),
   (oo 25 (.bin .lss (.tmp 21) (.tmp 24)))]
@[simp] def rr03_Holds_r8 : List VOp :=
  [(oo 28 (.fa 8 (.tmp 2))),
   (oo 29 (.ld (.tmp 28) none)),
   (oo 30 (.mov (.tmp 8))),
   (oo 31 (.ia 9 (.tmp 29) (.tmp 30))),
   (oo 32 (.ld (.tmp 31) (some 9))),
   (oo 33 (.mov (.tmp 1))),
   (oo 34 (.call n_rr03_Holds [(.tmp 32), (.tmp 33)])),
   (oo 9 (.mov (.tmp 34)))]
@[simp] def rr03_Holds_r9 : List VOp :=
  [(oo 35 (.mov (.tmp 5))),
   (oo 36 (.mov (.tmp 35))),
   (og 37 36 true (.mov (.tmp 9))),
   (oo 38 (.pick (.tmp 36) (.tmp 37) (.const (kb false)))),
   (oo 5 (.mov (.tmp 38)))]
@[simp] def rr03_Holds_r10 : List VOp :=
  [(oo 39 (.mov (.tmp 6))),
   (oo 40 (.mov (.tmp 39))),
   (og 41 40 false (.mov (.tmp 9))),
   (oo 42 (.pick (.tmp 40) (.const (kb true)) (.tmp 41))),
   (oo 6 (.mov (.tmp 42)))]
@[simp] def rr03_Holds_r11 : List VOp :=
  [(oo 43 (.mov (.tmp 8))),
   (oo 44 (.bin .eql (.tmp 43) (.const (ki 0))))]
@[simp] def rr03_Holds_r12 : List VOp :=
  [(oo 45 (.mov (.tmp 9))),
   (oo 7 (.mov (.tmp 45)))]
@[simp] def rr03_Holds_r13 : List VOp :=
  [(oo 26 (.mov (.tmp 8))),
   (oo 27 (.bin .add (.tmp 26) (.const (ki 1)))),
   (oo 8 (.mov (.tmp 27)))]
def rr03_Holds_l14 : VCode :=
  (.seq (.seq (.reg rr03_Holds_r7) (.cond (.tmp 25) .skip (.exit 0))) (.seq (.block 1 (.seq (.reg rr03_Holds_r8) (.seq (.reg rr03_Holds_r9) (.seq (.reg rr03_Holds_r10) (.seq (.reg rr03_Holds_r11) (.cond (.tmp 44) (.reg rr03_Holds_r12) .skip)))))) (.reg rr03_Holds_r13)))
@[simp] def rr03_Holds_r15 : List VOp :=
  [(oo 46 (.fa 0 (.tmp 2))),
   (oo 47 (.ld (.tmp 46) none))]
@[simp] def rr03_Holds_r16 : List VOp :=
  [(oo 49 (.bin .eql (.tmp 47) (.const (ki 1)))),
   (oo 48 (.mov (.tmp 49)))]
@[simp] def rr03_Holds_r17 : List VOp :=
  [(oo 4 (.mov (.const (kb true))))]
@[simp] def rr03_Holds_r18 : List VOp :=
  [(oo 51 (.bin .eql (.tmp 47) (.const (ki 10)))),
   (oo 50 (.mov (.tmp 51)))]
@[simp] def rr03_Holds_r19 : List VOp :=
  [(oo 52 (.mov (.tmp 7))),
   (oo 53 (.un .not (.tmp 52))),
   (oo 4 (.mov (.tmp 53)))]
@[simp] def rr03_Holds_r20 : List VOp :=
  [(oo 55 (.bin .eql (.tmp 47) (.const (ki 11)))),
   (oo 54 (.mov (.tmp 55)))]
@[simp] def rr03_Holds_r21 : List VOp :=
  [(oo 56 (.mov (.tmp 5))),
   (oo 4 (.mov (.tmp 56)))]
@[simp] def rr03_Holds_r22 : List VOp :=
  [(oo 58 (.bin .eql (.tmp 47) (.const (ki 12)))),
   (oo 57 (.mov (.tmp 58)))]
@[simp] def rr03_Holds_r23 : List VOp :=
  [(oo 59 (.mov (.tmp 6))),
   (oo 4 (.mov (.tmp 59)))]
@[simp] def rr03_Holds_r24 : List VOp :=
  [(oo 4 (.mov (.const (kb false))))]
def rr03_Holds : VCode := (.seq (.reg rr03_Holds_r0) (.seq (.seq (.reg rr03_Holds_r1) (.cond (.tmp 17) (.seq (.reg rr03_Holds_r2) .ret) .skip)) (.seq (.reg rr03_Holds_r3) (.seq (.reg rr03_Holds_r4) (.seq (.reg rr03_Holds_r5) (.seq (.seq (.reg rr03_Holds_r6) (.block 0 (.loop rr03_Holds_l14))) (.seq (.seq (.reg rr03_Holds_r15) (.block 2 (.seq (.reg rr03_Holds_r16) (.cond (.tmp 48) (.seq (.reg rr03_Holds_r17) .ret) (.seq (.reg rr03_Holds_r18) (.cond (.tmp 50) (.seq (.reg rr03_Holds_r19) .ret) (.seq (.reg rr03_Holds_r20) (.cond (.tmp 54) (.seq (.reg rr03_Holds_r21) .ret) (.seq (.reg rr03_Holds_r22) (.cond (.tmp 57) (.seq (.reg rr03_Holds_r23) .ret) .skip)))))))))) (.seq (.reg rr03_Holds_r24) .ret))))))))
theorem rr03_Holds_is : fnV prog n_rr03_Holds = some (60, rr03_Holds, [.tmp 4]) := by kernel_rfl
/- value_Compare -/
@[simp] def value_Compare_r0 : List VOp :=
  [(oo 2 (.box (.tmp 0))),
   (oo 3 (.box (.tmp 1))),
   (oo 4 (.mov (.const (ki 0))))]
@[simp] def value_Compare_r1 : List VOp :=
  [(oo 6 (.fa 0 (.tmp 2))),
   (oo 7 (.ld (.tmp 6) none)),
   (oo 8 (.mov (.tmp 7))),
   (og 9 8 true (.fa 0 (.tmp 3))),
   (og 10 8 true (.ld (.tmp 9) none)),
   (oo 11 (.pick (.tmp 8) (.tmp 10) (.const (kb false)))),
   (oo 5 (.mov (.tmp 11)))]
@[simp] def value_Compare_r2 : List VOp :=
  [(oo 12 (.fa 2 (.tmp 2))),
   (oo 13 (.ld (.tmp 12) none)),
   (oo 14 (.fa 2 (.tmp 3))),
   (oo 15 (.ld (.tmp 14) none)),
   (oo 16 (.call n_cmp_Compare_string [(.tmp 13), (.tmp 15)])),
   (oo 4 (.mov (.tmp 16)))]
@[simp] def value_Compare_r3 : List VOp :=
  [(oo 18 (.fa 0 (.tmp 2))),
   (oo 19 (.ld (.tmp 18) none)),
   (oo 17 (.mov (.tmp 19)))]
@[simp] def value_Compare_r4 : List VOp :=
  [(oo 4 (.mov (.const (ki 1))))]
@[simp] def value_Compare_r5 : List VOp :=
  [(oo 21 (.fa 0 (.tmp 3))),
   (oo 22 (.ld (.tmp 21) none)),
   (oo 20 (.mov (.tmp 22)))]
@[simp] def value_Compare_r6 : List VOp :=
  [(oo 4 (.mov (.const (ki (-1)))))]
@[simp] def value_Compare_r7 : List VOp :=
  [(oo 23 (.fa 1 (.tmp 2))),
   (oo 24 (.ld (.tmp 23) none)),
   (oo 25 (.fa 1 (.tmp 3))),
   (oo 26 (.ld (.tmp 25) none)),
   (oo 27 (.call n_cmp_Compare_int64 [(.tmp 24), (.tmp 26)])),
   (oo 4 (.mov (.tmp 27)))]
def value_Compare : VCode := (.seq (.reg value_Compare_r0) (.seq (.block 0 (.seq (.reg value_Compare_r1) (.cond (.tmp 5) (.seq (.reg value_Compare_r2) .ret) (.seq (.reg value_Compare_r3) (.cond (.tmp 17) (.seq (.reg value_Compare_r4) .ret) (.seq (.reg value_Compare_r5) (.cond (.tmp 20) (.seq (.reg value_Compare_r6) .ret) .skip))))))) (.seq (.reg value_Compare_r7) .ret)))
theorem value_Compare_is : fnV prog n_value_Compare = some (28, value_Compare, [.tmp 4]) := by kernel_rfl
/- hist_checker_key -/
@[simp] def hist_checker_key_r0 : List VOp :=
  [(oo 5 (.box (.tmp 2))),
   (oo 6 (.mov (.const (kb false))))]
@[simp] def hist_checker_key_t1 : VT :=
  .op (oo 7 (.mov (.tmp 1))) <|
  .op (oo 8 (.bin .geq (.tmp 7) (.const (ki 0)))) <|
  .op (oo 9 (.mov (.tmp 8))) <|
  .op (og 10 9 true (.mov (.tmp 1))) <|
  .op (og 11 9 true (.mov (.tmp 0))) <|
  .op (og 12 9 true (.chk (.tmp 11))) <|
  .op (og 13 9 true (.fa 0 (.tmp 12))) <|
  .op (og 14 9 true (.fa 0 (.tmp 13))) <|
  .op (og 15 9 true (.ld (.tmp 14) none)) <|
  .op (og 16 9 true (.len (.tmp 15))) <|
  .op (og 17 9 true (.bin .lss (.tmp 10) (.tmp 16))) <|
  .op (oo 18 (.pick (.tmp 9) (.tmp 17) (.const (kb false)))) <|
  .op (oo 19 (.mov (.tmp 18))) <|
  .op (og 20 19 true (.ld (.tmp 5) (some 3))) <|
  .op (og 21 19 true (.call n_value_Right [(.tmp 20)])) <|
  .op (oo 22 (.pick (.tmp 19) (.tmp 21) (.const (kb false)))) <|
  .op (oo 23 (.mov (.tmp 22))) <|
  .op (og 24 23 true (.fa 0 (.tmp 5))) <|
  .op (og 25 23 true (.ld (.tmp 24) none)) <|
  .op (og 26 23 true (.mov (.tmp 0))) <|
  .op (og 27 23 true (.chk (.tmp 26))) <|
  .op (og 28 23 true (.fa 0 (.tmp 27))) <|
  .op (og 29 23 true (.fa 0 (.tmp 28))) <|
  .op (og 30 23 true (.ld (.tmp 29) none)) <|
  .op (og 31 23 true (.mov (.tmp 1))) <|
  .op (og 32 23 true (.ia 1 (.tmp 30) (.tmp 31))) <|
  .op (og 33 23 true (.fa 0 (.tmp 32))) <|
  .op (og 34 23 true (.ld (.tmp 33) none)) <|
  .op (og 35 23 true (.ia 1 (.tmp 34) (.const (ki 0)))) <|
  .op (og 36 23 true (.ld (.tmp 35) none)) <|
  .op (og 37 23 true (.beq false (.tmp 25) (.tmp 36))) <|
  .op (oo 38 (.pick (.tmp 23) (.tmp 37) (.const (kb false)))) <|
  .op (oo 6 (.mov (.tmp 38))) <|
  .done
def hist_checker_key : VCode := (.seq (.reg hist_checker_key_r0) (.seq (.any hist_checker_key_t1) .ret))
theorem hist_checker_key_is : fnV prog n_hist_checker_key = some (39, hist_checker_key, [.tmp 6]) := by kernel_rfl
/- hist_checker_version -/
@[simp] def hist_checker_version_r0 : List VOp :=
  [(oo 4 (.box (.tmp 1))),
   (oo 5 (.box (.tmp 2))),
   (oo 6 (.mov (.const (kb false))))]
@[simp] def hist_checker_version_t1 : VT :=
  .op (oo 7 (.fa 1 (.tmp 5))) <|
  .op (oo 8 (.ld (.tmp 7) none)) <|
  .op (oo 9 (.bin .geq (.tmp 8) (.const (ki 1)))) <|
  .op (oo 10 (.mov (.tmp 9))) <|
  .op (og 11 10 true (.fa 1 (.tmp 5))) <|
  .op (og 12 10 true (.ld (.tmp 11) none)) <|
  .op (og 13 10 true (.mov (.tmp 0))) <|
  .op (og 14 10 true (.chk (.tmp 13))) <|
  .op (og 15 10 true (.fa 4 (.tmp 14))) <|
  .op (og 16 10 true (.ld (.tmp 15) none)) <|
  .op (og 17 10 true (.fa 0 (.tmp 5))) <|
  .op (og 18 10 true (.ld (.tmp 17) none)) <|
  .op (og 19 10 true (.ld (.tmp 4) (some 4))) <|
  .op (og 20 10 true (.build [zi, zi, zb, zi, zs] [(0, 1, (.tmp 18)), (1, 4, (.tmp 19))])) <|
  .op (og 21 10 true (.lkp (true, [.i .i64, .i .i64, .b, .i .i64, .s], false) [zi] (.tmp 16) (.tmp 20) false)) <|
  .op (og 22 10 true (.bin .leq (.tmp 12) (.tmp 21))) <|
  .op (oo 23 (.pick (.tmp 10) (.tmp 22) (.const (kb false)))) <|
  .op (oo 6 (.mov (.tmp 23))) <|
  .done
def hist_checker_version : VCode := (.seq (.reg hist_checker_version_r0) (.seq (.any hist_checker_version_t1) .ret))
theorem hist_checker_version_is : fnV prog n_hist_checker_version = some (24, hist_checker_version, [.tmp 6]) := by kernel_rfl
/- pred_Check -/
@[simp] def pred_Check_r0 : List VOp :=
  [(oo 2 (.box (.tmp 0))),
   (oo 3 (.box (.tmp 1))),
   (oo 4 (.mov (.const (ki 0))))]
@[simp] def pred_Check_r1 : List VOp :=
  [(oo 8 (.ld (.tmp 2) (some 1))),
   (oo 9 (.call n_row_Check [(.tmp 8)])),
   (oo 5 (.mov (.tmp 9)))]
@[simp] def pred_Check_r2 : List VOp :=
  [(oo 10 (.mov (.tmp 5))),
   (oo 11 (.bin .neq (.tmp 10) (.const (ki 0))))]
@[simp] def pred_Check_r3 : List VOp :=
  [(oo 12 (.mov (.tmp 5))),
   (oo 4 (.mov (.tmp 12)))]
@[simp] def pred_Check_r4 : List VOp :=
  [(oo 13 (.ld (.tmp 2) (some 1))),
   (oo 14 (.build [.nil 1, zb] [(0, 1, (.tmp 13))])),
   (oo 15 (.box (.tmp 14))),
   (oo 6 (.mov (.tmp 15)))]
@[simp] def pred_Check_r5 : List VOp :=
  [(oo 16 (.mov (.tmp 6))),
   (oo 17 (.mkfn n_pred_checker_part [(.tmp 16)] [])),
   (oo 7 (.mov (.tmp 17)))]
@[simp] def pred_Check_r6 : List VOp :=
  [(oo 18 (.ld (.tmp 3) (some 9))),
   (oo 19 (.mov (.tmp 7))),
   (oo 20 (.call n_pred_each [(.tmp 18), (.tmp 19)]))]
@[simp] def pred_Check_r7 : List VOp :=
  [(oo 21 (.mov (.tmp 6))),
   (oo 22 (.chk (.tmp 21))),
   (oo 23 (.fa 1 (.tmp 22))),
   (oo 24 (.ld (.tmp 23) none)),
   (oo 25 (.mov (.tmp 24))),
   (og 26 25 false (.ld (.tmp 3) (some 9))),
   (og 27 25 false (.call n_pred_Size [(.tmp 26)])),
   (og 28 25 false (.bin .gtr (.tmp 27) (.const (ki 15)))),
   (oo 29 (.pick (.tmp 25) (.const (kb true)) (.tmp 28)))]
@[simp] def pred_Check_r8 : List VOp :=
  [(oo 4 (.mov (.const (ki 30))))]
@[simp] def pred_Check_r9 : List VOp :=
  [(oo 4 (.mov (.const (ki 0))))]
def pred_Check : VCode := (.seq (.reg pred_Check_r0) (.seq (.seq (.reg pred_Check_r1) (.seq (.reg pred_Check_r2) (.cond (.tmp 11) (.seq (.reg pred_Check_r3) .ret) .skip))) (.seq (.reg pred_Check_r4) (.seq (.reg pred_Check_r5) (.seq (.reg pred_Check_r6) (.seq (.seq (.reg pred_Check_r7) (.cond (.tmp 29) (.seq (.reg pred_Check_r8) .ret) .skip)) (.seq (.reg pred_Check_r9) .ret)))))))
theorem pred_Check_is : fnV prog n_pred_Check = some (30, pred_Check, [.tmp 4]) := by kernel_rfl
/- row_Fits -/
@[simp] def row_Fits_r0 : List VOp :=
  [(oo 2 (.box (.tmp 0))),
   (oo 4 (.mov (.const (kb false))))]
@[simp] def row_Fits_r1 : List VOp :=
  [(oo 7 (.ld (.tmp 2) (some 1))),
   (oo 8 (.call n_row_Check [(.tmp 7)])),
   (oo 9 (.bin .neq (.tmp 8) (.const (ki 0)))),
   (oo 10 (.mov (.tmp 9))),
   (og 11 10 false (.mov (.tmp 1))),
   (og 12 10 false (.len (.tmp 11))),
   (og 13 10 false (.fa 0 (.tmp 2))),
   (og 14 10 false (.ld (.tmp 13) none)),
   (og 15 10 false (.len (.tmp 14))),
   (og 16 10 false (.bin .neq (.tmp 12) (.tmp 15))),
   (oo 17 (.pick (.tmp 10) (.const (kb true)) (.tmp 16)))]
@[simp] def row_Fits_r2 : List VOp :=
  [(oo 4 (.mov (.const (kb false))))]
@[simp] def row_Fits_r3 : List VOp :=
  [(oo 18 (.mov (.tmp 1))),
   (oo 19 (.len (.tmp 18))),
   (oo 20 (.mov (.const (ki 0))))]
@[simp] def row_Fits_r4 : List VOp :=
  [(oo 21 (.bin .lss (.tmp 20) (.tmp 19)))]
@[simp] def row_Fits_r5 : List VOp :=
  [(oo 22 (.mov (.tmp 20))),
   (oo 23 (.ia 3 (.tmp 18) (.tmp 20))),
   (oo 24 (.ld (.tmp 23) (some 3))),
   (oo 6 (.alloc [zb, zi, zs])),
   (oo 5 (.mov (.tmp 22))),
   (on (.st (.tmp 6) (.tmp 24) 3))]
@[simp] def row_Fits_t6 : VT :=
  .op (oo 25 (.fa 0 (.tmp 6))) <|
  .op (oo 26 (.ld (.tmp 25) none)) <|
  .op (oo 27 (.fa 0 (.tmp 2))) <|
  .op (oo 28 (.ld (.tmp 27) none)) <|
  .op (oo 29 (.mov (.tmp 5))) <|
  .op (oo 30 (.ia 1 (.tmp 28) (.tmp 29))) <|
  .op (oo 31 (.ld (.tmp 30) none)) <|
  .op (oo 32 (.beq true (.tmp 26) (.tmp 31))) <|
  .op (oo 33 (.mov (.tmp 32))) <|
  .op (og 34 33 false (.ld (.tmp 6) (some 3))) <|
  .op (og 35 33 false (.call n_value_Right [(.tmp 34)])) <|
  .op (og 36 33 false (.un .not (.tmp 35))) <|
  .op (oo 37 (.pick (.tmp 33) (.const (kb true)) (.tmp 36))) <|
  .done
@[simp] def row_Fits_r7 : List VOp :=
  [(oo 4 (.mov (.const (kb false))))]
@[simp] def row_Fits_r8 : List VOp :=
  [(oo 38 (.bin .add (.tmp 20) (.const (ki 1)))),
   (oo 20 (.mov (.tmp 38)))]
def row_Fits_l9 : VCode :=
  (.seq (.reg row_Fits_r4) (.seq (.cond (.tmp 21) .skip (.exit 0)) (.seq (.block 1 (.seq (.reg row_Fits_r5) (.seq (.any row_Fits_t6) (.cond (.tmp 37) (.seq (.reg row_Fits_r7) .ret) .skip)))) (.reg row_Fits_r8))))
@[simp] def row_Fits_r10 : List VOp :=
  [(oo 4 (.mov (.const (kb true))))]
def row_Fits : VCode := (.seq (.reg row_Fits_r0) (.seq (.seq (.reg row_Fits_r1) (.cond (.tmp 17) (.seq (.reg row_Fits_r2) .ret) .skip)) (.seq (.seq (.reg row_Fits_r3) (.block 0 (.loop row_Fits_l9))) (.seq (.reg row_Fits_r10) .ret))))
theorem row_Fits_is : fnV prog n_row_Fits = some (39, row_Fits, [.tmp 4]) := by kernel_rfl
/- rr18_key -/
@[simp] def rr18_key_r0 : List VOp :=
  [(oo 3 (.box (.tmp 0))),
   (oo 5 (.box (.tmp 2))),
   (oo 6 (.mov (.const (kb false))))]
@[simp] def rr18_key_r1 : List VOp :=
  [(oo 8 (.mov (.tmp 1))),
   (oo 9 (.bin .lss (.tmp 8) (.const (ki 0)))),
   (oo 10 (.mov (.tmp 9))),
   (og 11 10 false (.mov (.tmp 1))),
   (og 12 10 false (.fa 0 (.tmp 3))),
   (og 13 10 false (.ld (.tmp 12) none)),
   (og 14 10 false (.len (.tmp 13))),
   (og 15 10 false (.bin .geq (.tmp 11) (.tmp 14))),
   (oo 16 (.pick (.tmp 10) (.const (kb true)) (.tmp 15)))]
@[simp] def rr18_key_r2 : List VOp :=
  [(oo 6 (.mov (.const (kb false))))]
@[simp] def rr18_key_r3 : List VOp :=
  [(oo 17 (.ld (.tmp 5) (some 3))),
   (oo 18 (.call n_rr01_Right [(.tmp 17)])),
   (oo 7 (.mov (.tmp 18)))]
@[simp] def rr18_key_t4 : VT :=
  .op (oo 19 (.mov (.tmp 7))) <|
  .op (oo 20 (.mov (.tmp 19))) <|
  .op (og 21 20 true (.fa 0 (.tmp 5))) <|
  .op (og 22 20 true (.ld (.tmp 21) none)) <|
  .op (og 23 20 true (.fa 0 (.tmp 3))) <|
  .op (og 24 20 true (.ld (.tmp 23) none)) <|
  .op (og 25 20 true (.mov (.tmp 1))) <|
  .op (og 26 20 true (.ia 1 (.tmp 24) (.tmp 25))) <|
  .op (og 27 20 true (.fa 0 (.tmp 26))) <|
  .op (og 28 20 true (.ld (.tmp 27) none)) <|
  .op (og 29 20 true (.ia 1 (.tmp 28) (.const (ki 0)))) <|
  .op (og 30 20 true (.ld (.tmp 29) none)) <|
  .op (og 31 20 true (.beq false (.tmp 22) (.tmp 30))) <|
  .op (oo 32 (.pick (.tmp 20) (.tmp 31) (.const (kb false)))) <|
  .op (oo 6 (.mov (.tmp 32))) <|
  .done
def rr18_key : VCode := (.seq (.reg rr18_key_r0) (.seq (.seq (.reg rr18_key_r1) (.cond (.tmp 16) (.seq (.reg rr18_key_r2) .ret) .skip)) (.seq (.reg rr18_key_r3) (.seq (.any rr18_key_t4) .ret))))
theorem rr18_key_is : fnV prog n_rr18_key = some (33, rr18_key, [.tmp 6]) := by kernel_rfl
/- rr18_version -/
@[simp] def rr18_version_r0 : List VOp :=
  [(oo 5 (.box (.tmp 0))),
   (oo 8 (.box (.tmp 3))),
   (oo 9 (.box (.tmp 4))),
   (oo 10 (.mov (.const (kb false))))]
@[simp] def rr18_version_r1 : List VOp :=
  [(oo 12 (.ld (.tmp 5) (some 3))),
   (oo 13 (.mov (.tmp 1))),
   (oo 14 (.fa 0 (.tmp 9))),
   (oo 15 (.ld (.tmp 14) none)),
   (oo 16 (.mov (.tmp 2))),
   (oo 17 (.ld (.tmp 8) (some 3))),
   (oo 18 (.call n_rr18_Writes [(.tmp 12), (.tmp 13), (.tmp 15), (.tmp 16), (.tmp 17)])),
   (oo 11 (.mov (.tmp 18)))]
@[simp] def rr18_version_r2 : List VOp :=
  [(oo 19 (.fa 1 (.tmp 9))),
   (oo 20 (.ld (.tmp 19) none)),
   (oo 21 (.bin .geq (.tmp 20) (.const (ki 1)))),
   (oo 22 (.mov (.tmp 21))),
   (og 23 22 true (.fa 1 (.tmp 9))),
   (og 24 22 true (.ld (.tmp 23) none)),
   (og 25 22 true (.mov (.tmp 11))),
   (og 26 22 true (.bin .leq (.tmp 24) (.tmp 25))),
   (oo 27 (.pick (.tmp 22) (.tmp 26) (.const (kb false)))),
   (oo 10 (.mov (.tmp 27)))]
def rr18_version : VCode := (.seq (.reg rr18_version_r0) (.seq (.reg rr18_version_r1) (.seq (.reg rr18_version_r2) .ret)))
theorem rr18_version_is : fnV prog n_rr18_version = some (28, rr18_version, [.tmp 10]) := by kernel_rfl
/- rr02_Fits -/
@[simp] def rr02_Fits_r0 : List VOp :=
  [(oo 2 (.box (.tmp 0))),
   (oo 4 (.mov (.const (kb false))))]
@[simp] def rr02_Fits_r1 : List VOp :=
  [(oo 8 (.ld (.tmp 2) (some 1))),
   (oo 9 (.call n_rr02_May [(.tmp 8)])),
   (oo 5 (.mov (.tmp 9)))]
@[simp] def rr02_Fits_r2 : List VOp :=
  [(oo 10 (.mov (.tmp 5))),
   (oo 11 (.un .not (.tmp 10))),
   (oo 12 (.mov (.tmp 11))),
   (og 13 12 false (.mov (.tmp 1))),
   (og 14 12 false (.len (.tmp 13))),
   (og 15 12 false (.fa 0 (.tmp 2))),
   (og 16 12 false (.ld (.tmp 15) none)),
   (og 17 12 false (.len (.tmp 16))),
   (og 18 12 false (.bin .neq (.tmp 14) (.tmp 17))),
   (oo 19 (.pick (.tmp 12) (.const (kb true)) (.tmp 18)))]
@[simp] def rr02_Fits_r3 : List VOp :=
  [(oo 4 (.mov (.const (kb false))))]
@[simp] def rr02_Fits_r4 : List VOp :=
  [(oo 6 (.mov (.const (ki 0))))]
@[simp] def rr02_Fits_r5 : List VOp :=
  [(oo 20 (.mov (.tmp 6))),
   (oo 21 (.mov (.tmp 1))),
   (oo 22 (.len (.tmp 21))),
   (oo 23 (.bin .lss (.tmp 20) (.tmp 22)))]
@[simp] def rr02_Fits_r6 : List VOp :=
  [(oo 26 (.mov (.tmp 1))),
   (oo 27 (.mov (.tmp 6))),
   (oo 28 (.ia 3 (.tmp 26) (.tmp 27))),
   (oo 29 (.ld (.tmp 28) (some 3))),
   (oo 30 (.call n_rr01_Right [(.tmp 29)])),
   (oo 7 (.mov (.tmp 30)))]
@[simp] def rr02_Fits_t7 : VT :=
  .op (oo 31 (.mov (.tmp 7))) <|
  .op (oo 32 (.un .not (.tmp 31))) <|
  .op (oo 33 (.mov (.tmp 32))) <|
  .op (og 34 33 false (.mov (.tmp 1))) <|
  .op (og 35 33 false (.mov (.tmp 6))) <|
  .op (og 36 33 false (.ia 3 (.tmp 34) (.tmp 35))) <|
  .op (og 37 33 false (.fa 0 (.tmp 36))) <|
  .op (og 38 33 false (.ld (.tmp 37) none)) <|
  .op (og 39 33 false (.fa 0 (.tmp 2))) <|
  .op (og 40 33 false (.ld (.tmp 39) none)) <|
  .op (og 41 33 false (.mov (.tmp 6))) <|
  .op (og 42 33 false (.ia 1 (.tmp 40) (.tmp 41))) <|
  .op (og 43 33 false (.ld (.tmp 42) none)) <|
  .op (og 44 33 false (.beq true (.tmp 38) (.tmp 43))) <|
  .op (oo 45 (.pick (.tmp 33) (.const (kb true)) (.tmp 44))) <|
  .done
@[simp] def rr02_Fits_r8 : List VOp :=
  [(oo 4 (.mov (.const (kb false))))]
@[simp] def rr02_Fits_r9 : List VOp :=
  [(oo 24 (.mov (.tmp 6))),
   (oo 25 (.bin .add (.tmp 24) (.const (ki 1)))),
   (oo 6 (.mov (.tmp 25)))]
def rr02_Fits_l10 : VCode :=
  (.seq (.seq (.reg rr02_Fits_r5) (.cond (.tmp 23) .skip (.exit 0))) (.seq (.block 1 (.seq (.reg rr02_Fits_r6) (.seq (.any rr02_Fits_t7) (.cond (.tmp 45) (.seq (.reg rr02_Fits_r8) .ret) .skip)))) (.reg rr02_Fits_r9)))
@[simp] def rr02_Fits_r11 : List VOp :=
  [(oo 4 (.mov (.const (kb true))))]
def rr02_Fits : VCode := (.seq (.reg rr02_Fits_r0) (.seq (.reg rr02_Fits_r1) (.seq (.seq (.reg rr02_Fits_r2) (.cond (.tmp 19) (.seq (.reg rr02_Fits_r3) .ret) .skip)) (.seq (.seq (.reg rr02_Fits_r4) (.block 0 (.loop rr02_Fits_l10))) (.seq (.reg rr02_Fits_r11) .ret)))))
theorem rr02_Fits_is : fnV prog n_rr02_Fits = some (46, rr02_Fits, [.tmp 4]) := by kernel_rfl
/- rr03_May -/
@[simp] def rr03_May_r0 : List VOp :=
  [(oo 2 (.box (.tmp 0))),
   (oo 3 (.box (.tmp 1))),
   (oo 4 (.mov (.const (kb false))))]
@[simp] def rr03_May_r1 : List VOp :=
  [(oo 6 (.ld (.tmp 2) (some 1))),
   (oo 7 (.call n_rr02_May [(.tmp 6)])),
   (oo 5 (.mov (.tmp 7)))]
@[simp] def rr03_May_r2 : List VOp :=
  [(oo 8 (.mov (.tmp 5))),
   (oo 9 (.mov (.tmp 8))),
   (og 10 9 true (.ld (.tmp 3) (some 9))),
   (og 11 9 true (.call n_rr03_Size [(.tmp 10)])),
   (og 12 9 true (.bin .leq (.tmp 11) (.const (ki 15)))),
   (oo 13 (.pick (.tmp 9) (.tmp 12) (.const (kb false)))),
   (oo 14 (.mov (.tmp 13))),
   (og 15 14 true (.ld (.tmp 2) (some 1))),
   (og 16 14 true (.ld (.tmp 3) (some 9))),
   (og 17 14 true (.call n_rr03_part [(.tmp 15), (.tmp 16)])),
   (oo 18 (.pick (.tmp 14) (.tmp 17) (.const (kb false)))),
   (oo 4 (.mov (.tmp 18)))]
def rr03_May : VCode := (.seq (.reg rr03_May_r0) (.seq (.reg rr03_May_r1) (.seq (.reg rr03_May_r2) .ret)))
theorem rr03_May_is : fnV prog n_rr03_May = some (19, rr03_May, [.tmp 4]) := by kernel_rfl
/- rr01_Compare -/
@[simp] def rr01_Compare_r0 : List VOp :=
  [(oo 2 (.box (.tmp 0))),
   (oo 3 (.box (.tmp 1))),
   (oo 4 (.mov (.const (ki 0))))]
@[simp] def rr01_Compare_r1 : List VOp :=
  [(oo 6 (.fa 0 (.tmp 2))),
   (oo 7 (.ld (.tmp 6) none)),
   (oo 8 (.fa 0 (.tmp 3))),
   (oo 9 (.ld (.tmp 8) none)),
   (oo 10 (.beq true (.tmp 7) (.tmp 9)))]
@[simp] def rr01_Compare_r2 : List VOp :=
  [(oo 11 (.fa 0 (.tmp 3))),
   (oo 12 (.ld (.tmp 11) none))]
@[simp] def rr01_Compare_r3 : List VOp :=
  [(oo 4 (.mov (.const (ki (-1)))))]
@[simp] def rr01_Compare_r4 : List VOp :=
  [(oo 4 (.mov (.const (ki 1))))]
@[simp] def rr01_Compare_r5 : List VOp :=
  [(oo 13 (.fa 0 (.tmp 2))),
   (oo 14 (.ld (.tmp 13) none)),
   (oo 15 (.un .not (.tmp 14)))]
@[simp] def rr01_Compare_r6 : List VOp :=
  [(oo 16 (.fa 1 (.tmp 2))),
   (oo 17 (.ld (.tmp 16) none)),
   (oo 18 (.fa 1 (.tmp 3))),
   (oo 19 (.ld (.tmp 18) none)),
   (oo 20 (.bin .lss (.tmp 17) (.tmp 19)))]
@[simp] def rr01_Compare_r7 : List VOp :=
  [(oo 4 (.mov (.const (ki (-1)))))]
@[simp] def rr01_Compare_r8 : List VOp :=
  [(oo 21 (.fa 1 (.tmp 2))),
   (oo 22 (.ld (.tmp 21) none)),
   (oo 23 (.fa 1 (.tmp 3))),
   (oo 24 (.ld (.tmp 23) none)),
   (oo 25 (.bin .gtr (.tmp 22) (.tmp 24)))]
@[simp] def rr01_Compare_r9 : List VOp :=
  [(oo 4 (.mov (.const (ki 1))))]
@[simp] def rr01_Compare_r10 : List VOp :=
  [(oo 4 (.mov (.const (ki 0))))]
@[simp] def rr01_Compare_r11 : List VOp :=
  [(oo 5 (.mov (.const (ki 0))))]
@[simp] def rr01_Compare_r12 : List VOp :=
  [(oo 26 (.mov (.tmp 5))),
   (oo 27 (.fa 2 (.tmp 2))),
   (oo 28 (.ld (.tmp 27) none)),
   (oo 29 (.lens (.tmp 28))),
   (oo 30 (.bin .lss (.tmp 26) (.tmp 29))),
   (oo 31 (.mov (.tmp 30))),
   (og 32 31 true (.mov (.tmp 5))),
   (og 33 31 true (.fa 2 (.tmp 3))),
   (og 34 31 true (.ld (.tmp 33) none)),
   (og 35 31 true (.lens (.tmp 34))),
   (og 36 31 true (.bin .lss (.tmp 32) (.tmp 35))),
   (oo 37 (.pick (.tmp 31) (.tmp 36) (.const (kb false))))]
@[simp] def rr01_Compare_t13 : VT :=
  .op (oo 40 (.fa 2 (.tmp 2))) <|
  .op (oo 41 (.ld (.tmp 40) none)) <|
  .op (oo 42 (.mov (.tmp 5))) <|
  .op (oo 43 (.is (.tmp 41) (.tmp 42))) <|
  .op (oo 44 (.fa 2 (.tmp 3))) <|
  .op (oo 45 (.ld (.tmp 44) none)) <|
  .op (oo 46 (.mov (.tmp 5))) <|
  .op (oo 47 (.is (.tmp 45) (.tmp 46))) <|
  .op (oo 48 (.bin .lss (.tmp 43) (.tmp 47))) <|
  .done
@[simp] def rr01_Compare_r14 : List VOp :=
  [(oo 4 (.mov (.const (ki (-1)))))]
@[simp] def rr01_Compare_t15 : VT :=
  .op (oo 49 (.fa 2 (.tmp 2))) <|
  .op (oo 50 (.ld (.tmp 49) none)) <|
  .op (oo 51 (.mov (.tmp 5))) <|
  .op (oo 52 (.is (.tmp 50) (.tmp 51))) <|
  .op (oo 53 (.fa 2 (.tmp 3))) <|
  .op (oo 54 (.ld (.tmp 53) none)) <|
  .op (oo 55 (.mov (.tmp 5))) <|
  .op (oo 56 (.is (.tmp 54) (.tmp 55))) <|
  .op (oo 57 (.bin .gtr (.tmp 52) (.tmp 56))) <|
  .done
@[simp] def rr01_Compare_r16 : List VOp :=
  [(oo 4 (.mov (.const (ki 1))))]
@[simp] def rr01_Compare_r17 : List VOp :=
  [(oo 38 (.mov (.tmp 5))),
   (oo 39 (.bin .add (.tmp 38) (.const (ki 1)))),
   (oo 5 (.mov (.tmp 39)))]
def rr01_Compare_l18 : VCode :=
  (.seq (.seq (.reg rr01_Compare_r12) (.cond (.tmp 37) .skip (.exit 0))) (.seq (.block 1 (.seq (.seq (.any rr01_Compare_t13) (.cond (.tmp 48) (.seq (.reg rr01_Compare_r14) .ret) .skip)) (.seq (.any rr01_Compare_t15) (.cond (.tmp 57) (.seq (.reg rr01_Compare_r16) .ret) .skip)))) (.reg rr01_Compare_r17)))
@[simp] def rr01_Compare_r19 : List VOp :=
  [(oo 58 (.fa 2 (.tmp 2))),
   (oo 59 (.ld (.tmp 58) none)),
   (oo 60 (.lens (.tmp 59))),
   (oo 61 (.fa 2 (.tmp 3))),
   (oo 62 (.ld (.tmp 61) none)),
   (oo 63 (.lens (.tmp 62))),
   (oo 64 (.bin .lss (.tmp 60) (.tmp 63)))]
@[simp] def rr01_Compare_r20 : List VOp :=
  [(oo 4 (.mov (.const (ki (-1)))))]
@[simp] def rr01_Compare_r21 : List VOp :=
  [(oo 65 (.fa 2 (.tmp 2))),
   (oo 66 (.ld (.tmp 65) none)),
   (oo 67 (.lens (.tmp 66))),
   (oo 68 (.fa 2 (.tmp 3))),
   (oo 69 (.ld (.tmp 68) none)),
   (oo 70 (.lens (.tmp 69))),
   (oo 71 (.bin .gtr (.tmp 67) (.tmp 70)))]
@[simp] def rr01_Compare_r22 : List VOp :=
  [(oo 4 (.mov (.const (ki 1))))]
@[simp] def rr01_Compare_r23 : List VOp :=
  [(oo 4 (.mov (.const (ki 0))))]
def rr01_Compare : VCode := (.seq (.reg rr01_Compare_r0) (.seq (.seq (.reg rr01_Compare_r1) (.cond (.tmp 10) (.seq (.seq (.reg rr01_Compare_r2) (.cond (.tmp 12) (.seq (.reg rr01_Compare_r3) .ret) .skip)) (.seq (.reg rr01_Compare_r4) .ret)) .skip)) (.seq (.seq (.reg rr01_Compare_r5) (.cond (.tmp 15) (.seq (.seq (.reg rr01_Compare_r6) (.cond (.tmp 20) (.seq (.reg rr01_Compare_r7) .ret) .skip)) (.seq (.seq (.reg rr01_Compare_r8) (.cond (.tmp 25) (.seq (.reg rr01_Compare_r9) .ret) .skip)) (.seq (.reg rr01_Compare_r10) .ret))) .skip)) (.seq (.seq (.reg rr01_Compare_r11) (.block 0 (.loop rr01_Compare_l18))) (.seq (.seq (.reg rr01_Compare_r19) (.cond (.tmp 64) (.seq (.reg rr01_Compare_r20) .ret) .skip)) (.seq (.seq (.reg rr01_Compare_r21) (.cond (.tmp 71) (.seq (.reg rr01_Compare_r22) .ret) .skip)) (.seq (.reg rr01_Compare_r23) .ret)))))))
theorem rr01_Compare_is : fnV prog n_rr01_Compare = some (72, rr01_Compare, [.tmp 4]) := by kernel_rfl
/- slices_IndexFunc_api_Pred_api_Pred -/
@[simp] def slices_IndexFunc_api_Pred_api_Pred_r0 : List VOp :=
  [(oo 4 (.mov (.const (ki 0))))]
@[simp] def slices_IndexFunc_api_Pred_api_Pred_r1 : List VOp :=
  [(oo 6 (.mov (.tmp 0))),
   (oo 7 (.len (.tmp 6))),
   (oo 8 (.mov (.const (ki 0))))]
@[simp] def slices_IndexFunc_api_Pred_api_Pred_r2 : List VOp :=
  [(oo 9 (.bin .lss (.tmp 8) (.tmp 7)))]
@[simp] def slices_IndexFunc_api_Pred_api_Pred_r3 : List VOp :=
  [(oo 10 (.mov (.tmp 8))),
   (oo 5 (.mov (.tmp 10)))]
@[simp] def slices_IndexFunc_api_Pred_api_Pred_r4 : List VOp :=
  [(oo 11 (.mov (.tmp 1))),
   (oo 12 (.mov (.tmp 0))),
   (oo 13 (.mov (.tmp 5))),
   (oo 14 (.ia 9 (.tmp 12) (.tmp 13))),
   (oo 15 (.ld (.tmp 14) (some 9))),
   (oo 16 (.callv (.tmp 11) [(.tmp 15)]))]
@[simp] def slices_IndexFunc_api_Pred_api_Pred_r5 : List VOp :=
  [(oo 17 (.mov (.tmp 5))),
   (oo 4 (.mov (.tmp 17)))]
@[simp] def slices_IndexFunc_api_Pred_api_Pred_r6 : List VOp :=
  [(oo 18 (.bin .add (.tmp 8) (.const (ki 1)))),
   (oo 8 (.mov (.tmp 18)))]
def slices_IndexFunc_api_Pred_api_Pred_l7 : VCode :=
  (.seq (.reg slices_IndexFunc_api_Pred_api_Pred_r2) (.seq (.cond (.tmp 9) .skip (.exit 0)) (.seq (.block 1 (.seq (.reg slices_IndexFunc_api_Pred_api_Pred_r3) (.seq (.reg slices_IndexFunc_api_Pred_api_Pred_r4) (.cond (.tmp 16) (.seq (.reg slices_IndexFunc_api_Pred_api_Pred_r5) .ret) .skip)))) (.reg slices_IndexFunc_api_Pred_api_Pred_r6))))
@[simp] def slices_IndexFunc_api_Pred_api_Pred_r8 : List VOp :=
  [(oo 4 (.mov (.const (ki (-1)))))]
def slices_IndexFunc_api_Pred_api_Pred : VCode := (.seq (.reg slices_IndexFunc_api_Pred_api_Pred_r0) (.seq (.seq (.reg slices_IndexFunc_api_Pred_api_Pred_r1) (.block 0 (.loop slices_IndexFunc_api_Pred_api_Pred_l7))) (.seq (.reg slices_IndexFunc_api_Pred_api_Pred_r8) .ret)))
theorem slices_IndexFunc_api_Pred_api_Pred_is : fnV prog n_slices_IndexFunc_api_Pred_api_Pred = some (19, slices_IndexFunc_api_Pred_api_Pred, [.tmp 4]) := by kernel_rfl
/- rr03_leaf -/
@[simp] def rr03_leaf_r0 : List VOp :=
  [(oo 2 (.box (.tmp 0))),
   (oo 4 (.mov (.const (kb false))))]
@[simp] def rr03_leaf_r1 : List VOp :=
  [(oo 7 (.fa 1 (.tmp 2))),
   (oo 8 (.ld (.tmp 7) none)),
   (oo 9 (.bin .lss (.tmp 8) (.const (ki 0)))),
   (oo 10 (.mov (.tmp 9))),
   (og 11 10 false (.fa 1 (.tmp 2))),
   (og 12 10 false (.ld (.tmp 11) none)),
   (og 13 10 false (.mov (.tmp 1))),
   (og 14 10 false (.len (.tmp 13))),
   (og 15 10 false (.bin .geq (.tmp 12) (.tmp 14))),
   (oo 16 (.pick (.tmp 10) (.const (kb true)) (.tmp 15)))]
@[simp] def rr03_leaf_r2 : List VOp :=
  [(oo 4 (.mov (.const (kb false))))]
@[simp] def rr03_leaf_r3 : List VOp :=
  [(oo 17 (.mov (.tmp 1))),
   (oo 18 (.fa 1 (.tmp 2))),
   (oo 19 (.ld (.tmp 18) none)),
   (oo 20 (.ia 3 (.tmp 17) (.tmp 19))),
   (oo 21 (.ld (.tmp 20) (some 3))),
   (oo 5 (.alloc [zb, zi, zs])),
   (on (.st (.tmp 5) (.tmp 21) 3))]
@[simp] def rr03_leaf_r4 : List VOp :=
  [(oo 22 (.ld (.tmp 5) (some 3))),
   (oo 23 (.fa 2 (.tmp 2))),
   (oo 24 (.ld (.tmp 23) (some 3))),
   (oo 25 (.call n_rr01_Compare [(.tmp 22), (.tmp 24)])),
   (oo 6 (.mov (.tmp 25)))]
@[simp] def rr03_leaf_r5 : List VOp :=
  [(oo 26 (.fa 0 (.tmp 2))),
   (oo 27 (.ld (.tmp 26) none))]
@[simp] def rr03_leaf_r6 : List VOp :=
  [(oo 29 (.bin .eql (.tmp 27) (.const (ki 3)))),
   (oo 28 (.mov (.tmp 29)))]
@[simp] def rr03_leaf_r7 : List VOp :=
  [(oo 30 (.mov (.tmp 6))),
   (oo 31 (.bin .eql (.tmp 30) (.const (ki 0)))),
   (oo 4 (.mov (.tmp 31)))]
@[simp] def rr03_leaf_r8 : List VOp :=
  [(oo 33 (.bin .eql (.tmp 27) (.const (ki 4)))),
   (oo 32 (.mov (.tmp 33)))]
@[simp] def rr03_leaf_r9 : List VOp :=
  [(oo 34 (.mov (.tmp 6))),
   (oo 35 (.bin .neq (.tmp 34) (.const (ki 0)))),
   (oo 4 (.mov (.tmp 35)))]
@[simp] def rr03_leaf_r10 : List VOp :=
  [(oo 37 (.bin .eql (.tmp 27) (.const (ki 5)))),
   (oo 36 (.mov (.tmp 37)))]
@[simp] def rr03_leaf_r11 : List VOp :=
  [(oo 38 (.mov (.tmp 6))),
   (oo 39 (.bin .lss (.tmp 38) (.const (ki 0)))),
   (oo 4 (.mov (.tmp 39)))]
@[simp] def rr03_leaf_r12 : List VOp :=
  [(oo 41 (.bin .eql (.tmp 27) (.const (ki 6)))),
   (oo 40 (.mov (.tmp 41)))]
@[simp] def rr03_leaf_r13 : List VOp :=
  [(oo 42 (.mov (.tmp 6))),
   (oo 43 (.bin .leq (.tmp 42) (.const (ki 0)))),
   (oo 4 (.mov (.tmp 43)))]
@[simp] def rr03_leaf_r14 : List VOp :=
  [(oo 45 (.bin .eql (.tmp 27) (.const (ki 7)))),
   (oo 44 (.mov (.tmp 45)))]
@[simp] def rr03_leaf_r15 : List VOp :=
  [(oo 46 (.mov (.tmp 6))),
   (oo 47 (.bin .gtr (.tmp 46) (.const (ki 0)))),
   (oo 4 (.mov (.tmp 47)))]
@[simp] def rr03_leaf_r16 : List VOp :=
  [(oo 49 (.bin .eql (.tmp 27) (.const (ki 8)))),
   (oo 48 (.mov (.tmp 49)))]
@[simp] def rr03_leaf_r17 : List VOp :=
  [(oo 50 (.mov (.tmp 6))),
   (oo 51 (.bin .geq (.tmp 50) (.const (ki 0)))),
   (oo 4 (.mov (.tmp 51)))]
@[simp] def rr03_leaf_r18 : List VOp :=
  [(oo 52 (.mov (.tmp 6))),
   (oo 53 (.bin .geq (.tmp 52) (.const (ki 0)))),
   (oo 54 (.mov (.tmp 53))),
   (og 55 54 true (.ld (.tmp 5) (some 3))),
   (og 56 54 true (.fa 5 (.tmp 2))),
   (og 57 54 true (.ld (.tmp 56) (some 3))),
   (og 58 54 true (.call n_rr01_Compare [(.tmp 55), (.tmp 57)])),
   (og 59 54 true (.bin .leq (.tmp 58) (.const (ki 0)))),
   (oo 60 (.pick (.tmp 54) (.tmp 59) (.const (kb false)))),
   (oo 4 (.mov (.tmp 60)))]
def rr03_leaf : VCode := (.seq (.reg rr03_leaf_r0) (.seq (.seq (.reg rr03_leaf_r1) (.cond (.tmp 16) (.seq (.reg rr03_leaf_r2) .ret) .skip)) (.seq (.reg rr03_leaf_r3) (.seq (.reg rr03_leaf_r4) (.seq (.seq (.reg rr03_leaf_r5) (.block 0 (.seq (.reg rr03_leaf_r6) (.cond (.tmp 28) (.seq (.reg rr03_leaf_r7) .ret) (.seq (.reg rr03_leaf_r8) (.cond (.tmp 32) (.seq (.reg rr03_leaf_r9) .ret) (.seq (.reg rr03_leaf_r10) (.cond (.tmp 36) (.seq (.reg rr03_leaf_r11) .ret) (.seq (.reg rr03_leaf_r12) (.cond (.tmp 40) (.seq (.reg rr03_leaf_r13) .ret) (.seq (.reg rr03_leaf_r14) (.cond (.tmp 44) (.seq (.reg rr03_leaf_r15) .ret) (.seq (.reg rr03_leaf_r16) (.cond (.tmp 48) (.seq (.reg rr03_leaf_r17) .ret) .skip)))))))))))))) (.seq (.reg rr03_leaf_r18) .ret))))))
theorem rr03_leaf_is : fnV prog n_rr03_leaf = some (61, rr03_leaf, [.tmp 4]) := by kernel_rfl
/- cmp_Compare_string -/
@[simp] def cmp_Compare_string_r0 : List VOp :=
  [(oo 4 (.mov (.const (ki 0))))]
@[simp] def cmp_Compare_string_r1 : List VOp :=
  [(oo 7 (.mov (.tmp 0))),
   (oo 8 (.call n_cmp_isNaN_string [(.tmp 7)])),
   (oo 5 (.mov (.tmp 8)))]
@[simp] def cmp_Compare_string_r2 : List VOp :=
  [(oo 9 (.mov (.tmp 1))),
   (oo 10 (.call n_cmp_isNaN_string [(.tmp 9)])),
   (oo 6 (.mov (.tmp 10)))]
@[simp] def cmp_Compare_string_r3 : List VOp :=
  [(oo 11 (.mov (.tmp 5)))]
@[simp] def cmp_Compare_string_r4 : List VOp :=
  [(oo 12 (.mov (.tmp 6)))]
@[simp] def cmp_Compare_string_r5 : List VOp :=
  [(oo 4 (.mov (.const (ki 0))))]
@[simp] def cmp_Compare_string_r6 : List VOp :=
  [(oo 4 (.mov (.const (ki (-1)))))]
@[simp] def cmp_Compare_string_r7 : List VOp :=
  [(oo 13 (.mov (.tmp 6)))]
@[simp] def cmp_Compare_string_r8 : List VOp :=
  [(oo 4 (.mov (.const (ki 1))))]
@[simp] def cmp_Compare_string_r9 : List VOp :=
  [(oo 14 (.mov (.tmp 0))),
   (oo 15 (.mov (.tmp 1))),
   (oo 16 (.bin .lss (.tmp 14) (.tmp 15)))]
@[simp] def cmp_Compare_string_r10 : List VOp :=
  [(oo 4 (.mov (.const (ki (-1)))))]
@[simp] def cmp_Compare_string_r11 : List VOp :=
  [(oo 17 (.mov (.tmp 0))),
   (oo 18 (.mov (.tmp 1))),
   (oo 19 (.bin .gtr (.tmp 17) (.tmp 18)))]
@[simp] def cmp_Compare_string_r12 : List VOp :=
  [(oo 4 (.mov (.const (ki 1))))]
@[simp] def cmp_Compare_string_r13 : List VOp :=
  [(oo 4 (.mov (.const (ki 0))))]
def cmp_Compare_string : VCode := (.seq (.reg cmp_Compare_string_r0) (.seq (.reg cmp_Compare_string_r1) (.seq (.reg cmp_Compare_string_r2) (.seq (.seq (.reg cmp_Compare_string_r3) (.cond (.tmp 11) (.seq (.seq (.reg cmp_Compare_string_r4) (.cond (.tmp 12) (.seq (.reg cmp_Compare_string_r5) .ret) .skip)) (.seq (.reg cmp_Compare_string_r6) .ret)) .skip)) (.seq (.seq (.reg cmp_Compare_string_r7) (.cond (.tmp 13) (.seq (.reg cmp_Compare_string_r8) .ret) .skip)) (.seq (.seq (.reg cmp_Compare_string_r9) (.cond (.tmp 16) (.seq (.reg cmp_Compare_string_r10) .ret) .skip)) (.seq (.seq (.reg cmp_Compare_string_r11) (.cond (.tmp 19) (.seq (.reg cmp_Compare_string_r12) .ret) .skip)) (.seq (.reg cmp_Compare_string_r13) .ret))))))))
theorem cmp_Compare_string_is : fnV prog n_cmp_Compare_string = some (20, cmp_Compare_string, [.tmp 4]) := by kernel_rfl
/- cmp_Compare_int64 -/
@[simp] def cmp_Compare_int64_r0 : List VOp :=
  [(oo 4 (.mov (.const (ki 0))))]
@[simp] def cmp_Compare_int64_r1 : List VOp :=
  [(oo 7 (.mov (.tmp 0))),
   (oo 8 (.call n_cmp_isNaN_int64 [(.tmp 7)])),
   (oo 5 (.mov (.tmp 8)))]
@[simp] def cmp_Compare_int64_r2 : List VOp :=
  [(oo 9 (.mov (.tmp 1))),
   (oo 10 (.call n_cmp_isNaN_int64 [(.tmp 9)])),
   (oo 6 (.mov (.tmp 10)))]
@[simp] def cmp_Compare_int64_r3 : List VOp :=
  [(oo 11 (.mov (.tmp 5)))]
@[simp] def cmp_Compare_int64_r4 : List VOp :=
  [(oo 12 (.mov (.tmp 6)))]
@[simp] def cmp_Compare_int64_r5 : List VOp :=
  [(oo 4 (.mov (.const (ki 0))))]
@[simp] def cmp_Compare_int64_r6 : List VOp :=
  [(oo 4 (.mov (.const (ki (-1)))))]
@[simp] def cmp_Compare_int64_r7 : List VOp :=
  [(oo 13 (.mov (.tmp 6)))]
@[simp] def cmp_Compare_int64_r8 : List VOp :=
  [(oo 4 (.mov (.const (ki 1))))]
@[simp] def cmp_Compare_int64_r9 : List VOp :=
  [(oo 14 (.mov (.tmp 0))),
   (oo 15 (.mov (.tmp 1))),
   (oo 16 (.bin .lss (.tmp 14) (.tmp 15)))]
@[simp] def cmp_Compare_int64_r10 : List VOp :=
  [(oo 4 (.mov (.const (ki (-1)))))]
@[simp] def cmp_Compare_int64_r11 : List VOp :=
  [(oo 17 (.mov (.tmp 0))),
   (oo 18 (.mov (.tmp 1))),
   (oo 19 (.bin .gtr (.tmp 17) (.tmp 18)))]
@[simp] def cmp_Compare_int64_r12 : List VOp :=
  [(oo 4 (.mov (.const (ki 1))))]
@[simp] def cmp_Compare_int64_r13 : List VOp :=
  [(oo 4 (.mov (.const (ki 0))))]
def cmp_Compare_int64 : VCode := (.seq (.reg cmp_Compare_int64_r0) (.seq (.reg cmp_Compare_int64_r1) (.seq (.reg cmp_Compare_int64_r2) (.seq (.seq (.reg cmp_Compare_int64_r3) (.cond (.tmp 11) (.seq (.seq (.reg cmp_Compare_int64_r4) (.cond (.tmp 12) (.seq (.reg cmp_Compare_int64_r5) .ret) .skip)) (.seq (.reg cmp_Compare_int64_r6) .ret)) .skip)) (.seq (.seq (.reg cmp_Compare_int64_r7) (.cond (.tmp 13) (.seq (.reg cmp_Compare_int64_r8) .ret) .skip)) (.seq (.seq (.reg cmp_Compare_int64_r9) (.cond (.tmp 16) (.seq (.reg cmp_Compare_int64_r10) .ret) .skip)) (.seq (.seq (.reg cmp_Compare_int64_r11) (.cond (.tmp 19) (.seq (.reg cmp_Compare_int64_r12) .ret) .skip)) (.seq (.reg cmp_Compare_int64_r13) .ret))))))))
theorem cmp_Compare_int64_is : fnV prog n_cmp_Compare_int64 = some (20, cmp_Compare_int64, [.tmp 4]) := by kernel_rfl
/- value_Right -/
@[simp] def value_Right_r0 : List VOp :=
  [(oo 1 (.box (.tmp 0))),
   (oo 2 (.mov (.const (kb false))))]
@[simp] def value_Right_r1 : List VOp :=
  [(oo 3 (.fa 0 (.tmp 1))),
   (oo 4 (.ld (.tmp 3) none))]
@[simp] def value_Right_r2 : List VOp :=
  [(oo 5 (.ld (.tmp 1) (some 3))),
   (oo 6 (.fa 2 (.tmp 1))),
   (oo 7 (.ld (.tmp 6) none)),
   (oo 8 (.build [zb, zi, zs] [(0, 1, (.const (kb true))), (2, 1, (.tmp 7))])),
   (oo 9 (.eqs false [.b, .i .i64, .s] (.tmp 5) (.tmp 8))),
   (oo 10 (.mov (.tmp 9))),
   (og 11 10 true (.fa 2 (.tmp 1))),
   (og 12 10 true (.ld (.tmp 11) none)),
   (og 13 10 true (.lens (.tmp 12))),
   (og 14 10 true (.bin .leq (.tmp 13) (.const (ki 12)))),
   (oo 15 (.pick (.tmp 10) (.tmp 14) (.const (kb false)))),
   (oo 2 (.mov (.tmp 15)))]
@[simp] def value_Right_r3 : List VOp :=
  [(oo 16 (.ld (.tmp 1) (some 3))),
   (oo 17 (.fa 1 (.tmp 1))),
   (oo 18 (.ld (.tmp 17) none)),
   (oo 19 (.build [zb, zi, zs] [(1, 1, (.tmp 18))])),
   (oo 20 (.eqs false [.b, .i .i64, .s] (.tmp 16) (.tmp 19))),
   (oo 2 (.mov (.tmp 20)))]
def value_Right : VCode := (.seq (.reg value_Right_r0) (.seq (.seq (.reg value_Right_r1) (.cond (.tmp 4) (.seq (.reg value_Right_r2) .ret) .skip)) (.seq (.reg value_Right_r3) .ret)))
theorem value_Right_is : fnV prog n_value_Right = some (21, value_Right, [.tmp 2]) := by kernel_rfl
/- pred_checker_part -/
@[simp] def pred_checker_part_r0 : List VOp :=
  [(oo 3 (.box (.tmp 1)))]
@[simp] def pred_checker_part_r1 : List VOp :=
  [(oo 4 (.mov (.const (kb false))))]
@[simp] def pred_checker_part_r2 : List VOp :=
  [(oo 5 (.fa 0 (.tmp 3))),
   (oo 6 (.ld (.tmp 5) none))]
@[simp] def pred_checker_part_r3 : List VOp :=
  [(oo 8 (.bin .eql (.tmp 6) (.const (ki 1)))),
   (oo 7 (.mov (.tmp 8)))]
@[simp] def pred_checker_part_r4 : List VOp :=
  [(oo 9 (.bin .eql (.tmp 6) (.const (ki 2)))),
   (oo 7 (.mov (.tmp 9)))]
@[simp] def pred_checker_part_r5 : List VOp :=
  [(oo 10 (.fa 8 (.tmp 3))),
   (oo 11 (.ld (.tmp 10) none)),
   (oo 12 (.len (.tmp 11))),
   (oo 13 (.bin .eql (.tmp 12) (.const (ki 0)))),
   (oo 4 (.mov (.tmp 13)))]
@[simp] def pred_checker_part_r6 : List VOp :=
  [(oo 15 (.bin .eql (.tmp 6) (.const (ki 3)))),
   (oo 14 (.mov (.tmp 15)))]
@[simp] def pred_checker_part_r7 : List VOp :=
  [(oo 16 (.bin .eql (.tmp 6) (.const (ki 4)))),
   (oo 14 (.mov (.tmp 16)))]
@[simp] def pred_checker_part_r8 : List VOp :=
  [(oo 17 (.bin .eql (.tmp 6) (.const (ki 5)))),
   (oo 14 (.mov (.tmp 17)))]
@[simp] def pred_checker_part_r9 : List VOp :=
  [(oo 18 (.bin .eql (.tmp 6) (.const (ki 6)))),
   (oo 14 (.mov (.tmp 18)))]
@[simp] def pred_checker_part_r10 : List VOp :=
  [(oo 19 (.bin .eql (.tmp 6) (.const (ki 7)))),
   (oo 14 (.mov (.tmp 19)))]
@[simp] def pred_checker_part_r11 : List VOp :=
  [(oo 20 (.bin .eql (.tmp 6) (.const (ki 8)))),
   (oo 14 (.mov (.tmp 20)))]
@[simp] def pred_checker_part_r12 : List VOp :=
  [(oo 21 (.fa 8 (.tmp 3))),
   (oo 22 (.ld (.tmp 21) none)),
   (oo 23 (.len (.tmp 22))),
   (oo 24 (.bin .eql (.tmp 23) (.const (ki 0)))),
   (oo 25 (.mov (.tmp 24))),
   (og 26 25 true (.mov (.tmp 0))),
   (og 27 25 true (.fa 1 (.tmp 3))),
   (og 28 25 true (.ld (.tmp 27) none)),
   (og 29 25 true (.fa 2 (.tmp 3))),
   (og 30 25 true (.ld (.tmp 29) (some 3))),
   (og 31 25 true (.call n_pred_checker_of [(.tmp 26), (.tmp 28), (.tmp 30)])),
   (oo 32 (.pick (.tmp 25) (.tmp 31) (.const (kb false)))),
   (oo 4 (.mov (.tmp 32)))]
@[simp] def pred_checker_part_r13 : List VOp :=
  [(oo 34 (.bin .eql (.tmp 6) (.const (ki 9)))),
   (oo 33 (.mov (.tmp 34)))]
@[simp] def pred_checker_part_r14 : List VOp :=
  [(oo 35 (.fa 8 (.tmp 3))),
   (oo 36 (.ld (.tmp 35) none)),
   (oo 37 (.len (.tmp 36))),
   (oo 38 (.bin .eql (.tmp 37) (.const (ki 0)))),
   (oo 39 (.mov (.tmp 38))),
   (og 40 39 true (.mov (.tmp 0))),
   (og 41 39 true (.fa 1 (.tmp 3))),
   (og 42 39 true (.ld (.tmp 41) none)),
   (og 43 39 true (.fa 2 (.tmp 3))),
   (og 44 39 true (.ld (.tmp 43) (some 3))),
   (og 45 39 true (.call n_pred_checker_of [(.tmp 40), (.tmp 42), (.tmp 44)])),
   (oo 46 (.pick (.tmp 39) (.tmp 45) (.const (kb false)))),
   (oo 47 (.mov (.tmp 46))),
   (og 48 47 true (.mov (.tmp 0))),
   (og 49 47 true (.fa 1 (.tmp 3))),
   (og 50 47 true (.ld (.tmp 49) none)),
   (og 51 47 true (.fa 5 (.tmp 3))),
   (og 52 47 true (.ld (.tmp 51) (some 3))),
   (og 53 47 true (.call n_pred_checker_of [(.tmp 48), (.tmp 50), (.tmp 52)])),
   (oo 54 (.pick (.tmp 47) (.tmp 53) (.const (kb false)))),
   (oo 4 (.mov (.tmp 54)))]
@[simp] def pred_checker_part_r15 : List VOp :=
  [(oo 56 (.bin .eql (.tmp 6) (.const (ki 10)))),
   (oo 55 (.mov (.tmp 56)))]
@[simp] def pred_checker_part_r16 : List VOp :=
  [(oo 57 (.fa 8 (.tmp 3))),
   (oo 58 (.ld (.tmp 57) none)),
   (oo 59 (.len (.tmp 58))),
   (oo 60 (.bin .eql (.tmp 59) (.const (ki 1)))),
   (oo 4 (.mov (.tmp 60)))]
@[simp] def pred_checker_part_r17 : List VOp :=
  [(oo 62 (.bin .eql (.tmp 6) (.const (ki 11)))),
   (oo 61 (.mov (.tmp 62)))]
@[simp] def pred_checker_part_r18 : List VOp :=
  [(oo 63 (.bin .eql (.tmp 6) (.const (ki 12)))),
   (oo 61 (.mov (.tmp 63)))]
@[simp] def pred_checker_part_r19 : List VOp :=
  [(oo 64 (.fa 8 (.tmp 3))),
   (oo 65 (.ld (.tmp 64) none)),
   (oo 66 (.len (.tmp 65))),
   (oo 67 (.bin .gtr (.tmp 66) (.const (ki 0)))),
   (oo 4 (.mov (.tmp 67)))]
@[simp] def pred_checker_part_r20 : List VOp :=
  [(oo 68 (.mov (.tmp 0))),
   (oo 69 (.mov (.tmp 0))),
   (oo 70 (.chk (.tmp 69))),
   (oo 71 (.fa 1 (.tmp 70))),
   (oo 72 (.ld (.tmp 71) none)),
   (oo 73 (.mov (.tmp 72))),
   (og 74 73 false (.mov (.tmp 4))),
   (og 75 73 false (.un .not (.tmp 74))),
   (oo 76 (.pick (.tmp 73) (.const (kb true)) (.tmp 75))),
   (oo 77 (.chk (.tmp 68))),
   (oo 78 (.fa 1 (.tmp 77))),
   (on (.st (.tmp 78) (.tmp 76) 1))]
def pred_checker_part : VCode := (.seq (.reg pred_checker_part_r0) (.seq (.reg pred_checker_part_r1) (.seq (.seq (.reg pred_checker_part_r2) (.block 0 (.seq (.seq (.reg pred_checker_part_r3) (.cond (.tmp 7) .skip (.reg pred_checker_part_r4))) (.cond (.tmp 7) (.reg pred_checker_part_r5) (.seq (.seq (.reg pred_checker_part_r6) (.cond (.tmp 14) .skip (.seq (.reg pred_checker_part_r7) (.cond (.tmp 14) .skip (.seq (.reg pred_checker_part_r8) (.cond (.tmp 14) .skip (.seq (.reg pred_checker_part_r9) (.cond (.tmp 14) .skip (.seq (.reg pred_checker_part_r10) (.cond (.tmp 14) .skip (.reg pred_checker_part_r11))))))))))) (.cond (.tmp 14) (.reg pred_checker_part_r12) (.seq (.reg pred_checker_part_r13) (.cond (.tmp 33) (.reg pred_checker_part_r14) (.seq (.reg pred_checker_part_r15) (.cond (.tmp 55) (.reg pred_checker_part_r16) (.seq (.seq (.reg pred_checker_part_r17) (.cond (.tmp 61) .skip (.reg pred_checker_part_r18))) (.cond (.tmp 61) (.reg pred_checker_part_r19) .skip)))))))))))) (.reg pred_checker_part_r20))))
theorem pred_checker_part_is : fnV prog n_pred_checker_part = some (79, pred_checker_part, []) := by kernel_rfl
/- pred_each -/
@[simp] def pred_each_r0 : List VOp :=
  [(oo 2 (.box (.tmp 0)))]
@[simp] def pred_each_r1 : List VOp :=
  [(oo 6 (.mov (.tmp 1))),
   (oo 7 (.ld (.tmp 2) (some 9))),
   (oo 8 (.callv (.tmp 6) [(.tmp 7)]))]
@[simp] def pred_each_r2 : List VOp :=
  [(oo 9 (.fa 8 (.tmp 2))),
   (oo 10 (.ld (.tmp 9) none)),
   (oo 11 (.len (.tmp 10))),
   (oo 12 (.mov (.const (ki 0))))]
@[simp] def pred_each_r3 : List VOp :=
  [(oo 13 (.bin .lss (.tmp 12) (.tmp 11)))]
@[simp] def pred_each_r4 : List VOp :=
  [(oo 14 (.ia 9 (.tmp 10) (.tmp 12))),
   (oo 15 (.ld (.tmp 14) (some 9))),
   (oo 5 (.alloc [zi, zi, zb, zi, zs, zb, zi, zs, .nil 9])),
   (on (.st (.tmp 5) (.tmp 15) 9))]
@[simp] def pred_each_r5 : List VOp :=
  [(oo 16 (.ld (.tmp 5) (some 9))),
   (oo 17 (.mov (.tmp 1))),
   (oo 18 (.call n_pred_each [(.tmp 16), (.tmp 17)]))]
@[simp] def pred_each_r6 : List VOp :=
  [(oo 19 (.bin .add (.tmp 12) (.const (ki 1)))),
   (oo 12 (.mov (.tmp 19)))]
def pred_each_l7 : VCode :=
  (.seq (.reg pred_each_r3) (.seq (.cond (.tmp 13) .skip (.exit 0)) (.seq (.block 1 (.seq (.reg pred_each_r4) (.reg pred_each_r5))) (.reg pred_each_r6))))
def pred_each : VCode := (.seq (.reg pred_each_r0) (.seq (.reg pred_each_r1) (.seq (.reg pred_each_r2) (.block 0 (.loop pred_each_l7)))))
theorem pred_each_is : fnV prog n_pred_each = some (20, pred_each, []) := by kernel_rfl
/- pred_Size -/
@[simp] def pred_Size_r0 : List VOp :=
  [(oo 1 (.box (.tmp 0))),
   (oo 2 (.mov (.const (ki 0))))]
@[simp] def pred_Size_r1 : List VOp :=
  [(oo 3 (.alloc [zi])),
   (on (.st (.tmp 3) (.const (ki 0)) 1))]
@[simp] def pred_Size_r2 : List VOp :=
  [(oo 4 (.ld (.tmp 1) (some 9))),
   (oo 5 (.mkfn n_pred_Size_1 [] [(.tmp 3)])),
   (oo 6 (.call n_pred_each [(.tmp 4), (.tmp 5)]))]
@[simp] def pred_Size_r3 : List VOp :=
  [(oo 7 (.ld (.tmp 3) none)),
   (oo 2 (.mov (.tmp 7)))]
def pred_Size : VCode := (.seq (.reg pred_Size_r0) (.seq (.reg pred_Size_r1) (.seq (.reg pred_Size_r2) (.seq (.reg pred_Size_r3) .ret))))
theorem pred_Size_is : fnV prog n_pred_Size = some (8, pred_Size, [.tmp 2]) := by kernel_rfl
/- rr01_Right -/
@[simp] def rr01_Right_r0 : List VOp :=
  [(oo 1 (.box (.tmp 0))),
   (oo 2 (.mov (.const (kb false))))]
@[simp] def rr01_Right_r1 : List VOp :=
  [(oo 3 (.fa 0 (.tmp 1))),
   (oo 4 (.ld (.tmp 3) none))]
@[simp] def rr01_Right_r2 : List VOp :=
  [(oo 5 (.fa 1 (.tmp 1))),
   (oo 6 (.ld (.tmp 5) none)),
   (oo 7 (.bin .eql (.tmp 6) (.const (ki 0)))),
   (oo 8 (.mov (.tmp 7))),
   (og 9 8 true (.fa 2 (.tmp 1))),
   (og 10 8 true (.ld (.tmp 9) none)),
   (og 11 8 true (.lens (.tmp 10))),
   (og 12 8 true (.bin .leq (.tmp 11) (.const (ki 12)))),
   (oo 13 (.pick (.tmp 8) (.tmp 12) (.const (kb false)))),
   (oo 2 (.mov (.tmp 13)))]
@[simp] def rr01_Right_r3 : List VOp :=
  [(oo 14 (.fa 2 (.tmp 1))),
   (oo 15 (.ld (.tmp 14) none)),
   (oo 16 (.bin .eql (.tmp 15) (.const (.string ⟨#[]⟩)))),
   (oo 2 (.mov (.tmp 16)))]
def rr01_Right : VCode := (.seq (.reg rr01_Right_r0) (.seq (.seq (.reg rr01_Right_r1) (.cond (.tmp 4) (.seq (.reg rr01_Right_r2) .ret) .skip)) (.seq (.reg rr01_Right_r3) .ret)))
theorem rr01_Right_is : fnV prog n_rr01_Right = some (17, rr01_Right, [.tmp 2]) := by kernel_rfl
/- rr03_part -/
@[simp] def rr03_part_r0 : List VOp :=
  [(oo 2 (.box (.tmp 0))),
   (oo 3 (.box (.tmp 1))),
   (oo 4 (.mov (.const (kb false))))]
@[simp] def rr03_part_r1 : List VOp :=
  [(oo 5 (.mov (.const (ki 0))))]
@[simp] def rr03_part_r2 : List VOp :=
  [(oo 7 (.mov (.tmp 5))),
   (oo 8 (.fa 8 (.tmp 3))),
   (oo 9 (.ld (.tmp 8) none)),
   (oo 10 (.len (.tmp 9))),
   (oo 11 (.bin .lss (.tmp 7) (.tmp 10)))]
@[simp] def rr03_part_t3 : VT :=
  .op (oo 14 (.ld (.tmp 2) (some 1))) <|
  .op (oo 15 (.fa 8 (.tmp 3))) <|
  .op (oo 16 (.ld (.tmp 15) none)) <|
  .op (oo 17 (.mov (.tmp 5))) <|
  .op (oo 18 (.ia 9 (.tmp 16) (.tmp 17))) <|
  .op (oo 19 (.ld (.tmp 18) (some 9))) <|
  .op (oo 20 (.call n_rr03_part [(.tmp 14), (.tmp 19)])) <|
  .op (oo 6 (.mov (.tmp 20))) <|
  .done
@[simp] def rr03_part_r4 : List VOp :=
  [(oo 21 (.mov (.tmp 6))),
   (oo 22 (.un .not (.tmp 21)))]
@[simp] def rr03_part_r5 : List VOp :=
  [(oo 4 (.mov (.const (kb false))))]
@[simp] def rr03_part_r6 : List VOp :=
  [(oo 12 (.mov (.tmp 5))),
   (oo 13 (.bin .add (.tmp 12) (.const (ki 1)))),
   (oo 5 (.mov (.tmp 13)))]
def rr03_part_l7 : VCode :=
  (.seq (.seq (.reg rr03_part_r2) (.cond (.tmp 11) .skip (.exit 0))) (.seq (.block 1 (.seq (.any rr03_part_t3) (.seq (.reg rr03_part_r4) (.cond (.tmp 22) (.seq (.reg rr03_part_r5) .ret) .skip)))) (.reg rr03_part_r6)))
@[simp] def rr03_part_r8 : List VOp :=
  [(oo 23 (.fa 0 (.tmp 3))),
   (oo 24 (.ld (.tmp 23) none))]
@[simp] def rr03_part_r9 : List VOp :=
  [(oo 26 (.bin .eql (.tmp 24) (.const (ki 1)))),
   (oo 25 (.mov (.tmp 26)))]
@[simp] def rr03_part_r10 : List VOp :=
  [(oo 27 (.bin .eql (.tmp 24) (.const (ki 2)))),
   (oo 25 (.mov (.tmp 27)))]
@[simp] def rr03_part_r11 : List VOp :=
  [(oo 28 (.fa 8 (.tmp 3))),
   (oo 29 (.ld (.tmp 28) none)),
   (oo 30 (.len (.tmp 29))),
   (oo 31 (.bin .eql (.tmp 30) (.const (ki 0)))),
   (oo 4 (.mov (.tmp 31)))]
@[simp] def rr03_part_r12 : List VOp :=
  [(oo 33 (.bin .eql (.tmp 24) (.const (ki 3)))),
   (oo 32 (.mov (.tmp 33)))]
@[simp] def rr03_part_r13 : List VOp :=
  [(oo 34 (.bin .eql (.tmp 24) (.const (ki 4)))),
   (oo 32 (.mov (.tmp 34)))]
@[simp] def rr03_part_r14 : List VOp :=
  [(oo 35 (.bin .eql (.tmp 24) (.const (ki 5)))),
   (oo 32 (.mov (.tmp 35)))]
@[simp] def rr03_part_r15 : List VOp :=
  [(oo 36 (.bin .eql (.tmp 24) (.const (ki 6)))),
   (oo 32 (.mov (.tmp 36)))]
@[simp] def rr03_part_r16 : List VOp :=
  [(oo 37 (.bin .eql (.tmp 24) (.const (ki 7)))),
   (oo 32 (.mov (.tmp 37)))]
@[simp] def rr03_part_r17 : List VOp :=
  [(oo 38 (.bin .eql (.tmp 24) (.const (ki 8)))),
   (oo 32 (.mov (.tmp 38)))]
@[simp] def rr03_part_r18 : List VOp :=
  [(oo 39 (.fa 8 (.tmp 3))),
   (oo 40 (.ld (.tmp 39) none)),
   (oo 41 (.len (.tmp 40))),
   (oo 42 (.bin .eql (.tmp 41) (.const (ki 0)))),
   (oo 43 (.mov (.tmp 42))),
   (og 44 43 true (.ld (.tmp 2) (some 1))),
   (og 45 43 true (.fa 1 (.tmp 3))),
   (og 46 43 true (.ld (.tmp 45) none)),
   (og 47 43 true (.fa 2 (.tmp 3))),
   (og 48 43 true (.ld (.tmp 47) (some 3))),
   (og 49 43 true (.call n_rr03_col [(.tmp 44), (.tmp 46), (.tmp 48)])),
   (oo 50 (.pick (.tmp 43) (.tmp 49) (.const (kb false)))),
   (oo 4 (.mov (.tmp 50)))]
@[simp] def rr03_part_r19 : List VOp :=
  [(oo 52 (.bin .eql (.tmp 24) (.const (ki 9)))),
   (oo 51 (.mov (.tmp 52)))]
@[simp] def rr03_part_r20 : List VOp :=
  [(oo 53 (.fa 8 (.tmp 3))),
   (oo 54 (.ld (.tmp 53) none)),
   (oo 55 (.len (.tmp 54))),
   (oo 56 (.bin .eql (.tmp 55) (.const (ki 0)))),
   (oo 57 (.mov (.tmp 56))),
   (og 58 57 true (.ld (.tmp 2) (some 1))),
   (og 59 57 true (.fa 1 (.tmp 3))),
   (og 60 57 true (.ld (.tmp 59) none)),
   (og 61 57 true (.fa 2 (.tmp 3))),
   (og 62 57 true (.ld (.tmp 61) (some 3))),
   (og 63 57 true (.call n_rr03_col [(.tmp 58), (.tmp 60), (.tmp 62)])),
   (oo 64 (.pick (.tmp 57) (.tmp 63) (.const (kb false)))),
   (oo 65 (.mov (.tmp 64))),
   (og 66 65 true (.ld (.tmp 2) (some 1))),
   (og 67 65 true (.fa 1 (.tmp 3))),
   (og 68 65 true (.ld (.tmp 67) none)),
   (og 69 65 true (.fa 5 (.tmp 3))),
   (og 70 65 true (.ld (.tmp 69) (some 3))),
   (og 71 65 true (.call n_rr03_col [(.tmp 66), (.tmp 68), (.tmp 70)])),
   (oo 72 (.pick (.tmp 65) (.tmp 71) (.const (kb false)))),
   (oo 4 (.mov (.tmp 72)))]
@[simp] def rr03_part_r21 : List VOp :=
  [(oo 74 (.bin .eql (.tmp 24) (.const (ki 10)))),
   (oo 73 (.mov (.tmp 74)))]
@[simp] def rr03_part_r22 : List VOp :=
  [(oo 75 (.fa 8 (.tmp 3))),
   (oo 76 (.ld (.tmp 75) none)),
   (oo 77 (.len (.tmp 76))),
   (oo 78 (.bin .eql (.tmp 77) (.const (ki 1)))),
   (oo 4 (.mov (.tmp 78)))]
@[simp] def rr03_part_r23 : List VOp :=
  [(oo 80 (.bin .eql (.tmp 24) (.const (ki 11)))),
   (oo 79 (.mov (.tmp 80)))]
@[simp] def rr03_part_r24 : List VOp :=
  [(oo 81 (.bin .eql (.tmp 24) (.const (ki 12)))),
   (oo 79 (.mov (.tmp 81)))]
@[simp] def rr03_part_r25 : List VOp :=
  [(oo 82 (.fa 8 (.tmp 3))),
   (oo 83 (.ld (.tmp 82) none)),
   (oo 84 (.len (.tmp 83))),
   (oo 85 (.bin .gtr (.tmp 84) (.const (ki 0)))),
   (oo 4 (.mov (.tmp 85)))]
@[simp] def rr03_part_r26 : List VOp :=
  [(oo 4 (.mov (.const (kb false))))]
def rr03_part : VCode := (.seq (.reg rr03_part_r0) (.seq (.seq (.reg rr03_part_r1) (.block 0 (.loop rr03_part_l7))) (.seq (.seq (.reg rr03_part_r8) (.block 2 (.seq (.seq (.reg rr03_part_r9) (.cond (.tmp 25) .skip (.reg rr03_part_r10))) (.cond (.tmp 25) (.seq (.reg rr03_part_r11) .ret) (.seq (.seq (.reg rr03_part_r12) (.cond (.tmp 32) .skip (.seq (.reg rr03_part_r13) (.cond (.tmp 32) .skip (.seq (.reg rr03_part_r14) (.cond (.tmp 32) .skip (.seq (.reg rr03_part_r15) (.cond (.tmp 32) .skip (.seq (.reg rr03_part_r16) (.cond (.tmp 32) .skip (.reg rr03_part_r17))))))))))) (.cond (.tmp 32) (.seq (.reg rr03_part_r18) .ret) (.seq (.reg rr03_part_r19) (.cond (.tmp 51) (.seq (.reg rr03_part_r20) .ret) (.seq (.reg rr03_part_r21) (.cond (.tmp 73) (.seq (.reg rr03_part_r22) .ret) (.seq (.seq (.reg rr03_part_r23) (.cond (.tmp 79) .skip (.reg rr03_part_r24))) (.cond (.tmp 79) (.seq (.reg rr03_part_r25) .ret) .skip)))))))))))) (.seq (.reg rr03_part_r26) .ret))))
theorem rr03_part_is : fnV prog n_rr03_part = some (86, rr03_part, [.tmp 4]) := by kernel_rfl
/- cmp_isNaN_string -/
@[simp] def cmp_isNaN_string_r0 : List VOp :=
  [(oo 2 (.mov (.const (kb false))))]
@[simp] def cmp_isNaN_string_r1 : List VOp :=
  [(oo 3 (.mov (.tmp 0))),
   (oo 4 (.mov (.tmp 0))),
   (oo 5 (.bin .neq (.tmp 3) (.tmp 4))),
   (oo 2 (.mov (.tmp 5)))]
def cmp_isNaN_string : VCode := (.seq (.reg cmp_isNaN_string_r0) (.seq (.reg cmp_isNaN_string_r1) .ret))
theorem cmp_isNaN_string_is : fnV prog n_cmp_isNaN_string = some (6, cmp_isNaN_string, [.tmp 2]) := by kernel_rfl
/- cmp_isNaN_int64 -/
@[simp] def cmp_isNaN_int64_r0 : List VOp :=
  [(oo 2 (.mov (.const (kb false))))]
@[simp] def cmp_isNaN_int64_r1 : List VOp :=
  [(oo 3 (.mov (.tmp 0))),
   (oo 4 (.mov (.tmp 0))),
   (oo 5 (.bin .neq (.tmp 3) (.tmp 4))),
   (oo 2 (.mov (.tmp 5)))]
def cmp_isNaN_int64 : VCode := (.seq (.reg cmp_isNaN_int64_r0) (.seq (.reg cmp_isNaN_int64_r1) .ret))
theorem cmp_isNaN_int64_is : fnV prog n_cmp_isNaN_int64 = some (6, cmp_isNaN_int64, [.tmp 2]) := by kernel_rfl
/- pred_checker_of -/
@[simp] def pred_checker_of_r0 : List VOp :=
  [(oo 5 (.box (.tmp 2))),
   (oo 6 (.mov (.const (kb false))))]
@[simp] def pred_checker_of_t1 : VT :=
  .op (oo 7 (.mov (.tmp 1))) <|
  .op (oo 8 (.bin .geq (.tmp 7) (.const (ki 0)))) <|
  .op (oo 9 (.mov (.tmp 8))) <|
  .op (og 10 9 true (.mov (.tmp 1))) <|
  .op (og 11 9 true (.mov (.tmp 0))) <|
  .op (og 12 9 true (.chk (.tmp 11))) <|
  .op (og 13 9 true (.fa 0 (.tmp 12))) <|
  .op (og 14 9 true (.fa 0 (.tmp 13))) <|
  .op (og 15 9 true (.ld (.tmp 14) none)) <|
  .op (og 16 9 true (.len (.tmp 15))) <|
  .op (og 17 9 true (.bin .lss (.tmp 10) (.tmp 16))) <|
  .op (oo 18 (.pick (.tmp 9) (.tmp 17) (.const (kb false)))) <|
  .op (oo 19 (.mov (.tmp 18))) <|
  .op (og 20 19 true (.fa 0 (.tmp 5))) <|
  .op (og 21 19 true (.ld (.tmp 20) none)) <|
  .op (og 22 19 true (.mov (.tmp 0))) <|
  .op (og 23 19 true (.chk (.tmp 22))) <|
  .op (og 24 19 true (.fa 0 (.tmp 23))) <|
  .op (og 25 19 true (.fa 0 (.tmp 24))) <|
  .op (og 26 19 true (.ld (.tmp 25) none)) <|
  .op (og 27 19 true (.mov (.tmp 1))) <|
  .op (og 28 19 true (.ia 1 (.tmp 26) (.tmp 27))) <|
  .op (og 29 19 true (.ld (.tmp 28) none)) <|
  .op (og 30 19 true (.beq false (.tmp 21) (.tmp 29))) <|
  .op (oo 31 (.pick (.tmp 19) (.tmp 30) (.const (kb false)))) <|
  .op (oo 32 (.mov (.tmp 31))) <|
  .op (og 33 32 true (.ld (.tmp 5) (some 3))) <|
  .op (og 34 32 true (.call n_value_Right [(.tmp 33)])) <|
  .op (oo 35 (.pick (.tmp 32) (.tmp 34) (.const (kb false)))) <|
  .op (oo 6 (.mov (.tmp 35))) <|
  .done
def pred_checker_of : VCode := (.seq (.reg pred_checker_of_r0) (.seq (.any pred_checker_of_t1) .ret))
theorem pred_checker_of_is : fnV prog n_pred_checker_of = some (36, pred_checker_of, [.tmp 6]) := by kernel_rfl
/- pred_Size_1 -/
@[simp] def pred_Size_1_r0 : List VOp :=
  [(oo 2 (.box (.tmp 0)))]
@[simp] def pred_Size_1_r1 : List VOp :=
  [(oo 3 (.ld (.tmp 1) none)),
   (oo 4 (.bin .add (.tmp 3) (.const (ki 1)))),
   (on (.st (.tmp 1) (.tmp 4) 1))]
def pred_Size_1 : VCode := (.seq (.reg pred_Size_1_r0) (.reg pred_Size_1_r1))
theorem pred_Size_1_is : fnV prog n_pred_Size_1 = some (5, pred_Size_1, []) := by kernel_rfl
/- rr03_col -/
@[simp] def rr03_col_r0 : List VOp :=
  [(oo 3 (.box (.tmp 0))),
   (oo 5 (.box (.tmp 2))),
   (oo 6 (.mov (.const (kb false))))]
@[simp] def rr03_col_r1 : List VOp :=
  [(oo 8 (.ld (.tmp 5) (some 3))),
   (oo 9 (.call n_rr01_Right [(.tmp 8)])),
   (oo 7 (.mov (.tmp 9)))]
@[simp] def rr03_col_t2 : VT :=
  .op (oo 10 (.mov (.tmp 1))) <|
  .op (oo 11 (.bin .geq (.tmp 10) (.const (ki 0)))) <|
  .op (oo 12 (.mov (.tmp 11))) <|
  .op (og 13 12 true (.mov (.tmp 1))) <|
  .op (og 14 12 true (.fa 0 (.tmp 3))) <|
  .op (og 15 12 true (.ld (.tmp 14) none)) <|
  .op (og 16 12 true (.len (.tmp 15))) <|
  .op (og 17 12 true (.bin .lss (.tmp 13) (.tmp 16))) <|
  .op (oo 18 (.pick (.tmp 12) (.tmp 17) (.const (kb false)))) <|
  .op (oo 19 (.mov (.tmp 18))) <|
  .op (og 20 19 true (.mov (.tmp 7))) <|
  .op (oo 21 (.pick (.tmp 19) (.tmp 20) (.const (kb false)))) <|
  .op (oo 22 (.mov (.tmp 21))) <|
  .op (og 23 22 true (.fa 0 (.tmp 5))) <|
  .op (og 24 22 true (.ld (.tmp 23) none)) <|
  .op (og 25 22 true (.fa 0 (.tmp 3))) <|
  .op (og 26 22 true (.ld (.tmp 25) none)) <|
  .op (og 27 22 true (.mov (.tmp 1))) <|
  .op (og 28 22 true (.ia 1 (.tmp 26) (.tmp 27))) <|
  .op (og 29 22 true (.ld (.tmp 28) none)) <|
  .op (og 30 22 true (.beq false (.tmp 24) (.tmp 29))) <|
  .op (oo 31 (.pick (.tmp 22) (.tmp 30) (.const (kb false)))) <|
  .op (oo 6 (.mov (.tmp 31))) <|
  .done
def rr03_col : VCode := (.seq (.reg rr03_col_r0) (.seq (.reg rr03_col_r1) (.seq (.any rr03_col_t2) .ret)))
theorem rr03_col_is : fnV prog n_rr03_col = some (32, rr03_col, [.tmp 6]) := by kernel_rfl
end Go.Rt
end
