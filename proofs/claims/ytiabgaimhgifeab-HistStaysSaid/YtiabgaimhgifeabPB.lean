/- Functions of the program as the abstract machine has them. Conditions: none. -/
import Derived.Test.YtiabgaimhgifeabMD
import Derived.Test.YtiabgaimhgifeabProg

set_option linter.unusedVariables false
set_option linter.unusedSimpArgs false

/- The numbers of the functions. -/
section
namespace Go.Rt
@[reducible] noncomputable def prog : Program := Go.Proofs.Try.prog
@[reducible] def n_ratlinelaw18_HistStays : FuncId := 3
@[reducible] def n_ratlinelaw18_awake : FuncId := 4
@[reducible] def n_ratlineref18_Small : FuncId := 5
@[reducible] def n_hist_Check : FuncId := 6
@[reducible] def n_hist_Complete : FuncId := 7
@[reducible] def n_ratlineref18_Same : FuncId := 8
@[reducible] def n_hist_Ended : FuncId := 9
@[reducible] def n_ratlineref18_Event : FuncId := 10
@[reducible] def n_ratlineref18_flat : FuncId := 11
@[reducible] def n_hist_Check_1 : FuncId := 12
@[reducible] def n_hist_checker_frame : FuncId := 13
@[reducible] def n_hist_checker_read : FuncId := 14
@[reducible] def n_hist_checker_saw : FuncId := 15
@[reducible] def n_hist_checker_write : FuncId := 16
@[reducible] def n_hist_checker_order : FuncId := 17
@[reducible] def n_row_Check : FuncId := 18
@[reducible] def n_slices_Clone_bool_bool : FuncId := 19
@[reducible] def n_slices_Clone_int_int : FuncId := 20
@[reducible] def n_row_Clone : FuncId := 21
@[reducible] def n_slices_Clone_api_Ref_api_Ref : FuncId := 22
@[reducible] def n_pred_Clone : FuncId := 23
@[reducible] def n_slices_Sorted_int : FuncId := 24
@[reducible] def n_maps_Keys_map_int_int_int_int : FuncId := 25
@[reducible] def n_slices_IndexFunc_api_Event_api_Event : FuncId := 26
@[reducible] def n_hist_Ended_1 : FuncId := 27
@[reducible] def n_ratlineref03_Same : FuncId := 28
@[reducible] def n_ratlineref02_Same : FuncId := 29
@[reducible] def n_ratlineref03_Size : FuncId := 30
@[reducible] def n_hist_checker_key : FuncId := 31
@[reducible] def n_hist_checker_version : FuncId := 32
@[reducible] def n_pred_Check : FuncId := 33
@[reducible] def n_value_Compare : FuncId := 34
@[reducible] def n_row_Fits : FuncId := 35
@[reducible] def n_slices_Clone_api_Row_api_Value : FuncId := 36
@[reducible] def n_slices_Clone_api_Pred_api_Pred : FuncId := 37
@[reducible] def n_slices_Collect_int : FuncId := 38
@[reducible] def n_slices_Sort_int_int : FuncId := 39
@[reducible] def n_maps_Keys_map_int_int_int_int_1 : FuncId := 40
@[reducible] def n_value_Right : FuncId := 41
@[reducible] def n_pred_checker_part : FuncId := 42
@[reducible] def n_pred_each : FuncId := 43
@[reducible] def n_pred_Size : FuncId := 44
@[reducible] def n_cmp_Compare_string : FuncId := 45
@[reducible] def n_cmp_Compare_int64 : FuncId := 46
@[reducible] def n_slices_AppendSeq_int_int : FuncId := 47
@[reducible] def n_slices_pdqsortOrdered_int : FuncId := 48
@[reducible] def n_math_bits_Len : FuncId := 49
@[reducible] def n_pred_checker_of : FuncId := 50
@[reducible] def n_pred_Size_1 : FuncId := 51
@[reducible] def n_cmp_isNaN_string : FuncId := 52
@[reducible] def n_cmp_isNaN_int64 : FuncId := 53
@[reducible] def n_slices_insertionSortOrdered_int : FuncId := 54
@[reducible] def n_slices_heapSortOrdered_int : FuncId := 55
@[reducible] def n_slices_breakPatternsOrdered_int : FuncId := 56
@[reducible] def n_slices_choosePivotOrdered_int : FuncId := 57
@[reducible] def n_slices_reverseRangeOrdered_int : FuncId := 58
@[reducible] def n_slices_partialInsertionSortOrdered_int : FuncId := 59
@[reducible] def n_cmp_Less_int : FuncId := 60
@[reducible] def n_slices_partitionEqualOrdered_int : FuncId := 61
@[reducible] def n_slices_partitionOrdered_int : FuncId := 62
@[reducible] def n_math_bits_Len32 : FuncId := 63
@[reducible] def n_math_bits_Len64 : FuncId := 64
@[reducible] def n_slices_siftDownOrdered_int : FuncId := 65
@[reducible] def n_slices_nextPowerOfTwo : FuncId := 66
@[reducible] def n_slices_xorshift_Next : FuncId := 67
@[reducible] def n_slices_medianAdjacentOrdered_int : FuncId := 68
@[reducible] def n_slices_medianOrdered_int : FuncId := 69
@[reducible] def n_cmp_isNaN_int : FuncId := 70
@[reducible] def n_slices_order2Ordered_int : FuncId := 71
@[reducible] def n_api_Errno_Error : FuncId := 87
end Go.Rt
end

/- Functions as the abstract machine has them (printed by GenV.lean). -/
section
namespace Go.Rt
open Go.Vm
/- ratlinelaw18_HistStays -/
@[simp] def ratlinelaw18_HistStays_r0 : List VOp :=
  [⟨(some 1), none, .box (.tmp 0)⟩,
   ⟨(some 2), none, .mov (.const (.bool false))⟩]
@[simp] def ratlinelaw18_HistStays_r1 : List VOp :=
  [⟨(some 8), none, .call n_ratlinelaw18_awake []⟩,
   ⟨(some 3), none, .mov (.tmp 8)⟩]
@[simp] def ratlinelaw18_HistStays_r2 : List VOp :=
  [⟨(some 9), none, .mov (.tmp 3)⟩,
   ⟨(some 10), none, .un .not (.tmp 9)⟩]
@[simp] def ratlinelaw18_HistStays_r3 : List VOp :=
  [⟨(some 2), none, .mov (.const (.bool false))⟩]
@[simp] def ratlinelaw18_HistStays_r4 : List VOp :=
  [⟨(some 11), none, .ld (.tmp 1) (some 3)⟩,
   ⟨(some 12), none, .call n_ratlineref18_Small [(.tmp 11)]⟩,
   ⟨(some 4), none, .mov (.tmp 12)⟩]
@[simp] def ratlinelaw18_HistStays_r5 : List VOp :=
  [⟨(some 13), none, .mov (.tmp 4)⟩,
   ⟨(some 14), none, .un .not (.tmp 13)⟩,
   ⟨(some 15), none, .mov (.tmp 14)⟩,
   ⟨(some 16), (some (15, false)), .ld (.tmp 1) (some 3)⟩,
   ⟨(some 17), (some (15, false)), .call n_hist_Check [(.tmp 16)]⟩,
   ⟨(some 18), (some (15, false)), .bin .neq (.tmp 17) (.const (.int .i64 0))⟩,
   ⟨(some 19), none, .pick (.tmp 15) (.const (.bool true)) (.tmp 18)⟩]
@[simp] def ratlinelaw18_HistStays_r6 : List VOp :=
  [⟨(some 2), none, .mov (.const (.bool true))⟩]
@[simp] def ratlinelaw18_HistStays_r7 : List VOp :=
  [⟨(some 20), none, .ld (.tmp 1) (some 3)⟩,
   ⟨(some 21), none, .call n_hist_Complete [(.tmp 20)]⟩,
   ⟨(some 5), none, .alloc [.nil 1, .nil 22, .nil 5]⟩,
   ⟨none, none, .st (.tmp 5) (.tmp 21) 3⟩]
@[simp] def ratlinelaw18_HistStays_t8 : VT :=
  .op ⟨(some 22), none, .ld (.tmp 5) (some 3)⟩ <|
  .op ⟨(some 23), none, .call n_hist_Check [(.tmp 22)]⟩ <|
  .op ⟨(some 24), none, .bin .neq (.tmp 23) (.const (.int .i64 0))⟩ <|
  .op ⟨(some 25), none, .mov (.tmp 24)⟩ <|
  .op ⟨(some 26), (some (25, false)), .ld (.tmp 5) (some 3)⟩ <|
  .alt (
   .op ⟨(some 27), (some (25, false)), .call n_hist_Complete [(.tmp 26)]⟩ <|
   .op ⟨(some 28), (some (25, false)), .ld (.tmp 5) (some 3)⟩ <|
   .op ⟨(some 29), (some (25, false)), .call n_ratlineref18_Same [(.tmp 27), (.tmp 28)]⟩ <|
   .op ⟨(some 30), (some (25, false)), .un .not (.tmp 29)⟩ <|
   .op ⟨(some 31), none, .pick (.tmp 25) (.const (.bool true)) (.tmp 30)⟩ <|
   .op ⟨(some 32), none, .mov (.tmp 31)⟩ <|
   .op ⟨(some 33), (some (32, false)), .fa 1 (.tmp 5)⟩ <|
   .op ⟨(some 34), (some (32, false)), .ld (.tmp 33) none⟩ <|
   .op ⟨(some 35), (some (32, false)), .len (.tmp 34)⟩ <|
   .op ⟨(some 36), (some (32, false)), .fa 1 (.tmp 1)⟩ <|
   .op ⟨(some 37), (some (32, false)), .ld (.tmp 36) none⟩ <|
   .op ⟨(some 38), (some (32, false)), .len (.tmp 37)⟩ <|
   .op ⟨(some 39), (some (32, false)), .bin .lss (.tmp 35) (.tmp 38)⟩ <|
   .op ⟨(some 40), none, .pick (.tmp 32) (.const (.bool true)) (.tmp 39)⟩ <|
   .done) (
   .op ⟨(some 28), (some (25, false)), .ld (.tmp 5) (some 3)⟩ <|
   .op ⟨(some 27), (some (25, false)), .call n_hist_Complete [(.tmp 26)]⟩ <|
   .op ⟨(some 29), (some (25, false)), .call n_ratlineref18_Same [(.tmp 27), (.tmp 28)]⟩ <|
   .op ⟨(some 30), (some (25, false)), .un .not (.tmp 29)⟩ <|
   .op ⟨(some 31), none, .pick (.tmp 25) (.const (.bool true)) (.tmp 30)⟩ <|
   .op ⟨(some 32), none, .mov (.tmp 31)⟩ <|
   .op ⟨(some 33), (some (32, false)), .fa 1 (.tmp 5)⟩ <|
   .op ⟨(some 34), (some (32, false)), .ld (.tmp 33) none⟩ <|
   .op ⟨(some 35), (some (32, false)), .len (.tmp 34)⟩ <|
   .op ⟨(some 36), (some (32, false)), .fa 1 (.tmp 1)⟩ <|
   .op ⟨(some 37), (some (32, false)), .ld (.tmp 36) none⟩ <|
   .op ⟨(some 38), (some (32, false)), .len (.tmp 37)⟩ <|
   .op ⟨(some 39), (some (32, false)), .bin .lss (.tmp 35) (.tmp 38)⟩ <|
   .op ⟨(some 40), none, .pick (.tmp 32) (.const (.bool true)) (.tmp 39)⟩ <|
   .done)
@[simp] def ratlinelaw18_HistStays_r9 : List VOp :=
  [⟨(some 2), none, .mov (.const (.bool false))⟩]
@[simp] def ratlinelaw18_HistStays_r10 : List VOp :=
  [⟨(some 6), none, .mov (.const (.int .i64 0))⟩]
@[simp] def ratlinelaw18_HistStays_r11 : List VOp :=
  [⟨(some 41), none, .mov (.tmp 6)⟩,
   ⟨(some 42), none, .fa 1 (.tmp 5)⟩,
   ⟨(some 43), none, .ld (.tmp 42) none⟩,
   ⟨(some 44), none, .len (.tmp 43)⟩,
   ⟨(some 45), none, .bin .lss (.tmp 41) (.tmp 44)⟩]
@[simp] def ratlinelaw18_HistStays_t12 : VT :=
  .op ⟨(some 48), none, .ld (.tmp 5) (some 3)⟩ <|
  .op ⟨(some 49), none, .fa 1 (.tmp 5)⟩ <|
  .op ⟨(some 50), none, .ld (.tmp 49) none⟩ <|
  .op ⟨(some 51), none, .mov (.tmp 6)⟩ <|
  .op ⟨(some 52), none, .ia 22 (.tmp 50) (.tmp 51)⟩ <|
  .op ⟨(some 53), none, .fa 0 (.tmp 52)⟩ <|
  .op ⟨(some 54), none, .ld (.tmp 53) none⟩ <|
  .op ⟨(some 55), none, .call n_hist_Ended [(.tmp 48), (.tmp 54)]⟩ <|
  .op ⟨(some 7), none, .mov (.tmp 55)⟩ <|
  .done
@[simp] def ratlinelaw18_HistStays_r13 : List VOp :=
  [⟨(some 56), none, .mov (.tmp 7)⟩,
   ⟨(some 57), none, .bin .neq (.tmp 56) (.const (.int .i64 5))⟩,
   ⟨(some 58), none, .mov (.tmp 57)⟩,
   ⟨(some 59), (some (58, true)), .mov (.tmp 7)⟩,
   ⟨(some 60), (some (58, true)), .bin .neq (.tmp 59) (.const (.int .i64 6))⟩,
   ⟨(some 61), none, .pick (.tmp 58) (.tmp 60) (.const (.bool false))⟩]
@[simp] def ratlinelaw18_HistStays_r14 : List VOp :=
  [⟨(some 2), none, .mov (.const (.bool false))⟩]
@[simp] def ratlinelaw18_HistStays_t15 : VT :=
  .op ⟨(some 62), none, .mov (.tmp 6)⟩ <|
  .op ⟨(some 63), none, .fa 1 (.tmp 1)⟩ <|
  .op ⟨(some 64), none, .ld (.tmp 63) none⟩ <|
  .op ⟨(some 65), none, .len (.tmp 64)⟩ <|
  .op ⟨(some 66), none, .bin .lss (.tmp 62) (.tmp 65)⟩ <|
  .op ⟨(some 67), none, .mov (.tmp 66)⟩ <|
  .op ⟨(some 68), (some (67, true)), .fa 1 (.tmp 5)⟩ <|
  .op ⟨(some 69), (some (67, true)), .ld (.tmp 68) none⟩ <|
  .op ⟨(some 70), (some (67, true)), .mov (.tmp 6)⟩ <|
  .op ⟨(some 71), (some (67, true)), .ia 22 (.tmp 69) (.tmp 70)⟩ <|
  .op ⟨(some 72), (some (67, true)), .ld (.tmp 71) (some 22)⟩ <|
  .op ⟨(some 73), (some (67, true)), .fa 1 (.tmp 1)⟩ <|
  .op ⟨(some 74), (some (67, true)), .ld (.tmp 73) none⟩ <|
  .op ⟨(some 75), (some (67, true)), .mov (.tmp 6)⟩ <|
  .op ⟨(some 76), (some (67, true)), .ia 22 (.tmp 74) (.tmp 75)⟩ <|
  .op ⟨(some 77), (some (67, true)), .ld (.tmp 76) (some 22)⟩ <|
  .op ⟨(some 78), (some (67, true)), .call n_ratlineref18_Event [(.tmp 72), (.tmp 77)]⟩ <|
  .op ⟨(some 79), (some (67, true)), .un .not (.tmp 78)⟩ <|
  .op ⟨(some 80), none, .pick (.tmp 67) (.tmp 79) (.const (.bool false))⟩ <|
  .done
@[simp] def ratlinelaw18_HistStays_r16 : List VOp :=
  [⟨(some 2), none, .mov (.const (.bool false))⟩]
@[simp] def ratlinelaw18_HistStays_r17 : List VOp :=
  [⟨(some 46), none, .mov (.tmp 6)⟩,
   ⟨(some 47), none, .bin .add (.tmp 46) (.const (.int .i64 1))⟩,
   ⟨(some 6), none, .mov (.tmp 47)⟩]
def ratlinelaw18_HistStays_l18 : VCode :=
  (.seq (.seq (.reg ratlinelaw18_HistStays_r11) (.cond (.tmp 45) .skip (.exit 0))) (.seq (.block 1 (.seq (.any ratlinelaw18_HistStays_t12) (.seq (.seq (.reg ratlinelaw18_HistStays_r13) (.cond (.tmp 61) (.seq (.reg ratlinelaw18_HistStays_r14) .ret) .skip)) (.seq (.any ratlinelaw18_HistStays_t15) (.cond (.tmp 80) (.seq (.reg ratlinelaw18_HistStays_r16) .ret) .skip))))) (.reg ratlinelaw18_HistStays_r17)))
@[simp] def ratlinelaw18_HistStays_r19 : List VOp :=
  [⟨(some 2), none, .mov (.const (.bool true))⟩]
def ratlinelaw18_HistStays : VCode := (.seq (.reg ratlinelaw18_HistStays_r0) (.seq (.reg ratlinelaw18_HistStays_r1) (.seq (.seq (.reg ratlinelaw18_HistStays_r2) (.cond (.tmp 10) (.seq (.reg ratlinelaw18_HistStays_r3) .ret) .skip)) (.seq (.reg ratlinelaw18_HistStays_r4) (.seq (.seq (.reg ratlinelaw18_HistStays_r5) (.cond (.tmp 19) (.seq (.reg ratlinelaw18_HistStays_r6) .ret) .skip)) (.seq (.reg ratlinelaw18_HistStays_r7) (.seq (.seq (.any ratlinelaw18_HistStays_t8) (.cond (.tmp 40) (.seq (.reg ratlinelaw18_HistStays_r9) .ret) .skip)) (.seq (.seq (.reg ratlinelaw18_HistStays_r10) (.block 0 (.loop ratlinelaw18_HistStays_l18))) (.seq (.reg ratlinelaw18_HistStays_r19) .ret)))))))))
theorem ratlinelaw18_HistStays_is : fnV prog n_ratlinelaw18_HistStays = some (81, ratlinelaw18_HistStays, [.tmp 2]) := by kernel_rfl

/- ratlinelaw18_awake -/
@[simp] def ratlinelaw18_awake_r0 : List VOp :=
  [⟨(some 0), none, .mov (.const (.bool false))⟩]
@[simp] def ratlinelaw18_awake_r1 : List VOp :=
  [⟨(some 4), none, .build [.iv (.v (.bool false)), .iv (.v (.int .i64 0)), .iv (.v (.string ⟨#[]⟩))] [(1, 1, (.const (.int .i64 5)))]⟩,
   ⟨(some 1), none, .alloc [.iv (.v (.bool false)), .iv (.v (.int .i64 0)), .iv (.v (.string ⟨#[]⟩))]⟩,
   ⟨none, none, .st (.tmp 1) (.tmp 4) 3⟩]
@[simp] def ratlinelaw18_awake_r2 : List VOp :=
  [⟨(some 5), none, .lit 1 1 [(0, (.const (.bool false)))]⟩,
   ⟨(some 6), none, .build [.nil 1] [(0, 1, (.tmp 5))]⟩,
   ⟨(some 7), none, .lit 1 1 [(0, (.tmp 6))]⟩,
   ⟨(some 8), none, .build [.iv (.v (.int .i64 0)), .iv (.v (.int .i64 0)), .iv (.v (.int .i64 0)), .iv (.v (.int .i64 0)), .iv (.v (.bool false)), .iv (.v (.int .i64 0)), .iv (.v (.string ⟨#[]⟩)), .iv (.v (.int .i64 0)), .iv (.v (.int .i64 0)), .iv (.v (.int .i64 0)), .nil 3, .iv (.v (.int .i64 0)), .iv (.v (.int .i64 0)), .iv (.v (.bool false)), .iv (.v (.int .i64 0)), .iv (.v (.string ⟨#[]⟩)), .iv (.v (.bool false)), .iv (.v (.int .i64 0)), .iv (.v (.string ⟨#[]⟩)), .nil 9, .nil 5, .iv (.v (.bool false))] [(0, 1, (.const (.int .i64 1))), (1, 1, (.const (.int .i64 1))), (2, 1, (.const (.int .i64 1)))]⟩,
   ⟨(some 9), none, .ld (.tmp 1) (some 3)⟩,
   ⟨(some 10), none, .ld (.tmp 1) (some 3)⟩,
   ⟨(some 11), none, .lit 3 1 [(0, (.tmp 10))]⟩,
   ⟨(some 12), none, .build [.iv (.v (.int .i64 0)), .iv (.v (.int .i64 0)), .iv (.v (.int .i64 0)), .iv (.v (.int .i64 0)), .iv (.v (.bool false)), .iv (.v (.int .i64 0)), .iv (.v (.string ⟨#[]⟩)), .iv (.v (.int .i64 0)), .iv (.v (.int .i64 0)), .iv (.v (.int .i64 0)), .nil 3, .iv (.v (.int .i64 0)), .iv (.v (.int .i64 0)), .iv (.v (.bool false)), .iv (.v (.int .i64 0)), .iv (.v (.string ⟨#[]⟩)), .iv (.v (.bool false)), .iv (.v (.int .i64 0)), .iv (.v (.string ⟨#[]⟩)), .nil 9, .nil 5, .iv (.v (.bool false))] [(0, 1, (.const (.int .i64 1))), (1, 1, (.const (.int .i64 3))), (4, 3, (.tmp 9)), (9, 1, (.const (.int .i64 1))), (10, 1, (.tmp 11))]⟩,
   ⟨(some 13), none, .build [.iv (.v (.int .i64 0)), .iv (.v (.int .i64 0)), .iv (.v (.int .i64 0)), .iv (.v (.int .i64 0)), .iv (.v (.bool false)), .iv (.v (.int .i64 0)), .iv (.v (.string ⟨#[]⟩)), .iv (.v (.int .i64 0)), .iv (.v (.int .i64 0)), .iv (.v (.int .i64 0)), .nil 3, .iv (.v (.int .i64 0)), .iv (.v (.int .i64 0)), .iv (.v (.bool false)), .iv (.v (.int .i64 0)), .iv (.v (.string ⟨#[]⟩)), .iv (.v (.bool false)), .iv (.v (.int .i64 0)), .iv (.v (.string ⟨#[]⟩)), .nil 9, .nil 5, .iv (.v (.bool false))] [(0, 1, (.const (.int .i64 1))), (1, 1, (.const (.int .i64 5)))]⟩,
   ⟨(some 14), none, .lit 22 3 [(0, (.tmp 8)), (1, (.tmp 12)), (2, (.tmp 13))]⟩,
   ⟨(some 15), none, .ld (.tmp 1) (some 3)⟩,
   ⟨(some 16), none, .lit 1 1 [(0, (.const (.int .i64 1)))]⟩,
   ⟨(some 17), none, .build [.iv (.v (.int .i64 0)), .iv (.v (.bool false)), .iv (.v (.int .i64 0)), .iv (.v (.string ⟨#[]⟩)), .nil 1] [(1, 3, (.tmp 15)), (4, 1, (.tmp 16))]⟩,
   ⟨(some 18), none, .lit 5 1 [(0, (.tmp 17))]⟩,
   ⟨(some 19), none, .build [.nil 1, .nil 22, .nil 5] [(0, 1, (.tmp 7)), (1, 1, (.tmp 14)), (2, 1, (.tmp 18))]⟩,
   ⟨(some 2), none, .alloc [.nil 1, .nil 22, .nil 5]⟩,
   ⟨none, none, .st (.tmp 2) (.tmp 19) 3⟩]
@[simp] def ratlinelaw18_awake_r3 : List VOp :=
  [⟨(some 20), none, .ld (.tmp 2) (some 3)⟩,
   ⟨(some 21), none, .call n_hist_Check [(.tmp 20)]⟩,
   ⟨(some 3), none, .mov (.tmp 21)⟩]
@[simp] def ratlinelaw18_awake_r4 : List VOp :=
  [⟨(some 22), none, .fa 1 (.tmp 2)⟩,
   ⟨(some 23), none, .ld (.tmp 22) none⟩,
   ⟨(some 24), none, .ia 22 (.tmp 23) (.const (.int .i64 1))⟩,
   ⟨(some 25), none, .fa 9 (.tmp 24)⟩,
   ⟨none, none, .st (.tmp 25) (.const (.int .i64 2)) 1⟩]
@[simp] def ratlinelaw18_awake_r5 : List VOp :=
  [⟨(some 26), none, .mov (.tmp 3)⟩,
   ⟨(some 27), none, .bin .eql (.tmp 26) (.const (.int .i64 0))⟩,
   ⟨(some 28), none, .mov (.tmp 27)⟩,
   ⟨(some 29), (some (28, true)), .ld (.tmp 2) (some 3)⟩,
   ⟨(some 30), (some (28, true)), .call n_hist_Check [(.tmp 29)]⟩,
   ⟨(some 31), (some (28, true)), .bin .eql (.tmp 30) (.const (.int .i64 180))⟩,
   ⟨(some 32), none, .pick (.tmp 28) (.tmp 31) (.const (.bool false))⟩,
   ⟨(some 33), none, .mov (.tmp 32)⟩,
   ⟨(some 34), (some (33, true)), .ld (.tmp 2) (some 3)⟩,
   ⟨(some 35), (some (33, true)), .call n_hist_Ended [(.tmp 34), (.const (.int .i64 1))]⟩,
   ⟨(some 36), (some (33, true)), .bin .eql (.tmp 35) (.const (.int .i64 5))⟩,
   ⟨(some 37), none, .pick (.tmp 33) (.tmp 36) (.const (.bool false))⟩,
   ⟨(some 0), none, .mov (.tmp 37)⟩]
def ratlinelaw18_awake : VCode := (.seq (.reg ratlinelaw18_awake_r0) (.seq (.reg ratlinelaw18_awake_r1) (.seq (.reg ratlinelaw18_awake_r2) (.seq (.reg ratlinelaw18_awake_r3) (.seq (.reg ratlinelaw18_awake_r4) (.seq (.reg ratlinelaw18_awake_r5) .ret))))))
theorem ratlinelaw18_awake_is : fnV prog n_ratlinelaw18_awake = some (38, ratlinelaw18_awake, [.tmp 0]) := by kernel_rfl

/- ratlineref18_Small -/
@[simp] def ratlineref18_Small_r0 : List VOp :=
  [⟨(some 1), none, .box (.tmp 0)⟩,
   ⟨(some 2), none, .mov (.const (.bool false))⟩]
@[simp] def ratlineref18_Small_r1 : List VOp :=
  [⟨(some 6), none, .fa 0 (.tmp 1)⟩,
   ⟨(some 7), none, .ld (.tmp 6) none⟩,
   ⟨(some 8), none, .len (.tmp 7)⟩,
   ⟨(some 9), none, .bin .gtr (.tmp 8) (.const (.int .i64 6))⟩,
   ⟨(some 10), none, .mov (.tmp 9)⟩,
   ⟨(some 11), (some (10, false)), .fa 1 (.tmp 1)⟩,
   ⟨(some 12), (some (10, false)), .ld (.tmp 11) none⟩,
   ⟨(some 13), (some (10, false)), .len (.tmp 12)⟩,
   ⟨(some 14), (some (10, false)), .bin .gtr (.tmp 13) (.const (.int .i64 60))⟩,
   ⟨(some 15), none, .pick (.tmp 10) (.const (.bool true)) (.tmp 14)⟩,
   ⟨(some 16), none, .mov (.tmp 15)⟩,
   ⟨(some 17), (some (16, false)), .fa 2 (.tmp 1)⟩,
   ⟨(some 18), (some (16, false)), .ld (.tmp 17) none⟩,
   ⟨(some 19), (some (16, false)), .len (.tmp 18)⟩,
   ⟨(some 20), (some (16, false)), .bin .gtr (.tmp 19) (.const (.int .i64 30))⟩,
   ⟨(some 21), none, .pick (.tmp 16) (.const (.bool true)) (.tmp 20)⟩]
@[simp] def ratlineref18_Small_r2 : List VOp :=
  [⟨(some 2), none, .mov (.const (.bool false))⟩]
@[simp] def ratlineref18_Small_r3 : List VOp :=
  [⟨(some 3), none, .mov (.const (.int .i64 0))⟩]
@[simp] def ratlineref18_Small_r4 : List VOp :=
  [⟨(some 22), none, .mov (.tmp 3)⟩,
   ⟨(some 23), none, .fa 1 (.tmp 1)⟩,
   ⟨(some 24), none, .ld (.tmp 23) none⟩,
   ⟨(some 25), none, .len (.tmp 24)⟩,
   ⟨(some 26), none, .bin .lss (.tmp 22) (.tmp 25)⟩]
@[simp] def ratlineref18_Small_r5 : List VOp :=
  [⟨(some 29), none, .fa 1 (.tmp 1)⟩,
   ⟨(some 30), none, .ld (.tmp 29) none⟩,
   ⟨(some 31), none, .mov (.tmp 3)⟩,
   ⟨(some 32), none, .ia 22 (.tmp 30) (.tmp 31)⟩,
   ⟨(some 33), none, .ld (.tmp 32) (some 22)⟩,
   ⟨(some 4), none, .alloc [.iv (.v (.int .i64 0)), .iv (.v (.int .i64 0)), .iv (.v (.int .i64 0)), .iv (.v (.int .i64 0)), .iv (.v (.bool false)), .iv (.v (.int .i64 0)), .iv (.v (.string ⟨#[]⟩)), .iv (.v (.int .i64 0)), .iv (.v (.int .i64 0)), .iv (.v (.int .i64 0)), .nil 3, .iv (.v (.int .i64 0)), .iv (.v (.int .i64 0)), .iv (.v (.bool false)), .iv (.v (.int .i64 0)), .iv (.v (.string ⟨#[]⟩)), .iv (.v (.bool false)), .iv (.v (.int .i64 0)), .iv (.v (.string ⟨#[]⟩)), .nil 9, .nil 5, .iv (.v (.bool false))]⟩,
   ⟨none, none, .st (.tmp 4) (.tmp 33) 22⟩]
@[simp] def ratlineref18_Small_r6 : List VOp :=
  [⟨(some 34), none, .fa 20 (.tmp 4)⟩,
   ⟨(some 35), none, .ld (.tmp 34) none⟩,
   ⟨(some 36), none, .len (.tmp 35)⟩,
   ⟨(some 37), none, .bin .gtr (.tmp 36) (.const (.int .i64 12))⟩,
   ⟨(some 38), none, .mov (.tmp 37)⟩,
   ⟨(some 39), (some (38, false)), .fa 10 (.tmp 4)⟩,
   ⟨(some 40), (some (38, false)), .ld (.tmp 39) none⟩,
   ⟨(some 41), (some (38, false)), .len (.tmp 40)⟩,
   ⟨(some 42), (some (38, false)), .bin .gtr (.tmp 41) (.const (.int .i64 12))⟩,
   ⟨(some 43), none, .pick (.tmp 38) (.const (.bool true)) (.tmp 42)⟩,
   ⟨(some 44), none, .mov (.tmp 43)⟩,
   ⟨(some 45), (some (44, false)), .fa 11 (.tmp 4)⟩,
   ⟨(some 46), (some (44, false)), .ld (.tmp 45) (some 9)⟩,
   ⟨(some 47), (some (44, false)), .call n_ratlineref18_flat [(.tmp 46), (.const (.int .i64 0))]⟩,
   ⟨(some 48), (some (44, false)), .un .not (.tmp 47)⟩,
   ⟨(some 49), none, .pick (.tmp 44) (.const (.bool true)) (.tmp 48)⟩]
@[simp] def ratlineref18_Small_r7 : List VOp :=
  [⟨(some 2), none, .mov (.const (.bool false))⟩]
@[simp] def ratlineref18_Small_r8 : List VOp :=
  [⟨(some 27), none, .mov (.tmp 3)⟩,
   ⟨(some 28), none, .bin .add (.tmp 27) (.const (.int .i64 1))⟩,
   ⟨(some 3), none, .mov (.tmp 28)⟩]
def ratlineref18_Small_l9 : VCode :=
  (.seq (.seq (.reg ratlineref18_Small_r4) (.cond (.tmp 26) .skip (.exit 0))) (.seq (.block 1 (.seq (.reg ratlineref18_Small_r5) (.seq (.reg ratlineref18_Small_r6) (.cond (.tmp 49) (.seq (.reg ratlineref18_Small_r7) .ret) .skip)))) (.reg ratlineref18_Small_r8)))
@[simp] def ratlineref18_Small_r10 : List VOp :=
  [⟨(some 5), none, .mov (.const (.int .i64 0))⟩]
@[simp] def ratlineref18_Small_r11 : List VOp :=
  [⟨(some 50), none, .mov (.tmp 5)⟩,
   ⟨(some 51), none, .fa 2 (.tmp 1)⟩,
   ⟨(some 52), none, .ld (.tmp 51) none⟩,
   ⟨(some 53), none, .len (.tmp 52)⟩,
   ⟨(some 54), none, .bin .lss (.tmp 50) (.tmp 53)⟩]
@[simp] def ratlineref18_Small_r12 : List VOp :=
  [⟨(some 57), none, .fa 2 (.tmp 1)⟩,
   ⟨(some 58), none, .ld (.tmp 57) none⟩,
   ⟨(some 59), none, .mov (.tmp 5)⟩,
   ⟨(some 60), none, .ia 5 (.tmp 58) (.tmp 59)⟩,
   ⟨(some 61), none, .fa 4 (.tmp 60)⟩,
   ⟨(some 62), none, .ld (.tmp 61) none⟩,
   ⟨(some 63), none, .len (.tmp 62)⟩,
   ⟨(some 64), none, .bin .gtr (.tmp 63) (.const (.int .i64 20))⟩]
@[simp] def ratlineref18_Small_r13 : List VOp :=
  [⟨(some 2), none, .mov (.const (.bool false))⟩]
@[simp] def ratlineref18_Small_r14 : List VOp :=
  [⟨(some 55), none, .mov (.tmp 5)⟩,
   ⟨(some 56), none, .bin .add (.tmp 55) (.const (.int .i64 1))⟩,
   ⟨(some 5), none, .mov (.tmp 56)⟩]
def ratlineref18_Small_l15 : VCode :=
  (.seq (.seq (.reg ratlineref18_Small_r11) (.cond (.tmp 54) .skip (.exit 2))) (.seq (.block 3 (.seq (.reg ratlineref18_Small_r12) (.cond (.tmp 64) (.seq (.reg ratlineref18_Small_r13) .ret) .skip))) (.reg ratlineref18_Small_r14)))
@[simp] def ratlineref18_Small_r16 : List VOp :=
  [⟨(some 2), none, .mov (.const (.bool true))⟩]
def ratlineref18_Small : VCode := (.seq (.reg ratlineref18_Small_r0) (.seq (.seq (.reg ratlineref18_Small_r1) (.cond (.tmp 21) (.seq (.reg ratlineref18_Small_r2) .ret) .skip)) (.seq (.seq (.reg ratlineref18_Small_r3) (.block 0 (.loop ratlineref18_Small_l9))) (.seq (.seq (.reg ratlineref18_Small_r10) (.block 2 (.loop ratlineref18_Small_l15))) (.seq (.reg ratlineref18_Small_r16) .ret)))))
theorem ratlineref18_Small_is : fnV prog n_ratlineref18_Small = some (65, ratlineref18_Small, [.tmp 2]) := by kernel_rfl

/- hist_Check -/
@[simp] def hist_Check_r0 : List VOp :=
  [⟨(some 1), none, .box (.tmp 0)⟩,
   ⟨(some 2), none, .mov (.const (.int .i64 0))⟩]
@[simp] def hist_Check_r1 : List VOp :=
  [⟨(some 10), none, .ld (.tmp 1) (some 3)⟩,
   ⟨(some 11), none, .mkmap (false, [.i .i64], false)⟩,
   ⟨(some 12), none, .mkmap (true, [.i .i64, .i .i64, .b, .i .i64, .s], false)⟩,
   ⟨(some 13), none, .mkmap (false, [.i .i64], false)⟩,
   ⟨(some 14), none, .build [.nil 1, .nil 22, .nil 5, .iv (.v (.map none)), .iv (.v (.map none)), .iv (.v (.map none))] [(0, 3, (.tmp 10)), (3, 1, (.tmp 11)), (4, 1, (.tmp 12)), (5, 1, (.tmp 13))]⟩,
   ⟨(some 15), none, .box (.tmp 14)⟩,
   ⟨(some 3), none, .alloc [.iv (.v (.pointer none))]⟩,
   ⟨none, none, .st (.tmp 3) (.tmp 15) 1⟩]
@[simp] def hist_Check_r2 : List VOp :=
  [⟨(some 16), none, .mkfn n_hist_Check_1 [] [(.tmp 3)]⟩,
   ⟨(some 4), none, .mov (.tmp 16)⟩]
@[simp] def hist_Check_r3 : List VOp :=
  [⟨(some 17), none, .ld (.tmp 3) none⟩,
   ⟨(some 18), none, .mkfn n_hist_checker_order [(.tmp 17)] []⟩,
   ⟨(some 5), none, .mov (.tmp 18)⟩]
@[simp] def hist_Check_r4 : List VOp :=
  [⟨(some 19), none, .fa 0 (.tmp 1)⟩,
   ⟨(some 20), none, .ld (.tmp 19) none⟩,
   ⟨(some 21), none, .len (.tmp 20)⟩,
   ⟨(some 22), none, .bin .lss (.tmp 21) (.const (.int .i64 1))⟩,
   ⟨(some 23), none, .mov (.tmp 22)⟩,
   ⟨(some 24), (some (23, false)), .fa 0 (.tmp 1)⟩,
   ⟨(some 25), (some (23, false)), .ld (.tmp 24) none⟩,
   ⟨(some 26), (some (23, false)), .len (.tmp 25)⟩,
   ⟨(some 27), (some (23, false)), .bin .gtr (.tmp 26) (.const (.int .i64 3))⟩,
   ⟨(some 28), none, .pick (.tmp 23) (.const (.bool true)) (.tmp 27)⟩]
@[simp] def hist_Check_r5 : List VOp :=
  [⟨(some 29), none, .fa 0 (.tmp 1)⟩,
   ⟨(some 30), none, .ld (.tmp 29) none⟩,
   ⟨(some 31), none, .len (.tmp 30)⟩,
   ⟨(some 32), none, .mov (.const (.int .i64 0))⟩]
@[simp] def hist_Check_r6 : List VOp :=
  [⟨(some 33), none, .bin .lss (.tmp 32) (.tmp 31)⟩]
@[simp] def hist_Check_r7 : List VOp :=
  [⟨(some 34), none, .ia 1 (.tmp 30) (.tmp 32)⟩,
   ⟨(some 35), none, .ld (.tmp 34) (some 1)⟩,
   ⟨(some 7), none, .alloc [.nil 1]⟩,
   ⟨none, none, .st (.tmp 7) (.tmp 35) 1⟩]
@[simp] def hist_Check_r8 : List VOp :=
  [⟨(some 36), none, .ld (.tmp 7) (some 1)⟩,
   ⟨(some 37), none, .call n_row_Check [(.tmp 36)]⟩,
   ⟨(some 38), none, .bin .neq (.tmp 37) (.const (.int .i64 0))⟩]
@[simp] def hist_Check_r9 : List VOp :=
  [⟨(some 39), none, .bin .add (.tmp 32) (.const (.int .i64 1))⟩,
   ⟨(some 32), none, .mov (.tmp 39)⟩]
def hist_Check_l10 : VCode :=
  (.seq (.reg hist_Check_r6) (.seq (.cond (.tmp 33) .skip (.exit 0)) (.seq (.block 1 (.seq (.reg hist_Check_r7) (.seq (.reg hist_Check_r8) (.cond (.tmp 38) (.goto 0) .skip)))) (.reg hist_Check_r9))))
@[simp] def hist_Check_r11 : List VOp :=
  [⟨(some 40), none, .fa 1 (.tmp 1)⟩,
   ⟨(some 41), none, .ld (.tmp 40) none⟩,
   ⟨(some 42), none, .len (.tmp 41)⟩,
   ⟨(some 43), none, .mov (.const (.int .i64 0))⟩]
@[simp] def hist_Check_r12 : List VOp :=
  [⟨(some 44), none, .bin .lss (.tmp 43) (.tmp 42)⟩]
@[simp] def hist_Check_r13 : List VOp :=
  [⟨(some 45), none, .ia 22 (.tmp 41) (.tmp 43)⟩,
   ⟨(some 46), none, .ld (.tmp 45) (some 22)⟩,
   ⟨(some 9), none, .alloc [.iv (.v (.int .i64 0)), .iv (.v (.int .i64 0)), .iv (.v (.int .i64 0)), .iv (.v (.int .i64 0)), .iv (.v (.bool false)), .iv (.v (.int .i64 0)), .iv (.v (.string ⟨#[]⟩)), .iv (.v (.int .i64 0)), .iv (.v (.int .i64 0)), .iv (.v (.int .i64 0)), .nil 3, .iv (.v (.int .i64 0)), .iv (.v (.int .i64 0)), .iv (.v (.bool false)), .iv (.v (.int .i64 0)), .iv (.v (.string ⟨#[]⟩)), .iv (.v (.bool false)), .iv (.v (.int .i64 0)), .iv (.v (.string ⟨#[]⟩)), .nil 9, .nil 5, .iv (.v (.bool false))]⟩,
   ⟨none, none, .st (.tmp 9) (.tmp 46) 22⟩]
@[simp] def hist_Check_r14 : List VOp :=
  [⟨(some 47), none, .mov (.tmp 4)⟩,
   ⟨(some 48), none, .ld (.tmp 9) (some 22)⟩,
   ⟨(some 49), none, .callv (.tmp 47) [(.tmp 48)]⟩,
   ⟨(some 50), none, .un .not (.tmp 49)⟩]
@[simp] def hist_Check_r15 : List VOp :=
  [⟨(some 51), none, .bin .add (.tmp 43) (.const (.int .i64 1))⟩,
   ⟨(some 43), none, .mov (.tmp 51)⟩]
def hist_Check_l16 : VCode :=
  (.seq (.reg hist_Check_r12) (.seq (.cond (.tmp 44) .skip (.exit 2)) (.seq (.block 3 (.seq (.reg hist_Check_r13) (.seq (.reg hist_Check_r14) (.cond (.tmp 50) (.goto 0) .skip)))) (.reg hist_Check_r15))))
@[simp] def hist_Check_r17 : List VOp :=
  [⟨(some 52), none, .mov (.tmp 5)⟩,
   ⟨(some 53), none, .callv (.tmp 52) []⟩]
@[simp] def hist_Check_r18 : List VOp :=
  [⟨(some 2), none, .mov (.const (.int .i64 0))⟩]
@[simp] def hist_Check_r19 : List VOp :=
  [⟨(some 2), none, .mov (.const (.int .i64 180))⟩]
@[simp] def hist_Check_r20 : List VOp :=
  [⟨(some 2), none, .mov (.const (.int .i64 180))⟩]
def hist_Check : VCode := (.seq (.reg hist_Check_r0) (.scopeL (.seq (.reg hist_Check_r1) (.seq (.reg hist_Check_r2) (.seq (.reg hist_Check_r3) (.seq (.seq (.reg hist_Check_r4) (.cond (.tmp 28) (.goto 0) .skip)) (.seq (.seq (.reg hist_Check_r5) (.block 0 (.loop hist_Check_l10))) (.seq (.seq (.reg hist_Check_r11) (.block 2 (.loop hist_Check_l16))) (.seq (.seq (.reg hist_Check_r17) (.cond (.tmp 53) (.seq (.reg hist_Check_r18) .ret) .skip)) (.seq .skip (.seq (.reg hist_Check_r19) .ret))))))))) 0 (.seq .skip (.seq (.reg hist_Check_r20) .ret))))
theorem hist_Check_is : fnV prog n_hist_Check = some (54, hist_Check, [.tmp 2]) := by kernel_rfl

/- hist_Complete -/
@[simp] def hist_Complete_r0 : List VOp :=
  [⟨(some 1), none, .box (.tmp 0)⟩,
   ⟨(some 2), none, .alloc [.nil 1, .nil 22, .nil 5]⟩]
@[simp] def hist_Complete_r1 : List VOp :=
  [⟨(some 3), none, .alloc [.nil 1, .nil 22, .nil 5]⟩]
@[simp] def hist_Complete_r2 : List VOp :=
  [⟨(some 13), none, .fa 0 (.tmp 1)⟩,
   ⟨(some 14), none, .ld (.tmp 13) none⟩,
   ⟨(some 15), none, .len (.tmp 14)⟩,
   ⟨(some 16), none, .mov (.const (.int .i64 0))⟩]
@[simp] def hist_Complete_r3 : List VOp :=
  [⟨(some 17), none, .bin .lss (.tmp 16) (.tmp 15)⟩]
@[simp] def hist_Complete_r4 : List VOp :=
  [⟨(some 18), none, .ia 1 (.tmp 14) (.tmp 16)⟩,
   ⟨(some 19), none, .ld (.tmp 18) (some 1)⟩,
   ⟨(some 5), none, .alloc [.nil 1]⟩,
   ⟨none, none, .st (.tmp 5) (.tmp 19) 1⟩]
@[simp] def hist_Complete_t5 : VT :=
  .op ⟨(some 20), none, .fa 0 (.tmp 3)⟩ <|
  .op ⟨(some 22), none, .fa 0 (.tmp 5)⟩ <|
  .op ⟨(some 23), none, .ld (.tmp 22) none⟩ <|
  .alt (
   .op ⟨(some 21), none, .ld (.tmp 20) none⟩ <|
   .op ⟨(some 24), none, .call n_slices_Clone_bool_bool [(.tmp 23)]⟩ <|
   .op ⟨(some 25), none, .build [.nil 1] [(0, 1, (.tmp 24))]⟩ <|
   .op ⟨(some 26), none, .lit 1 1 [(0, (.tmp 25))]⟩ <|
   .op ⟨(some 27), none, .app 1 24 (.tmp 21) (.tmp 26)⟩ <|
   .op ⟨(some 28), none, .fa 0 (.tmp 3)⟩ <|
   .op ⟨none, none, .st (.tmp 28) (.tmp 27) 1⟩ <|
   .done) (
   .op ⟨(some 24), none, .call n_slices_Clone_bool_bool [(.tmp 23)]⟩ <|
   .op ⟨(some 21), none, .ld (.tmp 20) none⟩ <|
   .op ⟨(some 25), none, .build [.nil 1] [(0, 1, (.tmp 24))]⟩ <|
   .op ⟨(some 26), none, .lit 1 1 [(0, (.tmp 25))]⟩ <|
   .op ⟨(some 27), none, .app 1 24 (.tmp 21) (.tmp 26)⟩ <|
   .op ⟨(some 28), none, .fa 0 (.tmp 3)⟩ <|
   .op ⟨none, none, .st (.tmp 28) (.tmp 27) 1⟩ <|
   .done)
@[simp] def hist_Complete_r6 : List VOp :=
  [⟨(some 29), none, .bin .add (.tmp 16) (.const (.int .i64 1))⟩,
   ⟨(some 16), none, .mov (.tmp 29)⟩]
def hist_Complete_l7 : VCode :=
  (.seq (.reg hist_Complete_r3) (.seq (.cond (.tmp 17) .skip (.exit 0)) (.seq (.block 1 (.seq (.reg hist_Complete_r4) (.any hist_Complete_t5))) (.reg hist_Complete_r6))))
@[simp] def hist_Complete_r8 : List VOp :=
  [⟨(some 30), none, .fa 2 (.tmp 1)⟩,
   ⟨(some 31), none, .ld (.tmp 30) none⟩,
   ⟨(some 32), none, .len (.tmp 31)⟩,
   ⟨(some 33), none, .mov (.const (.int .i64 0))⟩]
@[simp] def hist_Complete_r9 : List VOp :=
  [⟨(some 34), none, .bin .lss (.tmp 33) (.tmp 32)⟩]
@[simp] def hist_Complete_r10 : List VOp :=
  [⟨(some 35), none, .ia 5 (.tmp 31) (.tmp 33)⟩,
   ⟨(some 36), none, .ld (.tmp 35) (some 5)⟩,
   ⟨(some 7), none, .alloc [.iv (.v (.int .i64 0)), .iv (.v (.bool false)), .iv (.v (.int .i64 0)), .iv (.v (.string ⟨#[]⟩)), .nil 1]⟩,
   ⟨none, none, .st (.tmp 7) (.tmp 36) 5⟩]
@[simp] def hist_Complete_r11 : List VOp :=
  [⟨(some 37), none, .fa 4 (.tmp 7)⟩,
   ⟨(some 38), none, .ld (.tmp 37) none⟩,
   ⟨(some 39), none, .call n_slices_Clone_int_int [(.tmp 38)]⟩,
   ⟨(some 40), none, .fa 4 (.tmp 7)⟩,
   ⟨none, none, .st (.tmp 40) (.tmp 39) 1⟩]
@[simp] def hist_Complete_r12 : List VOp :=
  [⟨(some 41), none, .fa 2 (.tmp 3)⟩,
   ⟨(some 42), none, .ld (.tmp 41) none⟩,
   ⟨(some 43), none, .ld (.tmp 7) (some 5)⟩,
   ⟨(some 44), none, .lit 5 1 [(0, (.tmp 43))]⟩,
   ⟨(some 45), none, .app 5 64 (.tmp 42) (.tmp 44)⟩,
   ⟨(some 46), none, .fa 2 (.tmp 3)⟩,
   ⟨none, none, .st (.tmp 46) (.tmp 45) 1⟩]
@[simp] def hist_Complete_r13 : List VOp :=
  [⟨(some 47), none, .bin .add (.tmp 33) (.const (.int .i64 1))⟩,
   ⟨(some 33), none, .mov (.tmp 47)⟩]
def hist_Complete_l14 : VCode :=
  (.seq (.reg hist_Complete_r9) (.seq (.cond (.tmp 34) .skip (.exit 2)) (.seq (.block 3 (.seq (.reg hist_Complete_r10) (.seq (.reg hist_Complete_r11) (.reg hist_Complete_r12)))) (.reg hist_Complete_r13))))
@[simp] def hist_Complete_r15 : List VOp :=
  [⟨(some 48), none, .mkmap (false, [.i .i64], false)⟩,
   ⟨(some 8), none, .mov (.tmp 48)⟩]
@[simp] def hist_Complete_r16 : List VOp :=
  [⟨(some 49), none, .fa 1 (.tmp 1)⟩,
   ⟨(some 50), none, .ld (.tmp 49) none⟩,
   ⟨(some 51), none, .len (.tmp 50)⟩,
   ⟨(some 52), none, .mov (.const (.int .i64 0))⟩]
@[simp] def hist_Complete_r17 : List VOp :=
  [⟨(some 53), none, .bin .lss (.tmp 52) (.tmp 51)⟩]
@[simp] def hist_Complete_r18 : List VOp :=
  [⟨(some 54), none, .ia 22 (.tmp 50) (.tmp 52)⟩,
   ⟨(some 55), none, .ld (.tmp 54) (some 22)⟩,
   ⟨(some 10), none, .alloc [.iv (.v (.int .i64 0)), .iv (.v (.int .i64 0)), .iv (.v (.int .i64 0)), .iv (.v (.int .i64 0)), .iv (.v (.bool false)), .iv (.v (.int .i64 0)), .iv (.v (.string ⟨#[]⟩)), .iv (.v (.int .i64 0)), .iv (.v (.int .i64 0)), .iv (.v (.int .i64 0)), .nil 3, .iv (.v (.int .i64 0)), .iv (.v (.int .i64 0)), .iv (.v (.bool false)), .iv (.v (.int .i64 0)), .iv (.v (.string ⟨#[]⟩)), .iv (.v (.bool false)), .iv (.v (.int .i64 0)), .iv (.v (.string ⟨#[]⟩)), .nil 9, .nil 5, .iv (.v (.bool false))]⟩,
   ⟨none, none, .st (.tmp 10) (.tmp 55) 22⟩]
@[simp] def hist_Complete_t19 : VT :=
  .op ⟨(some 56), none, .fa 10 (.tmp 10)⟩ <|
  .op ⟨(some 57), none, .ld (.tmp 56) none⟩ <|
  .op ⟨(some 59), none, .fa 20 (.tmp 10)⟩ <|
  .op ⟨(some 62), none, .fa 11 (.tmp 10)⟩ <|
  .alt (
   .op ⟨(some 58), none, .call n_row_Clone [(.tmp 57)]⟩ <|
   .op ⟨(some 60), none, .ld (.tmp 59) none⟩ <|
   .alt (
    .op ⟨(some 61), none, .call n_slices_Clone_api_Ref_api_Ref [(.tmp 60)]⟩ <|
    .op ⟨(some 63), none, .ld (.tmp 62) (some 9)⟩ <|
    .op ⟨(some 65), none, .fa 10 (.tmp 10)⟩ <|
    .op ⟨(some 64), none, .call n_pred_Clone [(.tmp 63)]⟩ <|
    .op ⟨none, none, .st (.tmp 65) (.tmp 58) 1⟩ <|
    .op ⟨(some 66), none, .fa 20 (.tmp 10)⟩ <|
    .op ⟨none, none, .st (.tmp 66) (.tmp 61) 1⟩ <|
    .op ⟨(some 67), none, .fa 11 (.tmp 10)⟩ <|
    .op ⟨none, none, .st (.tmp 67) (.tmp 64) 9⟩ <|
    .done) (
    .op ⟨(some 63), none, .ld (.tmp 62) (some 9)⟩ <|
    .op ⟨(some 65), none, .fa 10 (.tmp 10)⟩ <|
    .op ⟨(some 61), none, .call n_slices_Clone_api_Ref_api_Ref [(.tmp 60)]⟩ <|
    .op ⟨(some 64), none, .call n_pred_Clone [(.tmp 63)]⟩ <|
    .op ⟨none, none, .st (.tmp 65) (.tmp 58) 1⟩ <|
    .op ⟨(some 66), none, .fa 20 (.tmp 10)⟩ <|
    .op ⟨none, none, .st (.tmp 66) (.tmp 61) 1⟩ <|
    .op ⟨(some 67), none, .fa 11 (.tmp 10)⟩ <|
    .op ⟨none, none, .st (.tmp 67) (.tmp 64) 9⟩ <|
    .done)) (
   .alt (
    .op ⟨(some 60), none, .ld (.tmp 59) none⟩ <|
    .alt (
     .op ⟨(some 58), none, .call n_row_Clone [(.tmp 57)]⟩ <|
     .alt (
      .op ⟨(some 61), none, .call n_slices_Clone_api_Ref_api_Ref [(.tmp 60)]⟩ <|
      .op ⟨(some 63), none, .ld (.tmp 62) (some 9)⟩ <|
      .op ⟨(some 65), none, .fa 10 (.tmp 10)⟩ <|
      .op ⟨(some 64), none, .call n_pred_Clone [(.tmp 63)]⟩ <|
      .op ⟨none, none, .st (.tmp 65) (.tmp 58) 1⟩ <|
      .op ⟨(some 66), none, .fa 20 (.tmp 10)⟩ <|
      .op ⟨none, none, .st (.tmp 66) (.tmp 61) 1⟩ <|
      .op ⟨(some 67), none, .fa 11 (.tmp 10)⟩ <|
      .op ⟨none, none, .st (.tmp 67) (.tmp 64) 9⟩ <|
      .done) (
      .op ⟨(some 63), none, .ld (.tmp 62) (some 9)⟩ <|
      .op ⟨(some 65), none, .fa 10 (.tmp 10)⟩ <|
      .op ⟨(some 61), none, .call n_slices_Clone_api_Ref_api_Ref [(.tmp 60)]⟩ <|
      .op ⟨(some 64), none, .call n_pred_Clone [(.tmp 63)]⟩ <|
      .op ⟨none, none, .st (.tmp 65) (.tmp 58) 1⟩ <|
      .op ⟨(some 66), none, .fa 20 (.tmp 10)⟩ <|
      .op ⟨none, none, .st (.tmp 66) (.tmp 61) 1⟩ <|
      .op ⟨(some 67), none, .fa 11 (.tmp 10)⟩ <|
      .op ⟨none, none, .st (.tmp 67) (.tmp 64) 9⟩ <|
      .done)) (
     .op ⟨(some 63), none, .ld (.tmp 62) (some 9)⟩ <|
     .op ⟨(some 58), none, .call n_row_Clone [(.tmp 57)]⟩ <|
     .op ⟨(some 65), none, .fa 10 (.tmp 10)⟩ <|
     .op ⟨(some 61), none, .call n_slices_Clone_api_Ref_api_Ref [(.tmp 60)]⟩ <|
     .op ⟨(some 64), none, .call n_pred_Clone [(.tmp 63)]⟩ <|
     .op ⟨none, none, .st (.tmp 65) (.tmp 58) 1⟩ <|
     .op ⟨(some 66), none, .fa 20 (.tmp 10)⟩ <|
     .op ⟨none, none, .st (.tmp 66) (.tmp 61) 1⟩ <|
     .op ⟨(some 67), none, .fa 11 (.tmp 10)⟩ <|
     .op ⟨none, none, .st (.tmp 67) (.tmp 64) 9⟩ <|
     .done)) (
    .op ⟨(some 63), none, .ld (.tmp 62) (some 9)⟩ <|
    .alt (
     .op ⟨(some 58), none, .call n_row_Clone [(.tmp 57)]⟩ <|
     .op ⟨(some 60), none, .ld (.tmp 59) none⟩ <|
     .op ⟨(some 65), none, .fa 10 (.tmp 10)⟩ <|
     .op ⟨(some 61), none, .call n_slices_Clone_api_Ref_api_Ref [(.tmp 60)]⟩ <|
     .op ⟨(some 64), none, .call n_pred_Clone [(.tmp 63)]⟩ <|
     .op ⟨none, none, .st (.tmp 65) (.tmp 58) 1⟩ <|
     .op ⟨(some 66), none, .fa 20 (.tmp 10)⟩ <|
     .op ⟨none, none, .st (.tmp 66) (.tmp 61) 1⟩ <|
     .op ⟨(some 67), none, .fa 11 (.tmp 10)⟩ <|
     .op ⟨none, none, .st (.tmp 67) (.tmp 64) 9⟩ <|
     .done) (
     .op ⟨(some 60), none, .ld (.tmp 59) none⟩ <|
     .op ⟨(some 58), none, .call n_row_Clone [(.tmp 57)]⟩ <|
     .op ⟨(some 65), none, .fa 10 (.tmp 10)⟩ <|
     .op ⟨(some 61), none, .call n_slices_Clone_api_Ref_api_Ref [(.tmp 60)]⟩ <|
     .op ⟨(some 64), none, .call n_pred_Clone [(.tmp 63)]⟩ <|
     .op ⟨none, none, .st (.tmp 65) (.tmp 58) 1⟩ <|
     .op ⟨(some 66), none, .fa 20 (.tmp 10)⟩ <|
     .op ⟨none, none, .st (.tmp 66) (.tmp 61) 1⟩ <|
     .op ⟨(some 67), none, .fa 11 (.tmp 10)⟩ <|
     .op ⟨none, none, .st (.tmp 67) (.tmp 64) 9⟩ <|
     .done)))
@[simp] def hist_Complete_r20 : List VOp :=
  [⟨(some 68), none, .fa 1 (.tmp 3)⟩,
   ⟨(some 69), none, .ld (.tmp 68) none⟩,
   ⟨(some 70), none, .ld (.tmp 10) (some 22)⟩,
   ⟨(some 71), none, .lit 22 1 [(0, (.tmp 70))]⟩,
   ⟨(some 72), none, .app 22 248 (.tmp 69) (.tmp 71)⟩,
   ⟨(some 73), none, .fa 1 (.tmp 3)⟩,
   ⟨none, none, .st (.tmp 73) (.tmp 72) 1⟩]
@[simp] def hist_Complete_r21 : List VOp :=
  [⟨(some 74), none, .fa 1 (.tmp 10)⟩,
   ⟨(some 75), none, .ld (.tmp 74) none⟩,
   ⟨(some 76), none, .bin .eql (.tmp 75) (.const (.int .i64 1))⟩,
   ⟨(some 77), none, .mov (.tmp 76)⟩,
   ⟨(some 78), (some (77, true)), .ld (.tmp 1) (some 3)⟩,
   ⟨(some 79), (some (77, true)), .fa 0 (.tmp 10)⟩,
   ⟨(some 80), (some (77, true)), .ld (.tmp 79) none⟩,
   ⟨(some 81), (some (77, true)), .call n_hist_Ended [(.tmp 78), (.tmp 80)]⟩,
   ⟨(some 82), (some (77, true)), .bin .eql (.tmp 81) (.const (.int .i64 0))⟩,
   ⟨(some 83), none, .pick (.tmp 77) (.tmp 82) (.const (.bool false))⟩]
@[simp] def hist_Complete_r22 : List VOp :=
  [⟨(some 84), none, .mov (.tmp 8)⟩,
   ⟨(some 85), none, .fa 0 (.tmp 10)⟩,
   ⟨(some 86), none, .ld (.tmp 85) none⟩,
   ⟨none, none, .mset (false, [.i .i64], false) (.tmp 84) (.tmp 86) (.const (.int .i64 1))⟩]
@[simp] def hist_Complete_r23 : List VOp :=
  [⟨(some 87), none, .bin .add (.tmp 52) (.const (.int .i64 1))⟩,
   ⟨(some 52), none, .mov (.tmp 87)⟩]
def hist_Complete_l24 : VCode :=
  (.seq (.reg hist_Complete_r17) (.seq (.cond (.tmp 53) .skip (.exit 4)) (.seq (.block 5 (.seq (.reg hist_Complete_r18) (.seq (.any hist_Complete_t19) (.seq (.reg hist_Complete_r20) (.seq (.reg hist_Complete_r21) (.cond (.tmp 83) (.reg hist_Complete_r22) .skip)))))) (.reg hist_Complete_r23))))
@[simp] def hist_Complete_r25 : List VOp :=
  [⟨(some 88), none, .mov (.tmp 8)⟩,
   ⟨(some 89), none, .call n_maps_Keys_map_int_int_int_int [(.tmp 88)]⟩,
   ⟨(some 90), none, .call n_slices_Sorted_int [(.tmp 89)]⟩,
   ⟨(some 91), none, .len (.tmp 90)⟩,
   ⟨(some 92), none, .mov (.const (.int .i64 0))⟩]
@[simp] def hist_Complete_r26 : List VOp :=
  [⟨(some 93), none, .bin .lss (.tmp 92) (.tmp 91)⟩]
@[simp] def hist_Complete_r27 : List VOp :=
  [⟨(some 94), none, .ia 1 (.tmp 90) (.tmp 92)⟩,
   ⟨(some 95), none, .ld (.tmp 94) none⟩,
   ⟨(some 12), none, .mov (.tmp 95)⟩]
@[simp] def hist_Complete_r28 : List VOp :=
  [⟨(some 96), none, .fa 1 (.tmp 3)⟩,
   ⟨(some 97), none, .ld (.tmp 96) none⟩,
   ⟨(some 98), none, .mov (.tmp 12)⟩,
   ⟨(some 99), none, .build [.iv (.v (.int .i64 0)), .iv (.v (.int .i64 0)), .iv (.v (.int .i64 0)), .iv (.v (.int .i64 0)), .iv (.v (.bool false)), .iv (.v (.int .i64 0)), .iv (.v (.string ⟨#[]⟩)), .iv (.v (.int .i64 0)), .iv (.v (.int .i64 0)), .iv (.v (.int .i64 0)), .nil 3, .iv (.v (.int .i64 0)), .iv (.v (.int .i64 0)), .iv (.v (.bool false)), .iv (.v (.int .i64 0)), .iv (.v (.string ⟨#[]⟩)), .iv (.v (.bool false)), .iv (.v (.int .i64 0)), .iv (.v (.string ⟨#[]⟩)), .nil 9, .nil 5, .iv (.v (.bool false))] [(0, 1, (.tmp 98)), (1, 1, (.const (.int .i64 6)))]⟩,
   ⟨(some 100), none, .lit 22 1 [(0, (.tmp 99))]⟩,
   ⟨(some 101), none, .app 22 248 (.tmp 97) (.tmp 100)⟩,
   ⟨(some 102), none, .fa 1 (.tmp 3)⟩,
   ⟨none, none, .st (.tmp 102) (.tmp 101) 1⟩]
@[simp] def hist_Complete_r29 : List VOp :=
  [⟨(some 103), none, .bin .add (.tmp 92) (.const (.int .i64 1))⟩,
   ⟨(some 92), none, .mov (.tmp 103)⟩]
def hist_Complete_l30 : VCode :=
  (.seq (.reg hist_Complete_r26) (.seq (.cond (.tmp 93) .skip (.exit 6)) (.seq (.block 7 (.seq (.reg hist_Complete_r27) (.reg hist_Complete_r28))) (.reg hist_Complete_r29))))
@[simp] def hist_Complete_r31 : List VOp :=
  [⟨(some 104), none, .ld (.tmp 3) (some 3)⟩,
   ⟨none, none, .st (.tmp 2) (.tmp 104) 3⟩]
def hist_Complete : VCode := (.seq (.reg hist_Complete_r0) (.seq (.reg hist_Complete_r1) (.seq (.seq (.reg hist_Complete_r2) (.block 0 (.loop hist_Complete_l7))) (.seq (.seq (.reg hist_Complete_r8) (.block 2 (.loop hist_Complete_l14))) (.seq (.reg hist_Complete_r15) (.seq (.seq (.reg hist_Complete_r16) (.block 4 (.loop hist_Complete_l24))) (.seq (.seq (.reg hist_Complete_r25) (.block 6 (.loop hist_Complete_l30))) (.seq (.reg hist_Complete_r31) .ret))))))))
theorem hist_Complete_is : fnV prog n_hist_Complete = some (105, hist_Complete, [.cell 2 (some 3)]) := by kernel_rfl

/- ratlineref18_Same -/
@[simp] def ratlineref18_Same_r0 : List VOp :=
  [⟨(some 2), none, .box (.tmp 0)⟩,
   ⟨(some 3), none, .box (.tmp 1)⟩,
   ⟨(some 4), none, .mov (.const (.bool false))⟩]
@[simp] def ratlineref18_Same_r1 : List VOp :=
  [⟨(some 15), none, .fa 0 (.tmp 2)⟩,
   ⟨(some 16), none, .ld (.tmp 15) none⟩,
   ⟨(some 17), none, .len (.tmp 16)⟩,
   ⟨(some 18), none, .fa 0 (.tmp 3)⟩,
   ⟨(some 19), none, .ld (.tmp 18) none⟩,
   ⟨(some 20), none, .len (.tmp 19)⟩,
   ⟨(some 21), none, .bin .neq (.tmp 17) (.tmp 20)⟩,
   ⟨(some 22), none, .mov (.tmp 21)⟩,
   ⟨(some 23), (some (22, false)), .fa 1 (.tmp 2)⟩,
   ⟨(some 24), (some (22, false)), .ld (.tmp 23) none⟩,
   ⟨(some 25), (some (22, false)), .len (.tmp 24)⟩,
   ⟨(some 26), (some (22, false)), .fa 1 (.tmp 3)⟩,
   ⟨(some 27), (some (22, false)), .ld (.tmp 26) none⟩,
   ⟨(some 28), (some (22, false)), .len (.tmp 27)⟩,
   ⟨(some 29), (some (22, false)), .bin .neq (.tmp 25) (.tmp 28)⟩,
   ⟨(some 30), none, .pick (.tmp 22) (.const (.bool true)) (.tmp 29)⟩,
   ⟨(some 31), none, .mov (.tmp 30)⟩,
   ⟨(some 32), (some (31, false)), .fa 2 (.tmp 2)⟩,
   ⟨(some 33), (some (31, false)), .ld (.tmp 32) none⟩,
   ⟨(some 34), (some (31, false)), .len (.tmp 33)⟩,
   ⟨(some 35), (some (31, false)), .fa 2 (.tmp 3)⟩,
   ⟨(some 36), (some (31, false)), .ld (.tmp 35) none⟩,
   ⟨(some 37), (some (31, false)), .len (.tmp 36)⟩,
   ⟨(some 38), (some (31, false)), .bin .neq (.tmp 34) (.tmp 37)⟩,
   ⟨(some 39), none, .pick (.tmp 31) (.const (.bool true)) (.tmp 38)⟩]
@[simp] def ratlineref18_Same_r2 : List VOp :=
  [⟨(some 4), none, .mov (.const (.bool false))⟩]
@[simp] def ratlineref18_Same_r3 : List VOp :=
  [⟨(some 5), none, .mov (.const (.int .i64 0))⟩]
@[simp] def ratlineref18_Same_r4 : List VOp :=
  [⟨(some 40), none, .mov (.tmp 5)⟩,
   ⟨(some 41), none, .fa 0 (.tmp 2)⟩,
   ⟨(some 42), none, .ld (.tmp 41) none⟩,
   ⟨(some 43), none, .len (.tmp 42)⟩,
   ⟨(some 44), none, .bin .lss (.tmp 40) (.tmp 43)⟩]
@[simp] def ratlineref18_Same_r5 : List VOp :=
  [⟨(some 47), none, .fa 0 (.tmp 2)⟩,
   ⟨(some 48), none, .ld (.tmp 47) none⟩,
   ⟨(some 49), none, .mov (.tmp 5)⟩,
   ⟨(some 50), none, .ia 1 (.tmp 48) (.tmp 49)⟩,
   ⟨(some 51), none, .fa 0 (.tmp 50)⟩,
   ⟨(some 52), none, .ld (.tmp 51) none⟩,
   ⟨(some 6), none, .mov (.tmp 52)⟩]
@[simp] def ratlineref18_Same_r6 : List VOp :=
  [⟨(some 53), none, .fa 0 (.tmp 3)⟩,
   ⟨(some 54), none, .ld (.tmp 53) none⟩,
   ⟨(some 55), none, .mov (.tmp 5)⟩,
   ⟨(some 56), none, .ia 1 (.tmp 54) (.tmp 55)⟩,
   ⟨(some 57), none, .fa 0 (.tmp 56)⟩,
   ⟨(some 58), none, .ld (.tmp 57) none⟩,
   ⟨(some 7), none, .mov (.tmp 58)⟩]
@[simp] def ratlineref18_Same_r7 : List VOp :=
  [⟨(some 59), none, .mov (.tmp 6)⟩,
   ⟨(some 60), none, .len (.tmp 59)⟩,
   ⟨(some 61), none, .mov (.tmp 7)⟩,
   ⟨(some 62), none, .len (.tmp 61)⟩,
   ⟨(some 63), none, .bin .neq (.tmp 60) (.tmp 62)⟩]
@[simp] def ratlineref18_Same_r8 : List VOp :=
  [⟨(some 4), none, .mov (.const (.bool false))⟩]
@[simp] def ratlineref18_Same_r9 : List VOp :=
  [⟨(some 8), none, .mov (.const (.int .i64 0))⟩]
@[simp] def ratlineref18_Same_r10 : List VOp :=
  [⟨(some 64), none, .mov (.tmp 8)⟩,
   ⟨(some 65), none, .mov (.tmp 6)⟩,
   ⟨(some 66), none, .len (.tmp 65)⟩,
   ⟨(some 67), none, .bin .lss (.tmp 64) (.tmp 66)⟩]
@[simp] def ratlineref18_Same_t11 : VT :=
  .op ⟨(some 70), none, .mov (.tmp 6)⟩ <|
  .op ⟨(some 71), none, .mov (.tmp 8)⟩ <|
  .op ⟨(some 72), none, .ia 1 (.tmp 70) (.tmp 71)⟩ <|
  .op ⟨(some 73), none, .ld (.tmp 72) none⟩ <|
  .op ⟨(some 74), none, .mov (.tmp 7)⟩ <|
  .op ⟨(some 75), none, .mov (.tmp 8)⟩ <|
  .op ⟨(some 76), none, .ia 1 (.tmp 74) (.tmp 75)⟩ <|
  .op ⟨(some 77), none, .ld (.tmp 76) none⟩ <|
  .op ⟨(some 78), none, .beq true (.tmp 73) (.tmp 77)⟩ <|
  .done
@[simp] def ratlineref18_Same_r12 : List VOp :=
  [⟨(some 4), none, .mov (.const (.bool false))⟩]
@[simp] def ratlineref18_Same_r13 : List VOp :=
  [⟨(some 68), none, .mov (.tmp 8)⟩,
   ⟨(some 69), none, .bin .add (.tmp 68) (.const (.int .i64 1))⟩,
   ⟨(some 8), none, .mov (.tmp 69)⟩]
def ratlineref18_Same_l14 : VCode :=
  (.seq (.seq (.reg ratlineref18_Same_r10) (.cond (.tmp 67) .skip (.exit 2))) (.seq (.block 3 (.seq (.any ratlineref18_Same_t11) (.cond (.tmp 78) (.seq (.reg ratlineref18_Same_r12) .ret) .skip))) (.reg ratlineref18_Same_r13)))
@[simp] def ratlineref18_Same_r15 : List VOp :=
  [⟨(some 45), none, .mov (.tmp 5)⟩,
   ⟨(some 46), none, .bin .add (.tmp 45) (.const (.int .i64 1))⟩,
   ⟨(some 5), none, .mov (.tmp 46)⟩]
def ratlineref18_Same_l16 : VCode :=
  (.seq (.seq (.reg ratlineref18_Same_r4) (.cond (.tmp 44) .skip (.exit 0))) (.seq (.block 1 (.seq (.reg ratlineref18_Same_r5) (.seq (.reg ratlineref18_Same_r6) (.seq (.seq (.reg ratlineref18_Same_r7) (.cond (.tmp 63) (.seq (.reg ratlineref18_Same_r8) .ret) .skip)) (.seq (.reg ratlineref18_Same_r9) (.block 2 (.loop ratlineref18_Same_l14))))))) (.reg ratlineref18_Same_r15)))
@[simp] def ratlineref18_Same_r17 : List VOp :=
  [⟨(some 9), none, .mov (.const (.int .i64 0))⟩]
@[simp] def ratlineref18_Same_r18 : List VOp :=
  [⟨(some 79), none, .mov (.tmp 9)⟩,
   ⟨(some 80), none, .fa 1 (.tmp 2)⟩,
   ⟨(some 81), none, .ld (.tmp 80) none⟩,
   ⟨(some 82), none, .len (.tmp 81)⟩,
   ⟨(some 83), none, .bin .lss (.tmp 79) (.tmp 82)⟩]
@[simp] def ratlineref18_Same_t19 : VT :=
  .op ⟨(some 86), none, .fa 1 (.tmp 2)⟩ <|
  .op ⟨(some 87), none, .ld (.tmp 86) none⟩ <|
  .op ⟨(some 88), none, .mov (.tmp 9)⟩ <|
  .op ⟨(some 89), none, .ia 22 (.tmp 87) (.tmp 88)⟩ <|
  .op ⟨(some 90), none, .ld (.tmp 89) (some 22)⟩ <|
  .op ⟨(some 91), none, .fa 1 (.tmp 3)⟩ <|
  .op ⟨(some 92), none, .ld (.tmp 91) none⟩ <|
  .op ⟨(some 93), none, .mov (.tmp 9)⟩ <|
  .op ⟨(some 94), none, .ia 22 (.tmp 92) (.tmp 93)⟩ <|
  .op ⟨(some 95), none, .ld (.tmp 94) (some 22)⟩ <|
  .op ⟨(some 96), none, .call n_ratlineref18_Event [(.tmp 90), (.tmp 95)]⟩ <|
  .op ⟨(some 10), none, .mov (.tmp 96)⟩ <|
  .done
@[simp] def ratlineref18_Same_r20 : List VOp :=
  [⟨(some 97), none, .mov (.tmp 10)⟩,
   ⟨(some 98), none, .un .not (.tmp 97)⟩]
@[simp] def ratlineref18_Same_r21 : List VOp :=
  [⟨(some 4), none, .mov (.const (.bool false))⟩]
@[simp] def ratlineref18_Same_r22 : List VOp :=
  [⟨(some 84), none, .mov (.tmp 9)⟩,
   ⟨(some 85), none, .bin .add (.tmp 84) (.const (.int .i64 1))⟩,
   ⟨(some 9), none, .mov (.tmp 85)⟩]
def ratlineref18_Same_l23 : VCode :=
  (.seq (.seq (.reg ratlineref18_Same_r18) (.cond (.tmp 83) .skip (.exit 4))) (.seq (.block 5 (.seq (.any ratlineref18_Same_t19) (.seq (.reg ratlineref18_Same_r20) (.cond (.tmp 98) (.seq (.reg ratlineref18_Same_r21) .ret) .skip)))) (.reg ratlineref18_Same_r22)))
@[simp] def ratlineref18_Same_r24 : List VOp :=
  [⟨(some 11), none, .mov (.const (.int .i64 0))⟩]
@[simp] def ratlineref18_Same_r25 : List VOp :=
  [⟨(some 99), none, .mov (.tmp 11)⟩,
   ⟨(some 100), none, .fa 2 (.tmp 2)⟩,
   ⟨(some 101), none, .ld (.tmp 100) none⟩,
   ⟨(some 102), none, .len (.tmp 101)⟩,
   ⟨(some 103), none, .bin .lss (.tmp 99) (.tmp 102)⟩]
@[simp] def ratlineref18_Same_r26 : List VOp :=
  [⟨(some 106), none, .fa 2 (.tmp 2)⟩,
   ⟨(some 107), none, .ld (.tmp 106) none⟩,
   ⟨(some 108), none, .mov (.tmp 11)⟩,
   ⟨(some 109), none, .ia 5 (.tmp 107) (.tmp 108)⟩,
   ⟨(some 110), none, .ld (.tmp 109) (some 5)⟩,
   ⟨(some 12), none, .alloc [.iv (.v (.int .i64 0)), .iv (.v (.bool false)), .iv (.v (.int .i64 0)), .iv (.v (.string ⟨#[]⟩)), .nil 1]⟩,
   ⟨none, none, .st (.tmp 12) (.tmp 110) 5⟩]
@[simp] def ratlineref18_Same_r27 : List VOp :=
  [⟨(some 111), none, .fa 2 (.tmp 3)⟩,
   ⟨(some 112), none, .ld (.tmp 111) none⟩,
   ⟨(some 113), none, .mov (.tmp 11)⟩,
   ⟨(some 114), none, .ia 5 (.tmp 112) (.tmp 113)⟩,
   ⟨(some 115), none, .ld (.tmp 114) (some 5)⟩,
   ⟨(some 13), none, .alloc [.iv (.v (.int .i64 0)), .iv (.v (.bool false)), .iv (.v (.int .i64 0)), .iv (.v (.string ⟨#[]⟩)), .nil 1]⟩,
   ⟨none, none, .st (.tmp 13) (.tmp 115) 5⟩]
@[simp] def ratlineref18_Same_r28 : List VOp :=
  [⟨(some 116), none, .fa 0 (.tmp 12)⟩,
   ⟨(some 117), none, .ld (.tmp 116) none⟩,
   ⟨(some 118), none, .fa 0 (.tmp 13)⟩,
   ⟨(some 119), none, .ld (.tmp 118) none⟩,
   ⟨(some 120), none, .bin .neq (.tmp 117) (.tmp 119)⟩,
   ⟨(some 121), none, .mov (.tmp 120)⟩,
   ⟨(some 122), (some (121, false)), .fa 1 (.tmp 12)⟩,
   ⟨(some 123), (some (121, false)), .ld (.tmp 122) (some 3)⟩,
   ⟨(some 124), (some (121, false)), .fa 1 (.tmp 13)⟩,
   ⟨(some 125), (some (121, false)), .ld (.tmp 124) (some 3)⟩,
   ⟨(some 126), (some (121, false)), .eqs true [.b, .i .i64, .s] (.tmp 123) (.tmp 125)⟩,
   ⟨(some 127), none, .pick (.tmp 121) (.const (.bool true)) (.tmp 126)⟩,
   ⟨(some 128), none, .mov (.tmp 127)⟩,
   ⟨(some 129), (some (128, false)), .fa 4 (.tmp 12)⟩,
   ⟨(some 130), (some (128, false)), .ld (.tmp 129) none⟩,
   ⟨(some 131), (some (128, false)), .len (.tmp 130)⟩,
   ⟨(some 132), (some (128, false)), .fa 4 (.tmp 13)⟩,
   ⟨(some 133), (some (128, false)), .ld (.tmp 132) none⟩,
   ⟨(some 134), (some (128, false)), .len (.tmp 133)⟩,
   ⟨(some 135), (some (128, false)), .bin .neq (.tmp 131) (.tmp 134)⟩,
   ⟨(some 136), none, .pick (.tmp 128) (.const (.bool true)) (.tmp 135)⟩]
@[simp] def ratlineref18_Same_r29 : List VOp :=
  [⟨(some 4), none, .mov (.const (.bool false))⟩]
@[simp] def ratlineref18_Same_r30 : List VOp :=
  [⟨(some 14), none, .mov (.const (.int .i64 0))⟩]
@[simp] def ratlineref18_Same_r31 : List VOp :=
  [⟨(some 137), none, .mov (.tmp 14)⟩,
   ⟨(some 138), none, .fa 4 (.tmp 12)⟩,
   ⟨(some 139), none, .ld (.tmp 138) none⟩,
   ⟨(some 140), none, .len (.tmp 139)⟩,
   ⟨(some 141), none, .bin .lss (.tmp 137) (.tmp 140)⟩]
@[simp] def ratlineref18_Same_t32 : VT :=
  .op ⟨(some 144), none, .fa 4 (.tmp 12)⟩ <|
  .op ⟨(some 145), none, .ld (.tmp 144) none⟩ <|
  .op ⟨(some 146), none, .mov (.tmp 14)⟩ <|
  .op ⟨(some 147), none, .ia 1 (.tmp 145) (.tmp 146)⟩ <|
  .op ⟨(some 148), none, .ld (.tmp 147) none⟩ <|
  .op ⟨(some 149), none, .fa 4 (.tmp 13)⟩ <|
  .op ⟨(some 150), none, .ld (.tmp 149) none⟩ <|
  .op ⟨(some 151), none, .mov (.tmp 14)⟩ <|
  .op ⟨(some 152), none, .ia 1 (.tmp 150) (.tmp 151)⟩ <|
  .op ⟨(some 153), none, .ld (.tmp 152) none⟩ <|
  .op ⟨(some 154), none, .bin .neq (.tmp 148) (.tmp 153)⟩ <|
  .done
@[simp] def ratlineref18_Same_r33 : List VOp :=
  [⟨(some 4), none, .mov (.const (.bool false))⟩]
@[simp] def ratlineref18_Same_r34 : List VOp :=
  [⟨(some 142), none, .mov (.tmp 14)⟩,
   ⟨(some 143), none, .bin .add (.tmp 142) (.const (.int .i64 1))⟩,
   ⟨(some 14), none, .mov (.tmp 143)⟩]
def ratlineref18_Same_l35 : VCode :=
  (.seq (.seq (.reg ratlineref18_Same_r31) (.cond (.tmp 141) .skip (.exit 8))) (.seq (.block 9 (.seq (.any ratlineref18_Same_t32) (.cond (.tmp 154) (.seq (.reg ratlineref18_Same_r33) .ret) .skip))) (.reg ratlineref18_Same_r34)))
@[simp] def ratlineref18_Same_r36 : List VOp :=
  [⟨(some 104), none, .mov (.tmp 11)⟩,
   ⟨(some 105), none, .bin .add (.tmp 104) (.const (.int .i64 1))⟩,
   ⟨(some 11), none, .mov (.tmp 105)⟩]
def ratlineref18_Same_l37 : VCode :=
  (.seq (.seq (.reg ratlineref18_Same_r25) (.cond (.tmp 103) .skip (.exit 6))) (.seq (.block 7 (.seq (.reg ratlineref18_Same_r26) (.seq (.reg ratlineref18_Same_r27) (.seq (.seq (.reg ratlineref18_Same_r28) (.cond (.tmp 136) (.seq (.reg ratlineref18_Same_r29) .ret) .skip)) (.seq (.reg ratlineref18_Same_r30) (.block 8 (.loop ratlineref18_Same_l35))))))) (.reg ratlineref18_Same_r36)))
@[simp] def ratlineref18_Same_r38 : List VOp :=
  [⟨(some 4), none, .mov (.const (.bool true))⟩]
def ratlineref18_Same : VCode := (.seq (.reg ratlineref18_Same_r0) (.seq (.seq (.reg ratlineref18_Same_r1) (.cond (.tmp 39) (.seq (.reg ratlineref18_Same_r2) .ret) .skip)) (.seq (.seq (.reg ratlineref18_Same_r3) (.block 0 (.loop ratlineref18_Same_l16))) (.seq (.seq (.reg ratlineref18_Same_r17) (.block 4 (.loop ratlineref18_Same_l23))) (.seq (.seq (.reg ratlineref18_Same_r24) (.block 6 (.loop ratlineref18_Same_l37))) (.seq (.reg ratlineref18_Same_r38) .ret))))))
theorem ratlineref18_Same_is : fnV prog n_ratlineref18_Same = some (155, ratlineref18_Same, [.tmp 4]) := by kernel_rfl

/- hist_Ended -/
@[simp] def hist_Ended_r0 : List VOp :=
  [⟨(some 2), none, .box (.tmp 0)⟩,
   ⟨(some 3), none, .box (.tmp 1)⟩,
   ⟨(some 4), none, .mov (.const (.int .i64 0))⟩]
@[simp] def hist_Ended_r1 : List VOp :=
  [⟨(some 6), none, .fa 1 (.tmp 2)⟩,
   ⟨(some 7), none, .ld (.tmp 6) none⟩,
   ⟨(some 8), none, .mkfn n_hist_Ended_1 [] [(.tmp 3)]⟩,
   ⟨(some 9), none, .call n_slices_IndexFunc_api_Event_api_Event [(.tmp 7), (.tmp 8)]⟩,
   ⟨(some 5), none, .mov (.tmp 9)⟩]
@[simp] def hist_Ended_r2 : List VOp :=
  [⟨(some 10), none, .mov (.tmp 5)⟩,
   ⟨(some 11), none, .bin .lss (.tmp 10) (.const (.int .i64 0))⟩]
@[simp] def hist_Ended_r3 : List VOp :=
  [⟨(some 4), none, .mov (.const (.int .i64 0))⟩]
@[simp] def hist_Ended_r4 : List VOp :=
  [⟨(some 12), none, .fa 1 (.tmp 2)⟩,
   ⟨(some 13), none, .ld (.tmp 12) none⟩,
   ⟨(some 14), none, .mov (.tmp 5)⟩,
   ⟨(some 15), none, .ia 22 (.tmp 13) (.tmp 14)⟩,
   ⟨(some 16), none, .fa 1 (.tmp 15)⟩,
   ⟨(some 17), none, .ld (.tmp 16) none⟩,
   ⟨(some 4), none, .mov (.tmp 17)⟩]
def hist_Ended : VCode := (.seq (.reg hist_Ended_r0) (.seq (.reg hist_Ended_r1) (.seq (.seq (.reg hist_Ended_r2) (.cond (.tmp 11) (.seq (.reg hist_Ended_r3) .ret) .skip)) (.seq (.reg hist_Ended_r4) .ret))))
theorem hist_Ended_is : fnV prog n_hist_Ended = some (18, hist_Ended, [.tmp 4]) := by kernel_rfl

/- ratlineref18_Event -/
@[simp] def ratlineref18_Event_r0 : List VOp :=
  [⟨(some 2), none, .box (.tmp 0)⟩,
   ⟨(some 3), none, .box (.tmp 1)⟩,
   ⟨(some 4), none, .mov (.const (.bool false))⟩]
@[simp] def ratlineref18_Event_r1 : List VOp :=
  [⟨(some 8), none, .fa 20 (.tmp 2)⟩,
   ⟨(some 9), none, .ld (.tmp 8) none⟩,
   ⟨(some 10), none, .len (.tmp 9)⟩,
   ⟨(some 11), none, .fa 20 (.tmp 3)⟩,
   ⟨(some 12), none, .ld (.tmp 11) none⟩,
   ⟨(some 13), none, .len (.tmp 12)⟩,
   ⟨(some 14), none, .bin .neq (.tmp 10) (.tmp 13)⟩]
@[simp] def ratlineref18_Event_r2 : List VOp :=
  [⟨(some 4), none, .mov (.const (.bool false))⟩]
@[simp] def ratlineref18_Event_r3 : List VOp :=
  [⟨(some 5), none, .mov (.const (.int .i64 0))⟩]
@[simp] def ratlineref18_Event_r4 : List VOp :=
  [⟨(some 15), none, .mov (.tmp 5)⟩,
   ⟨(some 16), none, .fa 20 (.tmp 2)⟩,
   ⟨(some 17), none, .ld (.tmp 16) none⟩,
   ⟨(some 18), none, .len (.tmp 17)⟩,
   ⟨(some 19), none, .bin .lss (.tmp 15) (.tmp 18)⟩]
@[simp] def ratlineref18_Event_t5 : VT :=
  .op ⟨(some 22), none, .fa 20 (.tmp 2)⟩ <|
  .op ⟨(some 23), none, .ld (.tmp 22) none⟩ <|
  .op ⟨(some 24), none, .mov (.tmp 5)⟩ <|
  .op ⟨(some 25), none, .ia 5 (.tmp 23) (.tmp 24)⟩ <|
  .op ⟨(some 26), none, .ld (.tmp 25) (some 5)⟩ <|
  .op ⟨(some 27), none, .fa 20 (.tmp 3)⟩ <|
  .op ⟨(some 28), none, .ld (.tmp 27) none⟩ <|
  .op ⟨(some 29), none, .mov (.tmp 5)⟩ <|
  .op ⟨(some 30), none, .ia 5 (.tmp 28) (.tmp 29)⟩ <|
  .op ⟨(some 31), none, .ld (.tmp 30) (some 5)⟩ <|
  .op ⟨(some 32), none, .eqs true [.b, .i .i64, .s, .i .i64, .i .i64] (.tmp 26) (.tmp 31)⟩ <|
  .done
@[simp] def ratlineref18_Event_r6 : List VOp :=
  [⟨(some 4), none, .mov (.const (.bool false))⟩]
@[simp] def ratlineref18_Event_r7 : List VOp :=
  [⟨(some 20), none, .mov (.tmp 5)⟩,
   ⟨(some 21), none, .bin .add (.tmp 20) (.const (.int .i64 1))⟩,
   ⟨(some 5), none, .mov (.tmp 21)⟩]
def ratlineref18_Event_l8 : VCode :=
  (.seq (.seq (.reg ratlineref18_Event_r4) (.cond (.tmp 19) .skip (.exit 0))) (.seq (.block 1 (.seq (.any ratlineref18_Event_t5) (.cond (.tmp 32) (.seq (.reg ratlineref18_Event_r6) .ret) .skip))) (.reg ratlineref18_Event_r7)))
@[simp] def ratlineref18_Event_r9 : List VOp :=
  [⟨(some 33), none, .fa 11 (.tmp 2)⟩,
   ⟨(some 34), none, .ld (.tmp 33) (some 9)⟩,
   ⟨(some 35), none, .fa 11 (.tmp 3)⟩,
   ⟨(some 36), none, .ld (.tmp 35) (some 9)⟩,
   ⟨(some 37), none, .call n_ratlineref03_Same [(.tmp 34), (.tmp 36)]⟩,
   ⟨(some 6), none, .mov (.tmp 37)⟩]
@[simp] def ratlineref18_Event_r10 : List VOp :=
  [⟨(some 38), none, .fa 10 (.tmp 2)⟩,
   ⟨(some 39), none, .ld (.tmp 38) none⟩,
   ⟨(some 40), none, .fa 10 (.tmp 3)⟩,
   ⟨(some 41), none, .ld (.tmp 40) none⟩,
   ⟨(some 42), none, .call n_ratlineref02_Same [(.tmp 39), (.tmp 41)]⟩,
   ⟨(some 7), none, .mov (.tmp 42)⟩]
@[simp] def ratlineref18_Event_r11 : List VOp :=
  [⟨(some 43), none, .mov (.tmp 6)⟩,
   ⟨(some 44), none, .mov (.tmp 43)⟩,
   ⟨(some 45), (some (44, true)), .mov (.tmp 7)⟩,
   ⟨(some 46), none, .pick (.tmp 44) (.tmp 45) (.const (.bool false))⟩,
   ⟨(some 47), none, .mov (.tmp 46)⟩,
   ⟨(some 48), (some (47, true)), .fa 0 (.tmp 2)⟩,
   ⟨(some 49), (some (47, true)), .ld (.tmp 48) none⟩,
   ⟨(some 50), (some (47, true)), .fa 0 (.tmp 3)⟩,
   ⟨(some 51), (some (47, true)), .ld (.tmp 50) none⟩,
   ⟨(some 52), (some (47, true)), .bin .eql (.tmp 49) (.tmp 51)⟩,
   ⟨(some 53), none, .pick (.tmp 47) (.tmp 52) (.const (.bool false))⟩,
   ⟨(some 54), none, .mov (.tmp 53)⟩,
   ⟨(some 55), (some (54, true)), .fa 1 (.tmp 2)⟩,
   ⟨(some 56), (some (54, true)), .ld (.tmp 55) none⟩,
   ⟨(some 57), (some (54, true)), .fa 1 (.tmp 3)⟩,
   ⟨(some 58), (some (54, true)), .ld (.tmp 57) none⟩,
   ⟨(some 59), (some (54, true)), .bin .eql (.tmp 56) (.tmp 58)⟩,
   ⟨(some 60), none, .pick (.tmp 54) (.tmp 59) (.const (.bool false))⟩,
   ⟨(some 61), none, .mov (.tmp 60)⟩,
   ⟨(some 62), (some (61, true)), .fa 2 (.tmp 2)⟩,
   ⟨(some 63), (some (61, true)), .ld (.tmp 62) none⟩,
   ⟨(some 64), (some (61, true)), .fa 2 (.tmp 3)⟩,
   ⟨(some 65), (some (61, true)), .ld (.tmp 64) none⟩,
   ⟨(some 66), (some (61, true)), .bin .eql (.tmp 63) (.tmp 65)⟩,
   ⟨(some 67), none, .pick (.tmp 61) (.tmp 66) (.const (.bool false))⟩,
   ⟨(some 68), none, .mov (.tmp 67)⟩,
   ⟨(some 69), (some (68, true)), .fa 3 (.tmp 2)⟩,
   ⟨(some 70), (some (68, true)), .ld (.tmp 69) none⟩,
   ⟨(some 71), (some (68, true)), .fa 3 (.tmp 3)⟩,
   ⟨(some 72), (some (68, true)), .ld (.tmp 71) none⟩,
   ⟨(some 73), (some (68, true)), .bin .eql (.tmp 70) (.tmp 72)⟩,
   ⟨(some 74), none, .pick (.tmp 68) (.tmp 73) (.const (.bool false))⟩,
   ⟨(some 75), none, .mov (.tmp 74)⟩,
   ⟨(some 76), (some (75, true)), .fa 4 (.tmp 2)⟩,
   ⟨(some 77), (some (75, true)), .ld (.tmp 76) (some 3)⟩,
   ⟨(some 78), (some (75, true)), .fa 4 (.tmp 3)⟩,
   ⟨(some 79), (some (75, true)), .ld (.tmp 78) (some 3)⟩,
   ⟨(some 80), (some (75, true)), .eqs false [.b, .i .i64, .s] (.tmp 77) (.tmp 79)⟩,
   ⟨(some 81), none, .pick (.tmp 75) (.tmp 80) (.const (.bool false))⟩,
   ⟨(some 82), none, .mov (.tmp 81)⟩,
   ⟨(some 83), (some (82, true)), .fa 7 (.tmp 2)⟩,
   ⟨(some 84), (some (82, true)), .ld (.tmp 83) (some 2)⟩,
   ⟨(some 85), (some (82, true)), .fa 7 (.tmp 3)⟩,
   ⟨(some 86), (some (82, true)), .ld (.tmp 85) (some 2)⟩,
   ⟨(some 87), (some (82, true)), .eqs false [.i .i64, .i .i64] (.tmp 84) (.tmp 86)⟩,
   ⟨(some 88), none, .pick (.tmp 82) (.tmp 87) (.const (.bool false))⟩,
   ⟨(some 89), none, .mov (.tmp 88)⟩,
   ⟨(some 90), (some (89, true)), .fa 9 (.tmp 2)⟩,
   ⟨(some 91), (some (89, true)), .ld (.tmp 90) none⟩,
   ⟨(some 92), (some (89, true)), .fa 9 (.tmp 3)⟩,
   ⟨(some 93), (some (89, true)), .ld (.tmp 92) none⟩,
   ⟨(some 94), (some (89, true)), .bin .eql (.tmp 91) (.tmp 93)⟩,
   ⟨(some 95), none, .pick (.tmp 89) (.tmp 94) (.const (.bool false))⟩,
   ⟨(some 96), none, .mov (.tmp 95)⟩,
   ⟨(some 97), (some (96, true)), .fa 21 (.tmp 2)⟩,
   ⟨(some 98), (some (96, true)), .ld (.tmp 97) none⟩,
   ⟨(some 99), (some (96, true)), .fa 21 (.tmp 3)⟩,
   ⟨(some 100), (some (96, true)), .ld (.tmp 99) none⟩,
   ⟨(some 101), (some (96, true)), .beq false (.tmp 98) (.tmp 100)⟩,
   ⟨(some 102), none, .pick (.tmp 96) (.tmp 101) (.const (.bool false))⟩,
   ⟨(some 4), none, .mov (.tmp 102)⟩]
def ratlineref18_Event : VCode := (.seq (.reg ratlineref18_Event_r0) (.seq (.seq (.reg ratlineref18_Event_r1) (.cond (.tmp 14) (.seq (.reg ratlineref18_Event_r2) .ret) .skip)) (.seq (.seq (.reg ratlineref18_Event_r3) (.block 0 (.loop ratlineref18_Event_l8))) (.seq (.reg ratlineref18_Event_r9) (.seq (.reg ratlineref18_Event_r10) (.seq (.reg ratlineref18_Event_r11) .ret))))))
theorem ratlineref18_Event_is : fnV prog n_ratlineref18_Event = some (103, ratlineref18_Event, [.tmp 4]) := by kernel_rfl

/- ratlineref18_flat -/
@[simp] def ratlineref18_flat_r0 : List VOp :=
  [⟨(some 2), none, .box (.tmp 0)⟩,
   ⟨(some 4), none, .mov (.const (.bool false))⟩]
@[simp] def ratlineref18_flat_r1 : List VOp :=
  [⟨(some 7), none, .mov (.tmp 1)⟩,
   ⟨(some 8), none, .bin .gtr (.tmp 7) (.const (.int .i64 6))⟩,
   ⟨(some 9), none, .mov (.tmp 8)⟩,
   ⟨(some 10), (some (9, false)), .fa 8 (.tmp 2)⟩,
   ⟨(some 11), (some (9, false)), .ld (.tmp 10) none⟩,
   ⟨(some 12), (some (9, false)), .len (.tmp 11)⟩,
   ⟨(some 13), (some (9, false)), .bin .gtr (.tmp 12) (.const (.int .i64 6))⟩,
   ⟨(some 14), none, .pick (.tmp 9) (.const (.bool true)) (.tmp 13)⟩]
@[simp] def ratlineref18_flat_r2 : List VOp :=
  [⟨(some 4), none, .mov (.const (.bool false))⟩]
@[simp] def ratlineref18_flat_r3 : List VOp :=
  [⟨(some 5), none, .mov (.const (.int .i64 0))⟩]
@[simp] def ratlineref18_flat_r4 : List VOp :=
  [⟨(some 15), none, .mov (.tmp 5)⟩,
   ⟨(some 16), none, .fa 8 (.tmp 2)⟩,
   ⟨(some 17), none, .ld (.tmp 16) none⟩,
   ⟨(some 18), none, .len (.tmp 17)⟩,
   ⟨(some 19), none, .bin .lss (.tmp 15) (.tmp 18)⟩]
@[simp] def ratlineref18_flat_r5 : List VOp :=
  [⟨(some 22), none, .fa 8 (.tmp 2)⟩,
   ⟨(some 23), none, .ld (.tmp 22) none⟩,
   ⟨(some 24), none, .mov (.tmp 5)⟩,
   ⟨(some 25), none, .ia 9 (.tmp 23) (.tmp 24)⟩,
   ⟨(some 26), none, .ld (.tmp 25) (some 9)⟩,
   ⟨(some 27), none, .mov (.tmp 1)⟩,
   ⟨(some 28), none, .bin .add (.tmp 27) (.const (.int .i64 1))⟩,
   ⟨(some 29), none, .call n_ratlineref18_flat [(.tmp 26), (.tmp 28)]⟩,
   ⟨(some 6), none, .mov (.tmp 29)⟩]
@[simp] def ratlineref18_flat_r6 : List VOp :=
  [⟨(some 30), none, .mov (.tmp 6)⟩,
   ⟨(some 31), none, .un .not (.tmp 30)⟩]
@[simp] def ratlineref18_flat_r7 : List VOp :=
  [⟨(some 4), none, .mov (.const (.bool false))⟩]
@[simp] def ratlineref18_flat_r8 : List VOp :=
  [⟨(some 20), none, .mov (.tmp 5)⟩,
   ⟨(some 21), none, .bin .add (.tmp 20) (.const (.int .i64 1))⟩,
   ⟨(some 5), none, .mov (.tmp 21)⟩]
def ratlineref18_flat_l9 : VCode :=
  (.seq (.seq (.reg ratlineref18_flat_r4) (.cond (.tmp 19) .skip (.exit 0))) (.seq (.block 1 (.seq (.reg ratlineref18_flat_r5) (.seq (.reg ratlineref18_flat_r6) (.cond (.tmp 31) (.seq (.reg ratlineref18_flat_r7) .ret) .skip)))) (.reg ratlineref18_flat_r8)))
@[simp] def ratlineref18_flat_r10 : List VOp :=
  [⟨(some 32), none, .ld (.tmp 2) (some 9)⟩,
   ⟨(some 33), none, .call n_ratlineref03_Size [(.tmp 32)]⟩,
   ⟨(some 34), none, .bin .leq (.tmp 33) (.const (.int .i64 30))⟩,
   ⟨(some 4), none, .mov (.tmp 34)⟩]
def ratlineref18_flat : VCode := (.seq (.reg ratlineref18_flat_r0) (.seq (.seq (.reg ratlineref18_flat_r1) (.cond (.tmp 14) (.seq (.reg ratlineref18_flat_r2) .ret) .skip)) (.seq (.seq (.reg ratlineref18_flat_r3) (.block 0 (.loop ratlineref18_flat_l9))) (.seq (.reg ratlineref18_flat_r10) .ret))))
theorem ratlineref18_flat_is : fnV prog n_ratlineref18_flat = some (35, ratlineref18_flat, [.tmp 4]) := by kernel_rfl

/- hist_Check_1 -/
@[simp] def hist_Check_1_r0 : List VOp :=
  [⟨(some 2), none, .box (.tmp 0)⟩,
   ⟨(some 3), none, .mov (.const (.bool false))⟩]
@[simp] def hist_Check_1_r1 : List VOp :=
  [⟨(some 4), none, .ld (.tmp 1) none⟩,
   ⟨(some 5), none, .ld (.tmp 2) (some 22)⟩,
   ⟨(some 6), none, .call n_hist_checker_frame [(.tmp 4), (.tmp 5)]⟩,
   ⟨(some 7), none, .mov (.tmp 6)⟩,
   ⟨(some 8), (some (7, true)), .ld (.tmp 1) none⟩,
   ⟨(some 9), (some (7, true)), .ld (.tmp 2) (some 22)⟩,
   ⟨(some 10), (some (7, true)), .call n_hist_checker_read [(.tmp 8), (.tmp 9)]⟩,
   ⟨(some 11), none, .pick (.tmp 7) (.tmp 10) (.const (.bool false))⟩,
   ⟨(some 12), none, .mov (.tmp 11)⟩,
   ⟨(some 13), (some (12, true)), .ld (.tmp 1) none⟩,
   ⟨(some 14), (some (12, true)), .ld (.tmp 2) (some 22)⟩,
   ⟨(some 15), (some (12, true)), .call n_hist_checker_saw [(.tmp 13), (.tmp 14)]⟩,
   ⟨(some 16), none, .pick (.tmp 12) (.tmp 15) (.const (.bool false))⟩,
   ⟨(some 17), none, .mov (.tmp 16)⟩,
   ⟨(some 18), (some (17, true)), .ld (.tmp 1) none⟩,
   ⟨(some 19), (some (17, true)), .ld (.tmp 2) (some 22)⟩,
   ⟨(some 20), (some (17, true)), .call n_hist_checker_write [(.tmp 18), (.tmp 19)]⟩,
   ⟨(some 21), none, .pick (.tmp 17) (.tmp 20) (.const (.bool false))⟩,
   ⟨(some 3), none, .mov (.tmp 21)⟩]
def hist_Check_1 : VCode := (.seq (.reg hist_Check_1_r0) (.seq (.reg hist_Check_1_r1) .ret))
theorem hist_Check_1_is : fnV prog n_hist_Check_1 = some (22, hist_Check_1, [.tmp 3]) := by kernel_rfl

/- hist_checker_frame -/
@[simp] def hist_checker_frame_r0 : List VOp :=
  [⟨(some 3), none, .box (.tmp 1)⟩,
   ⟨(some 4), none, .mov (.const (.bool false))⟩]
@[simp] def hist_checker_frame_r1 : List VOp :=
  [⟨(some 6), none, .fa 0 (.tmp 3)⟩,
   ⟨(some 7), none, .ld (.tmp 6) none⟩,
   ⟨(some 8), none, .bin .lss (.tmp 7) (.const (.int .i64 1))⟩,
   ⟨(some 9), none, .mov (.tmp 8)⟩,
   ⟨(some 10), (some (9, false)), .fa 1 (.tmp 3)⟩,
   ⟨(some 11), (some (9, false)), .ld (.tmp 10) none⟩,
   ⟨(some 12), (some (9, false)), .bin .lss (.tmp 11) (.const (.int .i64 1))⟩,
   ⟨(some 13), none, .pick (.tmp 9) (.const (.bool true)) (.tmp 12)⟩,
   ⟨(some 14), none, .mov (.tmp 13)⟩,
   ⟨(some 15), (some (14, false)), .fa 1 (.tmp 3)⟩,
   ⟨(some 16), (some (14, false)), .ld (.tmp 15) none⟩,
   ⟨(some 17), (some (14, false)), .bin .gtr (.tmp 16) (.const (.int .i64 6))⟩,
   ⟨(some 18), none, .pick (.tmp 14) (.const (.bool true)) (.tmp 17)⟩]
@[simp] def hist_checker_frame_r2 : List VOp :=
  [⟨(some 4), none, .mov (.const (.bool false))⟩]
@[simp] def hist_checker_frame_t3 : VT :=
  .op ⟨(some 19), none, .mov (.tmp 0)⟩ <|
  .op ⟨(some 20), none, .chk (.tmp 19)⟩ <|
  .op ⟨(some 21), none, .fa 3 (.tmp 20)⟩ <|
  .op ⟨(some 22), none, .ld (.tmp 21) none⟩ <|
  .op ⟨(some 23), none, .fa 0 (.tmp 3)⟩ <|
  .op ⟨(some 24), none, .ld (.tmp 23) none⟩ <|
  .op ⟨(some 25), none, .lkp (false, [.i .i64], false) [.iv (.v (.int .i64 0))] (.tmp 22) (.tmp 24) false⟩ <|
  .op ⟨(some 5), none, .mov (.tmp 25)⟩ <|
  .done
@[simp] def hist_checker_frame_r4 : List VOp :=
  [⟨(some 26), none, .fa 1 (.tmp 3)⟩,
   ⟨(some 27), none, .ld (.tmp 26) none⟩,
   ⟨(some 28), none, .bin .eql (.tmp 27) (.const (.int .i64 1))⟩]
@[simp] def hist_checker_frame_r5 : List VOp :=
  [⟨(some 29), none, .mov (.tmp 5)⟩,
   ⟨(some 30), none, .bin .neq (.tmp 29) (.const (.int .i64 0))⟩,
   ⟨(some 31), none, .mov (.tmp 30)⟩,
   ⟨(some 32), (some (31, false)), .fa 2 (.tmp 3)⟩,
   ⟨(some 33), (some (31, false)), .ld (.tmp 32) none⟩,
   ⟨(some 34), (some (31, false)), .bin .lss (.tmp 33) (.const (.int .i64 1))⟩,
   ⟨(some 35), none, .pick (.tmp 31) (.const (.bool true)) (.tmp 34)⟩,
   ⟨(some 36), none, .mov (.tmp 35)⟩,
   ⟨(some 37), (some (36, false)), .fa 2 (.tmp 3)⟩,
   ⟨(some 38), (some (36, false)), .ld (.tmp 37) none⟩,
   ⟨(some 39), (some (36, false)), .bin .gtr (.tmp 38) (.const (.int .i64 5))⟩,
   ⟨(some 40), none, .pick (.tmp 36) (.const (.bool true)) (.tmp 39)⟩]
@[simp] def hist_checker_frame_r6 : List VOp :=
  [⟨(some 4), none, .mov (.const (.bool false))⟩]
@[simp] def hist_checker_frame_t7 : VT :=
  .op ⟨(some 41), none, .mov (.tmp 0)⟩ <|
  .op ⟨(some 42), none, .chk (.tmp 41)⟩ <|
  .op ⟨(some 43), none, .fa 3 (.tmp 42)⟩ <|
  .op ⟨(some 44), none, .ld (.tmp 43) none⟩ <|
  .op ⟨(some 45), none, .fa 0 (.tmp 3)⟩ <|
  .op ⟨(some 46), none, .ld (.tmp 45) none⟩ <|
  .op ⟨(some 47), none, .fa 1 (.tmp 3)⟩ <|
  .op ⟨(some 48), none, .ld (.tmp 47) none⟩ <|
  .op ⟨none, none, .mset (false, [.i .i64], false) (.tmp 44) (.tmp 46) (.tmp 48)⟩ <|
  .done
@[simp] def hist_checker_frame_r8 : List VOp :=
  [⟨(some 4), none, .mov (.const (.bool true))⟩]
@[simp] def hist_checker_frame_r9 : List VOp :=
  [⟨(some 49), none, .mov (.tmp 5)⟩,
   ⟨(some 50), none, .bin .neq (.tmp 49) (.const (.int .i64 1))⟩]
@[simp] def hist_checker_frame_r10 : List VOp :=
  [⟨(some 4), none, .mov (.const (.bool false))⟩]
@[simp] def hist_checker_frame_r11 : List VOp :=
  [⟨(some 51), none, .fa 1 (.tmp 3)⟩,
   ⟨(some 52), none, .ld (.tmp 51) none⟩,
   ⟨(some 53), none, .bin .eql (.tmp 52) (.const (.int .i64 5))⟩,
   ⟨(some 54), none, .mov (.tmp 53)⟩,
   ⟨(some 55), (some (54, false)), .fa 1 (.tmp 3)⟩,
   ⟨(some 56), (some (54, false)), .ld (.tmp 55) none⟩,
   ⟨(some 57), (some (54, false)), .bin .eql (.tmp 56) (.const (.int .i64 6))⟩,
   ⟨(some 58), none, .pick (.tmp 54) (.const (.bool true)) (.tmp 57)⟩]
@[simp] def hist_checker_frame_t12 : VT :=
  .op ⟨(some 59), none, .mov (.tmp 0)⟩ <|
  .op ⟨(some 60), none, .chk (.tmp 59)⟩ <|
  .op ⟨(some 61), none, .fa 3 (.tmp 60)⟩ <|
  .op ⟨(some 62), none, .ld (.tmp 61) none⟩ <|
  .op ⟨(some 63), none, .fa 0 (.tmp 3)⟩ <|
  .op ⟨(some 64), none, .ld (.tmp 63) none⟩ <|
  .op ⟨(some 65), none, .fa 1 (.tmp 3)⟩ <|
  .op ⟨(some 66), none, .ld (.tmp 65) none⟩ <|
  .op ⟨none, none, .mset (false, [.i .i64], false) (.tmp 62) (.tmp 64) (.tmp 66)⟩ <|
  .done
@[simp] def hist_checker_frame_r13 : List VOp :=
  [⟨(some 4), none, .mov (.const (.bool true))⟩]
def hist_checker_frame : VCode := (.seq (.reg hist_checker_frame_r0) (.seq (.seq (.reg hist_checker_frame_r1) (.cond (.tmp 18) (.seq (.reg hist_checker_frame_r2) .ret) .skip)) (.seq (.any hist_checker_frame_t3) (.seq (.seq (.reg hist_checker_frame_r4) (.cond (.tmp 28) (.seq (.seq (.reg hist_checker_frame_r5) (.cond (.tmp 40) (.seq (.reg hist_checker_frame_r6) .ret) .skip)) (.seq (.any hist_checker_frame_t7) (.seq (.reg hist_checker_frame_r8) .ret))) .skip)) (.seq (.seq (.reg hist_checker_frame_r9) (.cond (.tmp 50) (.seq (.reg hist_checker_frame_r10) .ret) .skip)) (.seq (.seq (.reg hist_checker_frame_r11) (.cond (.tmp 58) (.any hist_checker_frame_t12) .skip)) (.seq (.reg hist_checker_frame_r13) .ret)))))))
theorem hist_checker_frame_is : fnV prog n_hist_checker_frame = some (67, hist_checker_frame, [.tmp 4]) := by kernel_rfl

/- hist_checker_read -/
@[simp] def hist_checker_read_r0 : List VOp :=
  [⟨(some 3), none, .box (.tmp 1)⟩,
   ⟨(some 4), none, .mov (.const (.bool false))⟩]
@[simp] def hist_checker_read_r1 : List VOp :=
  [⟨(some 7), none, .fa 1 (.tmp 3)⟩,
   ⟨(some 8), none, .ld (.tmp 7) none⟩,
   ⟨(some 9), none, .bin .neq (.tmp 8) (.const (.int .i64 2))⟩]
@[simp] def hist_checker_read_r2 : List VOp :=
  [⟨(some 4), none, .mov (.const (.bool true))⟩]
@[simp] def hist_checker_read_r3 : List VOp :=
  [⟨(some 10), none, .fa 3 (.tmp 3)⟩,
   ⟨(some 11), none, .ld (.tmp 10) none⟩,
   ⟨(some 12), none, .fa 4 (.tmp 3)⟩,
   ⟨(some 13), none, .ld (.tmp 12) (some 3)⟩,
   ⟨(some 14), none, .build [.iv (.v (.int .i64 0)), .iv (.v (.bool false)), .iv (.v (.int .i64 0)), .iv (.v (.string ⟨#[]⟩))] [(0, 1, (.tmp 11)), (1, 3, (.tmp 13))]⟩,
   ⟨(some 5), none, .alloc [.iv (.v (.int .i64 0)), .iv (.v (.bool false)), .iv (.v (.int .i64 0)), .iv (.v (.string ⟨#[]⟩))]⟩,
   ⟨none, none, .st (.tmp 5) (.tmp 14) 4⟩]
@[simp] def hist_checker_read_t4 : VT :=
  .op ⟨(some 15), none, .mov (.tmp 0)⟩ <|
  .op ⟨(some 16), none, .chk (.tmp 15)⟩ <|
  .op ⟨(some 17), none, .fa 4 (.tmp 16)⟩ <|
  .op ⟨(some 18), none, .ld (.tmp 17) none⟩ <|
  .op ⟨(some 19), none, .fa 0 (.tmp 3)⟩ <|
  .op ⟨(some 20), none, .ld (.tmp 19) none⟩ <|
  .op ⟨(some 21), none, .ld (.tmp 5) (some 4)⟩ <|
  .op ⟨(some 22), none, .build [.iv (.v (.int .i64 0)), .iv (.v (.int .i64 0)), .iv (.v (.bool false)), .iv (.v (.int .i64 0)), .iv (.v (.string ⟨#[]⟩))] [(0, 1, (.tmp 20)), (1, 4, (.tmp 21))]⟩ <|
  .op ⟨(some 23), none, .lkp (true, [.i .i64, .i .i64, .b, .i .i64, .s], false) [.iv (.v (.int .i64 0))] (.tmp 18) (.tmp 22) false⟩ <|
  .op ⟨(some 6), none, .mov (.tmp 23)⟩ <|
  .done
@[simp] def hist_checker_read_r5 : List VOp :=
  [⟨(some 24), none, .mov (.tmp 6)⟩,
   ⟨(some 25), none, .bin .gtr (.tmp 24) (.const (.int .i64 0))⟩]
@[simp] def hist_checker_read_r6 : List VOp :=
  [⟨(some 26), none, .mov (.tmp 0)⟩,
   ⟨(some 27), none, .fa 3 (.tmp 3)⟩,
   ⟨(some 28), none, .ld (.tmp 27) none⟩,
   ⟨(some 29), none, .fa 4 (.tmp 3)⟩,
   ⟨(some 30), none, .ld (.tmp 29) (some 3)⟩,
   ⟨(some 31), none, .call n_hist_checker_key [(.tmp 26), (.tmp 28), (.tmp 30)]⟩,
   ⟨(some 32), none, .mov (.tmp 31)⟩,
   ⟨(some 33), (some (32, true)), .fa 7 (.tmp 3)⟩,
   ⟨(some 34), (some (32, true)), .ld (.tmp 33) (some 2)⟩,
   ⟨(some 35), (some (32, true)), .fa 0 (.tmp 3)⟩,
   ⟨(some 36), (some (32, true)), .ld (.tmp 35) none⟩,
   ⟨(some 37), (some (32, true)), .mov (.tmp 6)⟩,
   ⟨(some 38), (some (32, true)), .build [.iv (.v (.int .i64 0)), .iv (.v (.int .i64 0))] [(0, 1, (.tmp 36)), (1, 1, (.tmp 37))]⟩,
   ⟨(some 39), (some (32, true)), .eqs false [.i .i64, .i .i64] (.tmp 34) (.tmp 38)⟩,
   ⟨(some 40), none, .pick (.tmp 32) (.tmp 39) (.const (.bool false))⟩,
   ⟨(some 4), none, .mov (.tmp 40)⟩]
@[simp] def hist_checker_read_r7 : List VOp :=
  [⟨(some 41), none, .mov (.tmp 0)⟩,
   ⟨(some 42), none, .fa 3 (.tmp 3)⟩,
   ⟨(some 43), none, .ld (.tmp 42) none⟩,
   ⟨(some 44), none, .fa 4 (.tmp 3)⟩,
   ⟨(some 45), none, .ld (.tmp 44) (some 3)⟩,
   ⟨(some 46), none, .call n_hist_checker_key [(.tmp 41), (.tmp 43), (.tmp 45)]⟩,
   ⟨(some 47), none, .mov (.tmp 46)⟩,
   ⟨(some 48), (some (47, true)), .fa 7 (.tmp 3)⟩,
   ⟨(some 49), (some (47, true)), .ld (.tmp 48) (some 2)⟩,
   ⟨(some 50), (some (47, true)), .build [.iv (.v (.int .i64 0)), .iv (.v (.int .i64 0))] []⟩,
   ⟨(some 51), (some (47, true)), .eqs false [.i .i64, .i .i64] (.tmp 49) (.tmp 50)⟩,
   ⟨(some 52), (some (47, true)), .mov (.tmp 51)⟩,
   ⟨(some 53), (some (52, false)), .mov (.tmp 0)⟩,
   ⟨(some 54), (some (52, false)), .ld (.tmp 5) (some 4)⟩,
   ⟨(some 55), (some (52, false)), .fa 7 (.tmp 3)⟩,
   ⟨(some 56), (some (52, false)), .ld (.tmp 55) (some 2)⟩,
   ⟨(some 57), (some (52, false)), .call n_hist_checker_version [(.tmp 53), (.tmp 54), (.tmp 56)]⟩,
   ⟨(some 58), (some (47, true)), .pick (.tmp 52) (.const (.bool true)) (.tmp 57)⟩,
   ⟨(some 59), none, .pick (.tmp 47) (.tmp 58) (.const (.bool false))⟩,
   ⟨(some 4), none, .mov (.tmp 59)⟩]
def hist_checker_read : VCode := (.seq (.reg hist_checker_read_r0) (.seq (.seq (.reg hist_checker_read_r1) (.cond (.tmp 9) (.seq (.reg hist_checker_read_r2) .ret) .skip)) (.seq (.reg hist_checker_read_r3) (.seq (.seq (.any hist_checker_read_t4) (.seq (.reg hist_checker_read_r5) (.cond (.tmp 25) (.seq (.reg hist_checker_read_r6) .ret) .skip))) (.seq (.reg hist_checker_read_r7) .ret)))))
theorem hist_checker_read_is : fnV prog n_hist_checker_read = some (60, hist_checker_read, [.tmp 4]) := by kernel_rfl

/- hist_checker_saw -/
@[simp] def hist_checker_saw_r0 : List VOp :=
  [⟨(some 3), none, .box (.tmp 1)⟩,
   ⟨(some 4), none, .mov (.const (.bool false))⟩]
@[simp] def hist_checker_saw_r1 : List VOp :=
  [⟨(some 11), none, .fa 1 (.tmp 3)⟩,
   ⟨(some 12), none, .ld (.tmp 11) none⟩,
   ⟨(some 13), none, .bin .neq (.tmp 12) (.const (.int .i64 4))⟩]
@[simp] def hist_checker_saw_r2 : List VOp :=
  [⟨(some 4), none, .mov (.const (.bool true))⟩]
@[simp] def hist_checker_saw_t3 : VT :=
  .op ⟨(some 14), none, .fa 3 (.tmp 3)⟩ <|
  .op ⟨(some 15), none, .ld (.tmp 14) none⟩ <|
  .op ⟨(some 16), none, .bin .lss (.tmp 15) (.const (.int .i64 0))⟩ <|
  .op ⟨(some 17), none, .mov (.tmp 16)⟩ <|
  .op ⟨(some 18), (some (17, false)), .fa 3 (.tmp 3)⟩ <|
  .op ⟨(some 19), (some (17, false)), .ld (.tmp 18) none⟩ <|
  .op ⟨(some 20), (some (17, false)), .mov (.tmp 0)⟩ <|
  .op ⟨(some 21), (some (17, false)), .chk (.tmp 20)⟩ <|
  .op ⟨(some 22), (some (17, false)), .fa 0 (.tmp 21)⟩ <|
  .op ⟨(some 23), (some (17, false)), .fa 0 (.tmp 22)⟩ <|
  .op ⟨(some 24), (some (17, false)), .ld (.tmp 23) none⟩ <|
  .op ⟨(some 25), (some (17, false)), .len (.tmp 24)⟩ <|
  .op ⟨(some 26), (some (17, false)), .bin .geq (.tmp 19) (.tmp 25)⟩ <|
  .op ⟨(some 27), none, .pick (.tmp 17) (.const (.bool true)) (.tmp 26)⟩ <|
  .op ⟨(some 28), none, .mov (.tmp 27)⟩ <|
  .op ⟨(some 29), (some (28, false)), .mov (.tmp 0)⟩ <|
  .op ⟨(some 30), (some (28, false)), .chk (.tmp 29)⟩ <|
  .op ⟨(some 31), (some (28, false)), .fa 0 (.tmp 30)⟩ <|
  .op ⟨(some 32), (some (28, false)), .fa 0 (.tmp 31)⟩ <|
  .op ⟨(some 33), (some (28, false)), .ld (.tmp 32) none⟩ <|
  .op ⟨(some 34), (some (28, false)), .fa 3 (.tmp 3)⟩ <|
  .op ⟨(some 35), (some (28, false)), .ld (.tmp 34) none⟩ <|
  .op ⟨(some 36), (some (28, false)), .ia 1 (.tmp 33) (.tmp 35)⟩ <|
  .op ⟨(some 37), (some (28, false)), .ld (.tmp 36) (some 1)⟩ <|
  .op ⟨(some 38), (some (28, false)), .fa 11 (.tmp 3)⟩ <|
  .op ⟨(some 39), (some (28, false)), .ld (.tmp 38) (some 9)⟩ <|
  .op ⟨(some 40), (some (28, false)), .call n_pred_Check [(.tmp 37), (.tmp 39)]⟩ <|
  .op ⟨(some 41), (some (28, false)), .bin .neq (.tmp 40) (.const (.int .i64 0))⟩ <|
  .op ⟨(some 42), none, .pick (.tmp 28) (.const (.bool true)) (.tmp 41)⟩ <|
  .done
@[simp] def hist_checker_saw_r4 : List VOp :=
  [⟨(some 4), none, .mov (.const (.bool false))⟩]
@[simp] def hist_checker_saw_r5 : List VOp :=
  [⟨(some 43), none, .mkmap (true, [.i .i64, .b, .i .i64, .s], true)⟩,
   ⟨(some 5), none, .mov (.tmp 43)⟩]
@[simp] def hist_checker_saw_r6 : List VOp :=
  [⟨(some 44), none, .fa 20 (.tmp 3)⟩,
   ⟨(some 45), none, .ld (.tmp 44) none⟩,
   ⟨(some 46), none, .len (.tmp 45)⟩,
   ⟨(some 47), none, .mov (.const (.int .i64 0))⟩]
@[simp] def hist_checker_saw_r7 : List VOp :=
  [⟨(some 48), none, .bin .lss (.tmp 47) (.tmp 46)⟩]
@[simp] def hist_checker_saw_r8 : List VOp :=
  [⟨(some 49), none, .mov (.tmp 47)⟩,
   ⟨(some 50), none, .ia 5 (.tmp 45) (.tmp 47)⟩,
   ⟨(some 51), none, .ld (.tmp 50) (some 5)⟩,
   ⟨(some 7), none, .alloc [.iv (.v (.bool false)), .iv (.v (.int .i64 0)), .iv (.v (.string ⟨#[]⟩)), .iv (.v (.int .i64 0)), .iv (.v (.int .i64 0))]⟩,
   ⟨(some 6), none, .mov (.tmp 49)⟩,
   ⟨none, none, .st (.tmp 7) (.tmp 51) 5⟩]
@[simp] def hist_checker_saw_r9 : List VOp :=
  [⟨(some 52), none, .fa 3 (.tmp 3)⟩,
   ⟨(some 53), none, .ld (.tmp 52) none⟩,
   ⟨(some 54), none, .fa 0 (.tmp 7)⟩,
   ⟨(some 55), none, .ld (.tmp 54) (some 3)⟩,
   ⟨(some 56), none, .build [.iv (.v (.int .i64 0)), .iv (.v (.bool false)), .iv (.v (.int .i64 0)), .iv (.v (.string ⟨#[]⟩))] [(0, 1, (.tmp 53)), (1, 3, (.tmp 55))]⟩,
   ⟨(some 8), none, .alloc [.iv (.v (.int .i64 0)), .iv (.v (.bool false)), .iv (.v (.int .i64 0)), .iv (.v (.string ⟨#[]⟩))]⟩,
   ⟨none, none, .st (.tmp 8) (.tmp 56) 4⟩]
@[simp] def hist_checker_saw_t10 : VT :=
  .op ⟨(some 57), none, .mov (.tmp 0)⟩ <|
  .op ⟨(some 58), none, .fa 3 (.tmp 3)⟩ <|
  .op ⟨(some 59), none, .ld (.tmp 58) none⟩ <|
  .op ⟨(some 60), none, .fa 0 (.tmp 7)⟩ <|
  .op ⟨(some 61), none, .ld (.tmp 60) (some 3)⟩ <|
  .op ⟨(some 62), none, .call n_hist_checker_key [(.tmp 57), (.tmp 59), (.tmp 61)]⟩ <|
  .op ⟨(some 63), none, .un .not (.tmp 62)⟩ <|
  .op ⟨(some 64), none, .mov (.tmp 63)⟩ <|
  .op ⟨(some 65), (some (64, false)), .mov (.tmp 0)⟩ <|
  .op ⟨(some 66), (some (64, false)), .ld (.tmp 8) (some 4)⟩ <|
  .op ⟨(some 67), (some (64, false)), .fa 3 (.tmp 7)⟩ <|
  .op ⟨(some 68), (some (64, false)), .ld (.tmp 67) (some 2)⟩ <|
  .op ⟨(some 69), (some (64, false)), .call n_hist_checker_version [(.tmp 65), (.tmp 66), (.tmp 68)]⟩ <|
  .op ⟨(some 70), (some (64, false)), .un .not (.tmp 69)⟩ <|
  .op ⟨(some 71), none, .pick (.tmp 64) (.const (.bool true)) (.tmp 70)⟩ <|
  .op ⟨(some 72), none, .mov (.tmp 71)⟩ <|
  .op ⟨(some 73), (some (72, false)), .mov (.tmp 6)⟩ <|
  .op ⟨(some 74), (some (72, false)), .bin .gtr (.tmp 73) (.const (.int .i64 0))⟩ <|
  .op ⟨(some 75), (some (72, false)), .mov (.tmp 74)⟩ <|
  .op ⟨(some 76), (some (75, true)), .fa 20 (.tmp 3)⟩ <|
  .op ⟨(some 77), (some (75, true)), .ld (.tmp 76) none⟩ <|
  .op ⟨(some 78), (some (75, true)), .mov (.tmp 6)⟩ <|
  .op ⟨(some 79), (some (75, true)), .bin .sub (.tmp 78) (.const (.int .i64 1))⟩ <|
  .op ⟨(some 80), (some (75, true)), .ia 5 (.tmp 77) (.tmp 79)⟩ <|
  .op ⟨(some 81), (some (75, true)), .fa 0 (.tmp 80)⟩ <|
  .op ⟨(some 82), (some (75, true)), .ld (.tmp 81) (some 3)⟩ <|
  .op ⟨(some 83), (some (75, true)), .fa 0 (.tmp 7)⟩ <|
  .op ⟨(some 84), (some (75, true)), .ld (.tmp 83) (some 3)⟩ <|
  .op ⟨(some 85), (some (75, true)), .call n_value_Compare [(.tmp 82), (.tmp 84)]⟩ <|
  .op ⟨(some 86), (some (75, true)), .bin .geq (.tmp 85) (.const (.int .i64 0))⟩ <|
  .op ⟨(some 87), (some (72, false)), .pick (.tmp 75) (.tmp 86) (.const (.bool false))⟩ <|
  .op ⟨(some 88), none, .pick (.tmp 72) (.const (.bool true)) (.tmp 87)⟩ <|
  .done
@[simp] def hist_checker_saw_r11 : List VOp :=
  [⟨(some 4), none, .mov (.const (.bool false))⟩]
@[simp] def hist_checker_saw_r12 : List VOp :=
  [⟨(some 89), none, .mov (.tmp 5)⟩,
   ⟨(some 90), none, .ld (.tmp 8) (some 4)⟩,
   ⟨(some 91), none, .fa 3 (.tmp 7)⟩,
   ⟨(some 92), none, .ld (.tmp 91) (some 2)⟩,
   ⟨none, none, .mset (true, [.i .i64, .b, .i .i64, .s], true) (.tmp 89) (.tmp 90) (.tmp 92)⟩]
@[simp] def hist_checker_saw_r13 : List VOp :=
  [⟨(some 93), none, .bin .add (.tmp 47) (.const (.int .i64 1))⟩,
   ⟨(some 47), none, .mov (.tmp 93)⟩]
def hist_checker_saw_l14 : VCode :=
  (.seq (.reg hist_checker_saw_r7) (.seq (.cond (.tmp 48) .skip (.exit 0)) (.seq (.block 1 (.seq (.reg hist_checker_saw_r8) (.seq (.reg hist_checker_saw_r9) (.seq (.seq (.any hist_checker_saw_t10) (.cond (.tmp 88) (.seq (.reg hist_checker_saw_r11) .ret) .skip)) (.reg hist_checker_saw_r12))))) (.reg hist_checker_saw_r13))))
@[simp] def hist_checker_saw_t15 : VT :=
  .op ⟨(some 94), none, .mov (.tmp 0)⟩ <|
  .op ⟨(some 95), none, .chk (.tmp 94)⟩ <|
  .op ⟨(some 96), none, .fa 5 (.tmp 95)⟩ <|
  .op ⟨(some 97), none, .ld (.tmp 96) none⟩ <|
  .op ⟨(some 98), none, .fa 0 (.tmp 3)⟩ <|
  .op ⟨(some 99), none, .ld (.tmp 98) none⟩ <|
  .op ⟨(some 100), none, .lkp (false, [.i .i64], false) [.nil 4] (.tmp 97) (.tmp 99) false⟩ <|
  .op ⟨(some 101), none, .len (.tmp 100)⟩ <|
  .op ⟨(some 102), none, .mov (.const (.int .i64 0))⟩ <|
  .done
@[simp] def hist_checker_saw_r16 : List VOp :=
  [⟨(some 103), none, .bin .lss (.tmp 102) (.tmp 101)⟩]
@[simp] def hist_checker_saw_r17 : List VOp :=
  [⟨(some 104), none, .ia 4 (.tmp 100) (.tmp 102)⟩,
   ⟨(some 105), none, .ld (.tmp 104) (some 4)⟩,
   ⟨(some 10), none, .alloc [.iv (.v (.int .i64 0)), .iv (.v (.bool false)), .iv (.v (.int .i64 0)), .iv (.v (.string ⟨#[]⟩))]⟩,
   ⟨none, none, .st (.tmp 10) (.tmp 105) 4⟩]
@[simp] def hist_checker_saw_t18 : VT :=
  .op ⟨(some 106), none, .fa 0 (.tmp 10)⟩ <|
  .op ⟨(some 107), none, .ld (.tmp 106) none⟩ <|
  .op ⟨(some 108), none, .fa 3 (.tmp 3)⟩ <|
  .op ⟨(some 109), none, .ld (.tmp 108) none⟩ <|
  .op ⟨(some 110), none, .bin .eql (.tmp 107) (.tmp 109)⟩ <|
  .op ⟨(some 111), none, .mov (.tmp 110)⟩ <|
  .op ⟨(some 112), (some (111, true)), .mov (.tmp 5)⟩ <|
  .op ⟨(some 113), (some (111, true)), .ld (.tmp 10) (some 4)⟩ <|
  .op ⟨(some 114), (some (111, true)), .lkp (true, [.i .i64, .b, .i .i64, .s], true) [.iv (.v (.int .i64 0)), .iv (.v (.int .i64 0))] (.tmp 112) (.tmp 113) false⟩ <|
  .op ⟨(some 115), (some (111, true)), .fa 0 (.tmp 3)⟩ <|
  .op ⟨(some 116), (some (111, true)), .ld (.tmp 115) none⟩ <|
  .op ⟨(some 117), (some (111, true)), .mov (.tmp 0)⟩ <|
  .op ⟨(some 118), (some (111, true)), .chk (.tmp 117)⟩ <|
  .op ⟨(some 119), (some (111, true)), .fa 4 (.tmp 118)⟩ <|
  .op ⟨(some 120), (some (111, true)), .ld (.tmp 119) none⟩ <|
  .op ⟨(some 121), (some (111, true)), .fa 0 (.tmp 3)⟩ <|
  .op ⟨(some 122), (some (111, true)), .ld (.tmp 121) none⟩ <|
  .op ⟨(some 123), (some (111, true)), .ld (.tmp 10) (some 4)⟩ <|
  .op ⟨(some 124), (some (111, true)), .build [.iv (.v (.int .i64 0)), .iv (.v (.int .i64 0)), .iv (.v (.bool false)), .iv (.v (.int .i64 0)), .iv (.v (.string ⟨#[]⟩))] [(0, 1, (.tmp 122)), (1, 4, (.tmp 123))]⟩ <|
  .op ⟨(some 125), (some (111, true)), .lkp (true, [.i .i64, .i .i64, .b, .i .i64, .s], false) [.iv (.v (.int .i64 0))] (.tmp 120) (.tmp 124) false⟩ <|
  .op ⟨(some 126), (some (111, true)), .build [.iv (.v (.int .i64 0)), .iv (.v (.int .i64 0))] [(0, 1, (.tmp 116)), (1, 1, (.tmp 125))]⟩ <|
  .op ⟨(some 127), (some (111, true)), .eqs true [.i .i64, .i .i64] (.tmp 114) (.tmp 126)⟩ <|
  .op ⟨(some 128), none, .pick (.tmp 111) (.tmp 127) (.const (.bool false))⟩ <|
  .done
@[simp] def hist_checker_saw_r19 : List VOp :=
  [⟨(some 4), none, .mov (.const (.bool false))⟩]
@[simp] def hist_checker_saw_r20 : List VOp :=
  [⟨(some 129), none, .bin .add (.tmp 102) (.const (.int .i64 1))⟩,
   ⟨(some 102), none, .mov (.tmp 129)⟩]
def hist_checker_saw_l21 : VCode :=
  (.seq (.reg hist_checker_saw_r16) (.seq (.cond (.tmp 103) .skip (.exit 2)) (.seq (.block 3 (.seq (.reg hist_checker_saw_r17) (.seq (.any hist_checker_saw_t18) (.cond (.tmp 128) (.seq (.reg hist_checker_saw_r19) .ret) .skip)))) (.reg hist_checker_saw_r20))))
@[simp] def hist_checker_saw_r22 : List VOp :=
  [⟨(some 4), none, .mov (.const (.bool true))⟩]
def hist_checker_saw : VCode := (.seq (.reg hist_checker_saw_r0) (.seq (.seq (.reg hist_checker_saw_r1) (.cond (.tmp 13) (.seq (.reg hist_checker_saw_r2) .ret) .skip)) (.seq (.seq (.any hist_checker_saw_t3) (.cond (.tmp 42) (.seq (.reg hist_checker_saw_r4) .ret) .skip)) (.seq (.reg hist_checker_saw_r5) (.seq (.seq (.reg hist_checker_saw_r6) (.block 0 (.loop hist_checker_saw_l14))) (.seq (.seq (.any hist_checker_saw_t15) (.block 2 (.loop hist_checker_saw_l21))) (.seq (.reg hist_checker_saw_r22) .ret)))))))
theorem hist_checker_saw_is : fnV prog n_hist_checker_saw = some (130, hist_checker_saw, [.tmp 4]) := by kernel_rfl

/- hist_checker_write -/
@[simp] def hist_checker_write_r0 : List VOp :=
  [⟨(some 3), none, .box (.tmp 1)⟩,
   ⟨(some 4), none, .mov (.const (.bool false))⟩]
@[simp] def hist_checker_write_r1 : List VOp :=
  [⟨(some 7), none, .fa 1 (.tmp 3)⟩,
   ⟨(some 8), none, .ld (.tmp 7) none⟩,
   ⟨(some 9), none, .bin .neq (.tmp 8) (.const (.int .i64 3))⟩]
@[simp] def hist_checker_write_r2 : List VOp :=
  [⟨(some 4), none, .mov (.const (.bool true))⟩]
@[simp] def hist_checker_write_r3 : List VOp :=
  [⟨(some 10), none, .fa 3 (.tmp 3)⟩,
   ⟨(some 11), none, .ld (.tmp 10) none⟩,
   ⟨(some 12), none, .fa 4 (.tmp 3)⟩,
   ⟨(some 13), none, .ld (.tmp 12) (some 3)⟩,
   ⟨(some 14), none, .build [.iv (.v (.int .i64 0)), .iv (.v (.bool false)), .iv (.v (.int .i64 0)), .iv (.v (.string ⟨#[]⟩))] [(0, 1, (.tmp 11)), (1, 3, (.tmp 13))]⟩,
   ⟨(some 5), none, .alloc [.iv (.v (.int .i64 0)), .iv (.v (.bool false)), .iv (.v (.int .i64 0)), .iv (.v (.string ⟨#[]⟩))]⟩,
   ⟨none, none, .st (.tmp 5) (.tmp 14) 4⟩]
@[simp] def hist_checker_write_r4 : List VOp :=
  [⟨(some 15), none, .fa 0 (.tmp 3)⟩,
   ⟨(some 16), none, .ld (.tmp 15) none⟩,
   ⟨(some 17), none, .ld (.tmp 5) (some 4)⟩,
   ⟨(some 18), none, .build [.iv (.v (.int .i64 0)), .iv (.v (.int .i64 0)), .iv (.v (.bool false)), .iv (.v (.int .i64 0)), .iv (.v (.string ⟨#[]⟩))] [(0, 1, (.tmp 16)), (1, 4, (.tmp 17))]⟩,
   ⟨(some 6), none, .alloc [.iv (.v (.int .i64 0)), .iv (.v (.int .i64 0)), .iv (.v (.bool false)), .iv (.v (.int .i64 0)), .iv (.v (.string ⟨#[]⟩))]⟩,
   ⟨none, none, .st (.tmp 6) (.tmp 18) 5⟩]
@[simp] def hist_checker_write_t5 : VT :=
  .op ⟨(some 19), none, .mov (.tmp 0)⟩ <|
  .op ⟨(some 20), none, .fa 3 (.tmp 3)⟩ <|
  .op ⟨(some 21), none, .ld (.tmp 20) none⟩ <|
  .op ⟨(some 22), none, .fa 4 (.tmp 3)⟩ <|
  .op ⟨(some 23), none, .ld (.tmp 22) (some 3)⟩ <|
  .op ⟨(some 24), none, .call n_hist_checker_key [(.tmp 19), (.tmp 21), (.tmp 23)]⟩ <|
  .op ⟨(some 25), none, .un .not (.tmp 24)⟩ <|
  .op ⟨(some 26), none, .mov (.tmp 25)⟩ <|
  .op ⟨(some 27), (some (26, false)), .fa 9 (.tmp 3)⟩ <|
  .op ⟨(some 28), (some (26, false)), .ld (.tmp 27) none⟩ <|
  .op ⟨(some 29), (some (26, false)), .mov (.tmp 0)⟩ <|
  .op ⟨(some 30), (some (26, false)), .chk (.tmp 29)⟩ <|
  .op ⟨(some 31), (some (26, false)), .fa 4 (.tmp 30)⟩ <|
  .op ⟨(some 32), (some (26, false)), .ld (.tmp 31) none⟩ <|
  .op ⟨(some 33), (some (26, false)), .ld (.tmp 6) (some 5)⟩ <|
  .op ⟨(some 34), (some (26, false)), .lkp (true, [.i .i64, .i .i64, .b, .i .i64, .s], false) [.iv (.v (.int .i64 0))] (.tmp 32) (.tmp 33) false⟩ <|
  .op ⟨(some 35), (some (26, false)), .bin .add (.tmp 34) (.const (.int .i64 1))⟩ <|
  .op ⟨(some 36), (some (26, false)), .bin .neq (.tmp 28) (.tmp 35)⟩ <|
  .op ⟨(some 37), none, .pick (.tmp 26) (.const (.bool true)) (.tmp 36)⟩ <|
  .done
@[simp] def hist_checker_write_r6 : List VOp :=
  [⟨(some 4), none, .mov (.const (.bool false))⟩]
@[simp] def hist_checker_write_r7 : List VOp :=
  [⟨(some 38), none, .fa 9 (.tmp 3)⟩,
   ⟨(some 39), none, .ld (.tmp 38) none⟩,
   ⟨(some 40), none, .bin .eql (.tmp 39) (.const (.int .i64 1))⟩]
@[simp] def hist_checker_write_t8 : VT :=
  .op ⟨(some 41), none, .mov (.tmp 0)⟩ <|
  .op ⟨(some 42), none, .chk (.tmp 41)⟩ <|
  .op ⟨(some 43), none, .fa 5 (.tmp 42)⟩ <|
  .op ⟨(some 45), none, .fa 0 (.tmp 3)⟩ <|
  .op ⟨(some 47), none, .mov (.tmp 0)⟩ <|
  .op ⟨(some 48), none, .chk (.tmp 47)⟩ <|
  .op ⟨(some 49), none, .fa 5 (.tmp 48)⟩ <|
  .op ⟨(some 50), none, .ld (.tmp 49) none⟩ <|
  .op ⟨(some 51), none, .fa 0 (.tmp 3)⟩ <|
  .op ⟨(some 52), none, .ld (.tmp 51) none⟩ <|
  .op ⟨(some 53), none, .lkp (false, [.i .i64], false) [.nil 4] (.tmp 50) (.tmp 52) false⟩ <|
  .op ⟨(some 54), none, .ld (.tmp 5) (some 4)⟩ <|
  .alt (
   .op ⟨(some 44), none, .ld (.tmp 43) none⟩ <|
   .alt (
    .op ⟨(some 46), none, .ld (.tmp 45) none⟩ <|
    .op ⟨(some 55), none, .lit 4 1 [(0, (.tmp 54))]⟩ <|
    .op ⟨(some 56), none, .app 4 40 (.tmp 53) (.tmp 55)⟩ <|
    .op ⟨none, none, .mset (false, [.i .i64], false) (.tmp 44) (.tmp 46) (.tmp 56)⟩ <|
    .done) (
    .op ⟨(some 55), none, .lit 4 1 [(0, (.tmp 54))]⟩ <|
    .alt (
     .op ⟨(some 46), none, .ld (.tmp 45) none⟩ <|
     .op ⟨(some 56), none, .app 4 40 (.tmp 53) (.tmp 55)⟩ <|
     .op ⟨none, none, .mset (false, [.i .i64], false) (.tmp 44) (.tmp 46) (.tmp 56)⟩ <|
     .done) (
     .op ⟨(some 56), none, .app 4 40 (.tmp 53) (.tmp 55)⟩ <|
     .op ⟨(some 46), none, .ld (.tmp 45) none⟩ <|
     .op ⟨none, none, .mset (false, [.i .i64], false) (.tmp 44) (.tmp 46) (.tmp 56)⟩ <|
     .done))) (
   .alt (
    .op ⟨(some 46), none, .ld (.tmp 45) none⟩ <|
    .alt (
     .op ⟨(some 44), none, .ld (.tmp 43) none⟩ <|
     .op ⟨(some 55), none, .lit 4 1 [(0, (.tmp 54))]⟩ <|
     .op ⟨(some 56), none, .app 4 40 (.tmp 53) (.tmp 55)⟩ <|
     .op ⟨none, none, .mset (false, [.i .i64], false) (.tmp 44) (.tmp 46) (.tmp 56)⟩ <|
     .done) (
     .op ⟨(some 55), none, .lit 4 1 [(0, (.tmp 54))]⟩ <|
     .alt (
      .op ⟨(some 44), none, .ld (.tmp 43) none⟩ <|
      .op ⟨(some 56), none, .app 4 40 (.tmp 53) (.tmp 55)⟩ <|
      .op ⟨none, none, .mset (false, [.i .i64], false) (.tmp 44) (.tmp 46) (.tmp 56)⟩ <|
      .done) (
      .op ⟨(some 56), none, .app 4 40 (.tmp 53) (.tmp 55)⟩ <|
      .op ⟨(some 44), none, .ld (.tmp 43) none⟩ <|
      .op ⟨none, none, .mset (false, [.i .i64], false) (.tmp 44) (.tmp 46) (.tmp 56)⟩ <|
      .done))) (
    .op ⟨(some 55), none, .lit 4 1 [(0, (.tmp 54))]⟩ <|
    .alt (
     .op ⟨(some 44), none, .ld (.tmp 43) none⟩ <|
     .alt (
      .op ⟨(some 46), none, .ld (.tmp 45) none⟩ <|
      .op ⟨(some 56), none, .app 4 40 (.tmp 53) (.tmp 55)⟩ <|
      .op ⟨none, none, .mset (false, [.i .i64], false) (.tmp 44) (.tmp 46) (.tmp 56)⟩ <|
      .done) (
      .op ⟨(some 56), none, .app 4 40 (.tmp 53) (.tmp 55)⟩ <|
      .op ⟨(some 46), none, .ld (.tmp 45) none⟩ <|
      .op ⟨none, none, .mset (false, [.i .i64], false) (.tmp 44) (.tmp 46) (.tmp 56)⟩ <|
      .done)) (
     .alt (
      .op ⟨(some 46), none, .ld (.tmp 45) none⟩ <|
      .alt (
       .op ⟨(some 44), none, .ld (.tmp 43) none⟩ <|
       .op ⟨(some 56), none, .app 4 40 (.tmp 53) (.tmp 55)⟩ <|
       .op ⟨none, none, .mset (false, [.i .i64], false) (.tmp 44) (.tmp 46) (.tmp 56)⟩ <|
       .done) (
       .op ⟨(some 56), none, .app 4 40 (.tmp 53) (.tmp 55)⟩ <|
       .op ⟨(some 44), none, .ld (.tmp 43) none⟩ <|
       .op ⟨none, none, .mset (false, [.i .i64], false) (.tmp 44) (.tmp 46) (.tmp 56)⟩ <|
       .done)) (
      .op ⟨(some 56), none, .app 4 40 (.tmp 53) (.tmp 55)⟩ <|
      .op ⟨(some 44), none, .ld (.tmp 43) none⟩ <|
      .op ⟨(some 46), none, .ld (.tmp 45) none⟩ <|
      .op ⟨none, none, .mset (false, [.i .i64], false) (.tmp 44) (.tmp 46) (.tmp 56)⟩ <|
      .done))))
@[simp] def hist_checker_write_t9 : VT :=
  .op ⟨(some 57), none, .mov (.tmp 0)⟩ <|
  .op ⟨(some 58), none, .chk (.tmp 57)⟩ <|
  .op ⟨(some 59), none, .fa 4 (.tmp 58)⟩ <|
  .op ⟨(some 60), none, .ld (.tmp 59) none⟩ <|
  .op ⟨(some 61), none, .ld (.tmp 6) (some 5)⟩ <|
  .op ⟨(some 62), none, .fa 9 (.tmp 3)⟩ <|
  .op ⟨(some 63), none, .ld (.tmp 62) none⟩ <|
  .op ⟨none, none, .mset (true, [.i .i64, .i .i64, .b, .i .i64, .s], false) (.tmp 60) (.tmp 61) (.tmp 63)⟩ <|
  .done
@[simp] def hist_checker_write_t10 : VT :=
  .op ⟨(some 64), none, .fa 10 (.tmp 3)⟩ <|
  .op ⟨(some 65), none, .ld (.tmp 64) none⟩ <|
  .op ⟨(some 66), none, .len (.tmp 65)⟩ <|
  .op ⟨(some 67), none, .bin .eql (.tmp 66) (.const (.int .i64 0))⟩ <|
  .op ⟨(some 68), none, .mov (.tmp 67)⟩ <|
  .op ⟨(some 69), (some (68, false)), .mov (.tmp 0)⟩ <|
  .op ⟨(some 70), (some (68, false)), .chk (.tmp 69)⟩ <|
  .op ⟨(some 71), (some (68, false)), .fa 0 (.tmp 70)⟩ <|
  .op ⟨(some 72), (some (68, false)), .fa 0 (.tmp 71)⟩ <|
  .op ⟨(some 73), (some (68, false)), .ld (.tmp 72) none⟩ <|
  .op ⟨(some 74), (some (68, false)), .fa 3 (.tmp 3)⟩ <|
  .op ⟨(some 75), (some (68, false)), .ld (.tmp 74) none⟩ <|
  .op ⟨(some 76), (some (68, false)), .ia 1 (.tmp 73) (.tmp 75)⟩ <|
  .op ⟨(some 77), (some (68, false)), .ld (.tmp 76) (some 1)⟩ <|
  .op ⟨(some 78), (some (68, false)), .fa 10 (.tmp 3)⟩ <|
  .op ⟨(some 79), (some (68, false)), .ld (.tmp 78) none⟩ <|
  .op ⟨(some 80), (some (68, false)), .call n_row_Fits [(.tmp 77), (.tmp 79)]⟩ <|
  .op ⟨(some 81), (some (68, false)), .mov (.tmp 80)⟩ <|
  .op ⟨(some 82), (some (81, true)), .fa 10 (.tmp 3)⟩ <|
  .op ⟨(some 83), (some (81, true)), .ld (.tmp 82) none⟩ <|
  .op ⟨(some 84), (some (81, true)), .ia 3 (.tmp 83) (.const (.int .i64 0))⟩ <|
  .op ⟨(some 85), (some (81, true)), .ld (.tmp 84) (some 3)⟩ <|
  .op ⟨(some 86), (some (81, true)), .fa 4 (.tmp 3)⟩ <|
  .op ⟨(some 87), (some (81, true)), .ld (.tmp 86) (some 3)⟩ <|
  .op ⟨(some 88), (some (81, true)), .eqs false [.b, .i .i64, .s] (.tmp 85) (.tmp 87)⟩ <|
  .op ⟨(some 89), (some (68, false)), .pick (.tmp 81) (.tmp 88) (.const (.bool false))⟩ <|
  .op ⟨(some 90), none, .pick (.tmp 68) (.const (.bool true)) (.tmp 89)⟩ <|
  .op ⟨(some 4), none, .mov (.tmp 90)⟩ <|
  .done
def hist_checker_write : VCode := (.seq (.reg hist_checker_write_r0) (.seq (.seq (.reg hist_checker_write_r1) (.cond (.tmp 9) (.seq (.reg hist_checker_write_r2) .ret) .skip)) (.seq (.reg hist_checker_write_r3) (.seq (.reg hist_checker_write_r4) (.seq (.seq (.any hist_checker_write_t5) (.cond (.tmp 37) (.seq (.reg hist_checker_write_r6) .ret) .skip)) (.seq (.seq (.reg hist_checker_write_r7) (.cond (.tmp 40) (.any hist_checker_write_t8) .skip)) (.seq (.any hist_checker_write_t9) (.seq (.any hist_checker_write_t10) .ret))))))))
theorem hist_checker_write_is : fnV prog n_hist_checker_write = some (91, hist_checker_write, [.tmp 4]) := by kernel_rfl

/- hist_checker_order -/
@[simp] def hist_checker_order_r0 : List VOp :=
  [⟨(some 2), none, .mov (.const (.bool false))⟩]
@[simp] def hist_checker_order_r1 : List VOp :=
  [⟨(some 15), none, .mkmap (true, [.i .i64, .i .i64, .b, .i .i64, .s], false)⟩,
   ⟨(some 3), none, .mov (.tmp 15)⟩]
@[simp] def hist_checker_order_r2 : List VOp :=
  [⟨(some 16), none, .mov (.tmp 0)⟩,
   ⟨(some 17), none, .chk (.tmp 16)⟩,
   ⟨(some 18), none, .fa 5 (.tmp 17)⟩,
   ⟨(some 19), none, .ld (.tmp 18) none⟩,
   ⟨(some 20), none, .rng (false, [.i .i64], false) (.tmp 19)⟩]
@[simp] def hist_checker_order_r3 : List VOp :=
  [⟨(some 21), none, .nxt (.tmp 20)⟩,
   ⟨(some 22), none, .ext 0 (.tmp 21)⟩]
@[simp] def hist_checker_order_r4 : List VOp :=
  [⟨(some 23), none, .ent (.tmp 20)⟩,
   ⟨(some 24), none, .ext 0 (.tmp 23)⟩,
   ⟨(some 25), none, .ext 1 (.tmp 23)⟩,
   ⟨(some 4), none, .mov (.tmp 24)⟩,
   ⟨(some 5), none, .mov (.tmp 25)⟩]
@[simp] def hist_checker_order_r5 : List VOp :=
  [⟨(some 26), none, .mov (.tmp 0)⟩,
   ⟨(some 27), none, .chk (.tmp 26)⟩,
   ⟨(some 28), none, .fa 3 (.tmp 27)⟩,
   ⟨(some 29), none, .ld (.tmp 28) none⟩,
   ⟨(some 30), none, .mov (.tmp 4)⟩,
   ⟨(some 31), none, .lkp (false, [.i .i64], false) [.iv (.v (.int .i64 0))] (.tmp 29) (.tmp 30) false⟩,
   ⟨(some 32), none, .bin .eql (.tmp 31) (.const (.int .i64 5))⟩]
@[simp] def hist_checker_order_r6 : List VOp :=
  [⟨(some 33), none, .mov (.tmp 5)⟩,
   ⟨(some 34), none, .len (.tmp 33)⟩,
   ⟨(some 35), none, .mov (.const (.int .i64 0))⟩]
@[simp] def hist_checker_order_r7 : List VOp :=
  [⟨(some 36), none, .bin .lss (.tmp 35) (.tmp 34)⟩]
@[simp] def hist_checker_order_r8 : List VOp :=
  [⟨(some 37), none, .ia 4 (.tmp 33) (.tmp 35)⟩,
   ⟨(some 38), none, .ld (.tmp 37) (some 4)⟩,
   ⟨(some 7), none, .alloc [.iv (.v (.int .i64 0)), .iv (.v (.bool false)), .iv (.v (.int .i64 0)), .iv (.v (.string ⟨#[]⟩))]⟩,
   ⟨none, none, .st (.tmp 7) (.tmp 38) 4⟩]
@[simp] def hist_checker_order_r9 : List VOp :=
  [⟨(some 39), none, .mov (.tmp 3)⟩,
   ⟨(some 40), none, .mov (.tmp 4)⟩,
   ⟨(some 41), none, .ld (.tmp 7) (some 4)⟩,
   ⟨(some 42), none, .build [.iv (.v (.int .i64 0)), .iv (.v (.int .i64 0)), .iv (.v (.bool false)), .iv (.v (.int .i64 0)), .iv (.v (.string ⟨#[]⟩))] [(0, 1, (.tmp 40)), (1, 4, (.tmp 41))]⟩,
   ⟨none, none, .mset (true, [.i .i64, .i .i64, .b, .i .i64, .s], false) (.tmp 39) (.tmp 42) (.const (.int .i64 1))⟩]
@[simp] def hist_checker_order_r10 : List VOp :=
  [⟨(some 43), none, .bin .add (.tmp 35) (.const (.int .i64 1))⟩,
   ⟨(some 35), none, .mov (.tmp 43)⟩]
def hist_checker_order_l11 : VCode :=
  (.seq (.reg hist_checker_order_r7) (.seq (.cond (.tmp 36) .skip (.exit 2)) (.seq (.block 3 (.seq (.reg hist_checker_order_r8) (.reg hist_checker_order_r9))) (.reg hist_checker_order_r10))))
def hist_checker_order_l12 : VCode :=
  (.seq (.reg hist_checker_order_r3) (.seq (.cond (.tmp 22) .skip (.exit 0)) (.block 1 (.seq (.reg hist_checker_order_r4) (.seq (.reg hist_checker_order_r5) (.cond (.tmp 32) (.seq (.reg hist_checker_order_r6) (.block 2 (.loop hist_checker_order_l11))) .skip))))))
@[simp] def hist_checker_order_r13 : List VOp :=
  [⟨(some 44), none, .mkmap (true, [.i .i64, .b, .i .i64, .s], false)⟩,
   ⟨(some 8), none, .mov (.tmp 44)⟩]
@[simp] def hist_checker_order_r14 : List VOp :=
  [⟨(some 45), none, .mov (.tmp 0)⟩,
   ⟨(some 46), none, .chk (.tmp 45)⟩,
   ⟨(some 47), none, .fa 0 (.tmp 46)⟩,
   ⟨(some 48), none, .fa 2 (.tmp 47)⟩,
   ⟨(some 49), none, .ld (.tmp 48) none⟩,
   ⟨(some 50), none, .len (.tmp 49)⟩,
   ⟨(some 51), none, .mov (.const (.int .i64 0))⟩]
@[simp] def hist_checker_order_r15 : List VOp :=
  [⟨(some 52), none, .bin .lss (.tmp 51) (.tmp 50)⟩]
@[simp] def hist_checker_order_r16 : List VOp :=
  [⟨(some 53), none, .ia 5 (.tmp 49) (.tmp 51)⟩,
   ⟨(some 54), none, .ld (.tmp 53) (some 5)⟩,
   ⟨(some 10), none, .alloc [.iv (.v (.int .i64 0)), .iv (.v (.bool false)), .iv (.v (.int .i64 0)), .iv (.v (.string ⟨#[]⟩)), .nil 1]⟩,
   ⟨none, none, .st (.tmp 10) (.tmp 54) 5⟩]
@[simp] def hist_checker_order_r17 : List VOp :=
  [⟨(some 55), none, .fa 0 (.tmp 10)⟩,
   ⟨(some 56), none, .ld (.tmp 55) none⟩,
   ⟨(some 57), none, .fa 1 (.tmp 10)⟩,
   ⟨(some 58), none, .ld (.tmp 57) (some 3)⟩,
   ⟨(some 59), none, .build [.iv (.v (.int .i64 0)), .iv (.v (.bool false)), .iv (.v (.int .i64 0)), .iv (.v (.string ⟨#[]⟩))] [(0, 1, (.tmp 56)), (1, 3, (.tmp 58))]⟩,
   ⟨(some 11), none, .alloc [.iv (.v (.int .i64 0)), .iv (.v (.bool false)), .iv (.v (.int .i64 0)), .iv (.v (.string ⟨#[]⟩))]⟩,
   ⟨none, none, .st (.tmp 11) (.tmp 59) 4⟩]
@[simp] def hist_checker_order_t18 : VT :=
  .op ⟨(some 60), none, .mov (.tmp 8)⟩ <|
  .op ⟨(some 61), none, .ld (.tmp 11) (some 4)⟩ <|
  .alt (
   .op ⟨(some 62), none, .lkp (true, [.i .i64, .b, .i .i64, .s], false) [.iv (.v (.int .i64 0))] (.tmp 60) (.tmp 61) false⟩ <|
   .op ⟨(some 63), none, .bin .add (.tmp 62) (.const (.int .i64 1))⟩ <|
   .op ⟨(some 64), none, .ment (true, [.i .i64, .b, .i .i64, .s], false) [.iv (.v (.int .i64 0))] (.tmp 60) (.tmp 61)⟩ <|
   .op ⟨(some 65), none, .ext 1 (.tmp 64)⟩ <|
   .op ⟨none, none, .est (.tmp 60) (.tmp 65) (.tmp 63)⟩ <|
   .done) (
   .op ⟨(some 64), none, .ment (true, [.i .i64, .b, .i .i64, .s], false) [.iv (.v (.int .i64 0))] (.tmp 60) (.tmp 61)⟩ <|
   .op ⟨(some 62), none, .lkp (true, [.i .i64, .b, .i .i64, .s], false) [.iv (.v (.int .i64 0))] (.tmp 60) (.tmp 61) false⟩ <|
   .op ⟨(some 63), none, .bin .add (.tmp 62) (.const (.int .i64 1))⟩ <|
   .op ⟨(some 65), none, .ext 1 (.tmp 64)⟩ <|
   .op ⟨none, none, .est (.tmp 60) (.tmp 65) (.tmp 63)⟩ <|
   .done)
@[simp] def hist_checker_order_r19 : List VOp :=
  [⟨(some 66), none, .mov (.tmp 8)⟩,
   ⟨(some 67), none, .ld (.tmp 11) (some 4)⟩,
   ⟨(some 68), none, .lkp (true, [.i .i64, .b, .i .i64, .s], false) [.iv (.v (.int .i64 0))] (.tmp 66) (.tmp 67) false⟩,
   ⟨(some 69), none, .bin .gtr (.tmp 68) (.const (.int .i64 1))⟩,
   ⟨(some 70), none, .mov (.tmp 69)⟩,
   ⟨(some 71), (some (70, false)), .fa 4 (.tmp 10)⟩,
   ⟨(some 72), (some (70, false)), .ld (.tmp 71) none⟩,
   ⟨(some 73), (some (70, false)), .len (.tmp 72)⟩,
   ⟨(some 74), (some (70, false)), .bin .eql (.tmp 73) (.const (.int .i64 0))⟩,
   ⟨(some 75), none, .pick (.tmp 70) (.const (.bool true)) (.tmp 74)⟩]
@[simp] def hist_checker_order_r20 : List VOp :=
  [⟨(some 2), none, .mov (.const (.bool false))⟩]
@[simp] def hist_checker_order_r21 : List VOp :=
  [⟨(some 76), none, .fa 4 (.tmp 10)⟩,
   ⟨(some 77), none, .ld (.tmp 76) none⟩,
   ⟨(some 78), none, .len (.tmp 77)⟩,
   ⟨(some 79), none, .mov (.const (.int .i64 0))⟩]
@[simp] def hist_checker_order_r22 : List VOp :=
  [⟨(some 80), none, .bin .lss (.tmp 79) (.tmp 78)⟩]
@[simp] def hist_checker_order_r23 : List VOp :=
  [⟨(some 81), none, .ia 1 (.tmp 77) (.tmp 79)⟩,
   ⟨(some 82), none, .ld (.tmp 81) none⟩,
   ⟨(some 13), none, .mov (.tmp 82)⟩]
@[simp] def hist_checker_order_r24 : List VOp :=
  [⟨(some 83), none, .mov (.tmp 13)⟩,
   ⟨(some 84), none, .ld (.tmp 11) (some 4)⟩,
   ⟨(some 85), none, .build [.iv (.v (.int .i64 0)), .iv (.v (.int .i64 0)), .iv (.v (.bool false)), .iv (.v (.int .i64 0)), .iv (.v (.string ⟨#[]⟩))] [(0, 1, (.tmp 83)), (1, 4, (.tmp 84))]⟩,
   ⟨(some 14), none, .alloc [.iv (.v (.int .i64 0)), .iv (.v (.int .i64 0)), .iv (.v (.bool false)), .iv (.v (.int .i64 0)), .iv (.v (.string ⟨#[]⟩))]⟩,
   ⟨none, none, .st (.tmp 14) (.tmp 85) 5⟩]
@[simp] def hist_checker_order_r25 : List VOp :=
  [⟨(some 86), none, .mov (.tmp 3)⟩,
   ⟨(some 87), none, .ld (.tmp 14) (some 5)⟩,
   ⟨(some 88), none, .lkp (true, [.i .i64, .i .i64, .b, .i .i64, .s], false) [.iv (.v (.int .i64 0))] (.tmp 86) (.tmp 87) false⟩,
   ⟨(some 89), none, .bin .eql (.tmp 88) (.const (.int .i64 0))⟩]
@[simp] def hist_checker_order_r26 : List VOp :=
  [⟨(some 2), none, .mov (.const (.bool false))⟩]
@[simp] def hist_checker_order_r27 : List VOp :=
  [⟨(some 90), none, .mov (.tmp 3)⟩,
   ⟨(some 91), none, .ld (.tmp 14) (some 5)⟩,
   ⟨none, none, .mdel (true, [.i .i64, .i .i64, .b, .i .i64, .s], false) (.tmp 90) (.tmp 91)⟩]
@[simp] def hist_checker_order_r28 : List VOp :=
  [⟨(some 92), none, .bin .add (.tmp 79) (.const (.int .i64 1))⟩,
   ⟨(some 79), none, .mov (.tmp 92)⟩]
def hist_checker_order_l29 : VCode :=
  (.seq (.reg hist_checker_order_r22) (.seq (.cond (.tmp 80) .skip (.exit 6)) (.seq (.block 7 (.seq (.reg hist_checker_order_r23) (.seq (.reg hist_checker_order_r24) (.seq (.seq (.reg hist_checker_order_r25) (.cond (.tmp 89) (.seq (.reg hist_checker_order_r26) .ret) .skip)) (.reg hist_checker_order_r27))))) (.reg hist_checker_order_r28))))
@[simp] def hist_checker_order_r30 : List VOp :=
  [⟨(some 93), none, .bin .add (.tmp 51) (.const (.int .i64 1))⟩,
   ⟨(some 51), none, .mov (.tmp 93)⟩]
def hist_checker_order_l31 : VCode :=
  (.seq (.reg hist_checker_order_r15) (.seq (.cond (.tmp 52) .skip (.exit 4)) (.seq (.block 5 (.seq (.reg hist_checker_order_r16) (.seq (.reg hist_checker_order_r17) (.seq (.any hist_checker_order_t18) (.seq (.seq (.reg hist_checker_order_r19) (.cond (.tmp 75) (.seq (.reg hist_checker_order_r20) .ret) .skip)) (.seq (.reg hist_checker_order_r21) (.block 6 (.loop hist_checker_order_l29)))))))) (.reg hist_checker_order_r30))))
@[simp] def hist_checker_order_r32 : List VOp :=
  [⟨(some 94), none, .mov (.tmp 3)⟩,
   ⟨(some 95), none, .lenm (.tmp 94)⟩,
   ⟨(some 96), none, .bin .eql (.tmp 95) (.const (.int .i64 0))⟩,
   ⟨(some 2), none, .mov (.tmp 96)⟩]
def hist_checker_order : VCode := (.seq (.reg hist_checker_order_r0) (.seq (.reg hist_checker_order_r1) (.seq (.seq (.reg hist_checker_order_r2) (.block 0 (.loop hist_checker_order_l12))) (.seq (.reg hist_checker_order_r13) (.seq (.seq (.reg hist_checker_order_r14) (.block 4 (.loop hist_checker_order_l31))) (.seq (.reg hist_checker_order_r32) .ret))))))
theorem hist_checker_order_is : fnV prog n_hist_checker_order = some (97, hist_checker_order, [.tmp 2]) := by kernel_rfl

/- row_Check -/
@[simp] def row_Check_r0 : List VOp :=
  [⟨(some 1), none, .box (.tmp 0)⟩,
   ⟨(some 2), none, .mov (.const (.int .i64 0))⟩]
@[simp] def row_Check_r1 : List VOp :=
  [⟨(some 3), none, .fa 0 (.tmp 1)⟩,
   ⟨(some 4), none, .ld (.tmp 3) none⟩,
   ⟨(some 5), none, .len (.tmp 4)⟩,
   ⟨(some 6), none, .bin .lss (.tmp 5) (.const (.int .i64 1))⟩,
   ⟨(some 7), none, .mov (.tmp 6)⟩,
   ⟨(some 8), (some (7, false)), .fa 0 (.tmp 1)⟩,
   ⟨(some 9), (some (7, false)), .ld (.tmp 8) none⟩,
   ⟨(some 10), (some (7, false)), .len (.tmp 9)⟩,
   ⟨(some 11), (some (7, false)), .bin .gtr (.tmp 10) (.const (.int .i64 4))⟩,
   ⟨(some 12), none, .pick (.tmp 7) (.const (.bool true)) (.tmp 11)⟩]
@[simp] def row_Check_r2 : List VOp :=
  [⟨(some 2), none, .mov (.const (.int .i64 1))⟩]
@[simp] def row_Check_r3 : List VOp :=
  [⟨(some 2), none, .mov (.const (.int .i64 0))⟩]
def row_Check : VCode := (.seq (.reg row_Check_r0) (.seq (.seq (.reg row_Check_r1) (.cond (.tmp 12) (.seq (.reg row_Check_r2) .ret) .skip)) (.seq (.reg row_Check_r3) .ret)))
theorem row_Check_is : fnV prog n_row_Check = some (13, row_Check, [.tmp 2]) := by kernel_rfl

/- slices_Clone_bool_bool -/
@[simp] def slices_Clone_bool_bool_r0 : List VOp :=
  [⟨(some 2), none, .nils 1⟩]
@[simp] def slices_Clone_bool_bool_r1 : List VOp :=
  [⟨(some 3), none, .mov (.tmp 0)⟩,
   ⟨(some 4), none, .snil false (.tmp 3)⟩]
@[simp] def slices_Clone_bool_bool_r2 : List VOp :=
  [⟨(some 2), none, .nils 1⟩]
@[simp] def slices_Clone_bool_bool_r3 : List VOp :=
  [⟨(some 5), none, .lit 1 0 []⟩,
   ⟨(some 6), none, .mov (.tmp 0)⟩,
   ⟨(some 7), none, .app 1 1 (.tmp 5) (.tmp 6)⟩,
   ⟨(some 2), none, .mov (.tmp 7)⟩]
def slices_Clone_bool_bool : VCode := (.seq (.reg slices_Clone_bool_bool_r0) (.seq (.seq (.reg slices_Clone_bool_bool_r1) (.cond (.tmp 4) (.seq (.reg slices_Clone_bool_bool_r2) .ret) .skip)) (.seq (.reg slices_Clone_bool_bool_r3) .ret)))
theorem slices_Clone_bool_bool_is : fnV prog n_slices_Clone_bool_bool = some (8, slices_Clone_bool_bool, [.tmp 2]) := by kernel_rfl

/- slices_Clone_int_int -/
@[simp] def slices_Clone_int_int_r0 : List VOp :=
  [⟨(some 2), none, .nils 1⟩]
@[simp] def slices_Clone_int_int_r1 : List VOp :=
  [⟨(some 3), none, .mov (.tmp 0)⟩,
   ⟨(some 4), none, .snil false (.tmp 3)⟩]
@[simp] def slices_Clone_int_int_r2 : List VOp :=
  [⟨(some 2), none, .nils 1⟩]
@[simp] def slices_Clone_int_int_r3 : List VOp :=
  [⟨(some 5), none, .lit 1 0 []⟩,
   ⟨(some 6), none, .mov (.tmp 0)⟩,
   ⟨(some 7), none, .app 1 8 (.tmp 5) (.tmp 6)⟩,
   ⟨(some 2), none, .mov (.tmp 7)⟩]
def slices_Clone_int_int : VCode := (.seq (.reg slices_Clone_int_int_r0) (.seq (.seq (.reg slices_Clone_int_int_r1) (.cond (.tmp 4) (.seq (.reg slices_Clone_int_int_r2) .ret) .skip)) (.seq (.reg slices_Clone_int_int_r3) .ret)))
theorem slices_Clone_int_int_is : fnV prog n_slices_Clone_int_int = some (8, slices_Clone_int_int, [.tmp 2]) := by kernel_rfl

/- row_Clone -/
@[simp] def row_Clone_r0 : List VOp :=
  [⟨(some 2), none, .nils 3⟩]
@[simp] def row_Clone_r1 : List VOp :=
  [⟨(some 3), none, .mov (.tmp 0)⟩,
   ⟨(some 4), none, .call n_slices_Clone_api_Row_api_Value [(.tmp 3)]⟩,
   ⟨(some 2), none, .mov (.tmp 4)⟩]
def row_Clone : VCode := (.seq (.reg row_Clone_r0) (.seq (.reg row_Clone_r1) .ret))
theorem row_Clone_is : fnV prog n_row_Clone = some (5, row_Clone, [.tmp 2]) := by kernel_rfl

/- slices_Clone_api_Ref_api_Ref -/
@[simp] def slices_Clone_api_Ref_api_Ref_r0 : List VOp :=
  [⟨(some 2), none, .nils 5⟩]
@[simp] def slices_Clone_api_Ref_api_Ref_r1 : List VOp :=
  [⟨(some 3), none, .mov (.tmp 0)⟩,
   ⟨(some 4), none, .snil false (.tmp 3)⟩]
@[simp] def slices_Clone_api_Ref_api_Ref_r2 : List VOp :=
  [⟨(some 2), none, .nils 5⟩]
@[simp] def slices_Clone_api_Ref_api_Ref_r3 : List VOp :=
  [⟨(some 5), none, .lit 5 0 []⟩,
   ⟨(some 6), none, .mov (.tmp 0)⟩,
   ⟨(some 7), none, .app 5 48 (.tmp 5) (.tmp 6)⟩,
   ⟨(some 2), none, .mov (.tmp 7)⟩]
def slices_Clone_api_Ref_api_Ref : VCode := (.seq (.reg slices_Clone_api_Ref_api_Ref_r0) (.seq (.seq (.reg slices_Clone_api_Ref_api_Ref_r1) (.cond (.tmp 4) (.seq (.reg slices_Clone_api_Ref_api_Ref_r2) .ret) .skip)) (.seq (.reg slices_Clone_api_Ref_api_Ref_r3) .ret)))
theorem slices_Clone_api_Ref_api_Ref_is : fnV prog n_slices_Clone_api_Ref_api_Ref = some (8, slices_Clone_api_Ref_api_Ref, [.tmp 2]) := by kernel_rfl

/- pred_Clone -/
@[simp] def pred_Clone_r0 : List VOp :=
  [⟨(some 1), none, .box (.tmp 0)⟩,
   ⟨(some 2), none, .alloc [.iv (.v (.int .i64 0)), .iv (.v (.int .i64 0)), .iv (.v (.bool false)), .iv (.v (.int .i64 0)), .iv (.v (.string ⟨#[]⟩)), .iv (.v (.bool false)), .iv (.v (.int .i64 0)), .iv (.v (.string ⟨#[]⟩)), .nil 9]⟩]
@[simp] def pred_Clone_r1 : List VOp :=
  [⟨(some 4), none, .fa 8 (.tmp 1)⟩,
   ⟨(some 5), none, .ld (.tmp 4) none⟩,
   ⟨(some 6), none, .call n_slices_Clone_api_Pred_api_Pred [(.tmp 5)]⟩,
   ⟨(some 7), none, .fa 8 (.tmp 1)⟩,
   ⟨none, none, .st (.tmp 7) (.tmp 6) 1⟩]
@[simp] def pred_Clone_r2 : List VOp :=
  [⟨(some 8), none, .fa 8 (.tmp 1)⟩,
   ⟨(some 9), none, .ld (.tmp 8) none⟩,
   ⟨(some 10), none, .len (.tmp 9)⟩,
   ⟨(some 11), none, .mov (.const (.int .i64 0))⟩]
@[simp] def pred_Clone_r3 : List VOp :=
  [⟨(some 12), none, .bin .lss (.tmp 11) (.tmp 10)⟩]
@[simp] def pred_Clone_r4 : List VOp :=
  [⟨(some 13), none, .mov (.tmp 11)⟩,
   ⟨(some 3), none, .mov (.tmp 13)⟩]
@[simp] def pred_Clone_t5 : VT :=
  .op ⟨(some 14), none, .fa 8 (.tmp 1)⟩ <|
  .op ⟨(some 16), none, .mov (.tmp 3)⟩ <|
  .op ⟨(some 17), none, .fa 8 (.tmp 1)⟩ <|
  .op ⟨(some 18), none, .ld (.tmp 17) none⟩ <|
  .op ⟨(some 19), none, .mov (.tmp 3)⟩ <|
  .op ⟨(some 20), none, .ia 9 (.tmp 18) (.tmp 19)⟩ <|
  .op ⟨(some 21), none, .ld (.tmp 20) (some 9)⟩ <|
  .alt (
   .op ⟨(some 15), none, .ld (.tmp 14) none⟩ <|
   .op ⟨(some 22), none, .call n_pred_Clone [(.tmp 21)]⟩ <|
   .op ⟨(some 23), none, .ia 9 (.tmp 15) (.tmp 16)⟩ <|
   .op ⟨none, none, .st (.tmp 23) (.tmp 22) 9⟩ <|
   .done) (
   .op ⟨(some 22), none, .call n_pred_Clone [(.tmp 21)]⟩ <|
   .op ⟨(some 15), none, .ld (.tmp 14) none⟩ <|
   .op ⟨(some 23), none, .ia 9 (.tmp 15) (.tmp 16)⟩ <|
   .op ⟨none, none, .st (.tmp 23) (.tmp 22) 9⟩ <|
   .done)
@[simp] def pred_Clone_r6 : List VOp :=
  [⟨(some 24), none, .bin .add (.tmp 11) (.const (.int .i64 1))⟩,
   ⟨(some 11), none, .mov (.tmp 24)⟩]
def pred_Clone_l7 : VCode :=
  (.seq (.reg pred_Clone_r3) (.seq (.cond (.tmp 12) .skip (.exit 0)) (.seq (.block 1 (.seq (.reg pred_Clone_r4) (.any pred_Clone_t5))) (.reg pred_Clone_r6))))
@[simp] def pred_Clone_r8 : List VOp :=
  [⟨(some 25), none, .ld (.tmp 1) (some 9)⟩,
   ⟨none, none, .st (.tmp 2) (.tmp 25) 9⟩]
def pred_Clone : VCode := (.seq (.reg pred_Clone_r0) (.seq (.reg pred_Clone_r1) (.seq (.seq (.reg pred_Clone_r2) (.block 0 (.loop pred_Clone_l7))) (.seq (.reg pred_Clone_r8) .ret))))
theorem pred_Clone_is : fnV prog n_pred_Clone = some (26, pred_Clone, [.cell 2 (some 9)]) := by kernel_rfl

/- slices_Sorted_int -/
@[simp] def slices_Sorted_int_r0 : List VOp :=
  [⟨(some 2), none, .nils 1⟩]
@[simp] def slices_Sorted_int_r1 : List VOp :=
  [⟨(some 4), none, .mov (.tmp 0)⟩,
   ⟨(some 5), none, .call n_slices_Collect_int [(.tmp 4)]⟩,
   ⟨(some 3), none, .mov (.tmp 5)⟩]
@[simp] def slices_Sorted_int_r2 : List VOp :=
  [⟨(some 6), none, .mov (.tmp 3)⟩,
   ⟨(some 7), none, .call n_slices_Sort_int_int [(.tmp 6)]⟩]
@[simp] def slices_Sorted_int_r3 : List VOp :=
  [⟨(some 8), none, .mov (.tmp 3)⟩,
   ⟨(some 2), none, .mov (.tmp 8)⟩]
def slices_Sorted_int : VCode := (.seq (.reg slices_Sorted_int_r0) (.seq (.reg slices_Sorted_int_r1) (.seq (.reg slices_Sorted_int_r2) (.seq (.reg slices_Sorted_int_r3) .ret))))
theorem slices_Sorted_int_is : fnV prog n_slices_Sorted_int = some (9, slices_Sorted_int, [.tmp 2]) := by kernel_rfl

/- maps_Keys_map_int_int_int_int -/
@[simp] def maps_Keys_map_int_int_int_int_r0 : List VOp :=
  [⟨(some 1), none, .box (.tmp 0)⟩,
   ⟨(some 2), none, .mov (.const .nilFunc)⟩]
@[simp] def maps_Keys_map_int_int_int_int_r1 : List VOp :=
  [⟨(some 3), none, .mkfn n_maps_Keys_map_int_int_int_int_1 [] [(.tmp 1)]⟩,
   ⟨(some 2), none, .mov (.tmp 3)⟩]
def maps_Keys_map_int_int_int_int : VCode := (.seq (.reg maps_Keys_map_int_int_int_int_r0) (.seq (.reg maps_Keys_map_int_int_int_int_r1) .ret))
theorem maps_Keys_map_int_int_int_int_is : fnV prog n_maps_Keys_map_int_int_int_int = some (4, maps_Keys_map_int_int_int_int, [.tmp 2]) := by kernel_rfl

/- slices_IndexFunc_api_Event_api_Event -/
@[simp] def slices_IndexFunc_api_Event_api_Event_r0 : List VOp :=
  [⟨(some 4), none, .mov (.const (.int .i64 0))⟩]
@[simp] def slices_IndexFunc_api_Event_api_Event_r1 : List VOp :=
  [⟨(some 6), none, .mov (.tmp 0)⟩,
   ⟨(some 7), none, .len (.tmp 6)⟩,
   ⟨(some 8), none, .mov (.const (.int .i64 0))⟩]
@[simp] def slices_IndexFunc_api_Event_api_Event_r2 : List VOp :=
  [⟨(some 9), none, .bin .lss (.tmp 8) (.tmp 7)⟩]
@[simp] def slices_IndexFunc_api_Event_api_Event_r3 : List VOp :=
  [⟨(some 10), none, .mov (.tmp 8)⟩,
   ⟨(some 5), none, .mov (.tmp 10)⟩]
@[simp] def slices_IndexFunc_api_Event_api_Event_r4 : List VOp :=
  [⟨(some 11), none, .mov (.tmp 1)⟩,
   ⟨(some 12), none, .mov (.tmp 0)⟩,
   ⟨(some 13), none, .mov (.tmp 5)⟩,
   ⟨(some 14), none, .ia 22 (.tmp 12) (.tmp 13)⟩,
   ⟨(some 15), none, .ld (.tmp 14) (some 22)⟩,
   ⟨(some 16), none, .callv (.tmp 11) [(.tmp 15)]⟩]
@[simp] def slices_IndexFunc_api_Event_api_Event_r5 : List VOp :=
  [⟨(some 17), none, .mov (.tmp 5)⟩,
   ⟨(some 4), none, .mov (.tmp 17)⟩]
@[simp] def slices_IndexFunc_api_Event_api_Event_r6 : List VOp :=
  [⟨(some 18), none, .bin .add (.tmp 8) (.const (.int .i64 1))⟩,
   ⟨(some 8), none, .mov (.tmp 18)⟩]
def slices_IndexFunc_api_Event_api_Event_l7 : VCode :=
  (.seq (.reg slices_IndexFunc_api_Event_api_Event_r2) (.seq (.cond (.tmp 9) .skip (.exit 0)) (.seq (.block 1 (.seq (.reg slices_IndexFunc_api_Event_api_Event_r3) (.seq (.reg slices_IndexFunc_api_Event_api_Event_r4) (.cond (.tmp 16) (.seq (.reg slices_IndexFunc_api_Event_api_Event_r5) .ret) .skip)))) (.reg slices_IndexFunc_api_Event_api_Event_r6))))
@[simp] def slices_IndexFunc_api_Event_api_Event_r8 : List VOp :=
  [⟨(some 4), none, .mov (.const (.int .i64 (-1)))⟩]
def slices_IndexFunc_api_Event_api_Event : VCode := (.seq (.reg slices_IndexFunc_api_Event_api_Event_r0) (.seq (.seq (.reg slices_IndexFunc_api_Event_api_Event_r1) (.block 0 (.loop slices_IndexFunc_api_Event_api_Event_l7))) (.seq (.reg slices_IndexFunc_api_Event_api_Event_r8) .ret)))
theorem slices_IndexFunc_api_Event_api_Event_is : fnV prog n_slices_IndexFunc_api_Event_api_Event = some (19, slices_IndexFunc_api_Event_api_Event, [.tmp 4]) := by kernel_rfl

/- hist_Ended_1 -/
@[simp] def hist_Ended_1_r0 : List VOp :=
  [⟨(some 2), none, .box (.tmp 0)⟩,
   ⟨(some 3), none, .mov (.const (.bool false))⟩]
@[simp] def hist_Ended_1_r1 : List VOp :=
  [⟨(some 4), none, .fa 0 (.tmp 2)⟩,
   ⟨(some 5), none, .ld (.tmp 4) none⟩,
   ⟨(some 6), none, .ld (.tmp 1) none⟩,
   ⟨(some 7), none, .bin .eql (.tmp 5) (.tmp 6)⟩,
   ⟨(some 8), none, .mov (.tmp 7)⟩,
   ⟨(some 9), (some (8, true)), .fa 1 (.tmp 2)⟩,
   ⟨(some 10), (some (8, true)), .ld (.tmp 9) none⟩,
   ⟨(some 11), (some (8, true)), .bin .eql (.tmp 10) (.const (.int .i64 5))⟩,
   ⟨(some 12), (some (8, true)), .mov (.tmp 11)⟩,
   ⟨(some 13), (some (12, false)), .fa 1 (.tmp 2)⟩,
   ⟨(some 14), (some (12, false)), .ld (.tmp 13) none⟩,
   ⟨(some 15), (some (12, false)), .bin .eql (.tmp 14) (.const (.int .i64 6))⟩,
   ⟨(some 16), (some (8, true)), .pick (.tmp 12) (.const (.bool true)) (.tmp 15)⟩,
   ⟨(some 17), none, .pick (.tmp 8) (.tmp 16) (.const (.bool false))⟩,
   ⟨(some 3), none, .mov (.tmp 17)⟩]
def hist_Ended_1 : VCode := (.seq (.reg hist_Ended_1_r0) (.seq (.reg hist_Ended_1_r1) .ret))
theorem hist_Ended_1_is : fnV prog n_hist_Ended_1 = some (18, hist_Ended_1, [.tmp 3]) := by kernel_rfl

/- ratlineref03_Same -/
@[simp] def ratlineref03_Same_r0 : List VOp :=
  [⟨(some 2), none, .box (.tmp 0)⟩,
   ⟨(some 3), none, .box (.tmp 1)⟩,
   ⟨(some 4), none, .mov (.const (.bool false))⟩]
@[simp] def ratlineref03_Same_r1 : List VOp :=
  [⟨(some 7), none, .fa 0 (.tmp 2)⟩,
   ⟨(some 8), none, .ld (.tmp 7) none⟩,
   ⟨(some 9), none, .fa 0 (.tmp 3)⟩,
   ⟨(some 10), none, .ld (.tmp 9) none⟩,
   ⟨(some 11), none, .bin .neq (.tmp 8) (.tmp 10)⟩,
   ⟨(some 12), none, .mov (.tmp 11)⟩,
   ⟨(some 13), (some (12, false)), .fa 1 (.tmp 2)⟩,
   ⟨(some 14), (some (12, false)), .ld (.tmp 13) none⟩,
   ⟨(some 15), (some (12, false)), .fa 1 (.tmp 3)⟩,
   ⟨(some 16), (some (12, false)), .ld (.tmp 15) none⟩,
   ⟨(some 17), (some (12, false)), .bin .neq (.tmp 14) (.tmp 16)⟩,
   ⟨(some 18), none, .pick (.tmp 12) (.const (.bool true)) (.tmp 17)⟩,
   ⟨(some 19), none, .mov (.tmp 18)⟩,
   ⟨(some 20), (some (19, false)), .fa 2 (.tmp 2)⟩,
   ⟨(some 21), (some (19, false)), .ld (.tmp 20) (some 3)⟩,
   ⟨(some 22), (some (19, false)), .fa 2 (.tmp 3)⟩,
   ⟨(some 23), (some (19, false)), .ld (.tmp 22) (some 3)⟩,
   ⟨(some 24), (some (19, false)), .eqs true [.b, .i .i64, .s] (.tmp 21) (.tmp 23)⟩,
   ⟨(some 25), none, .pick (.tmp 19) (.const (.bool true)) (.tmp 24)⟩,
   ⟨(some 26), none, .mov (.tmp 25)⟩,
   ⟨(some 27), (some (26, false)), .fa 5 (.tmp 2)⟩,
   ⟨(some 28), (some (26, false)), .ld (.tmp 27) (some 3)⟩,
   ⟨(some 29), (some (26, false)), .fa 5 (.tmp 3)⟩,
   ⟨(some 30), (some (26, false)), .ld (.tmp 29) (some 3)⟩,
   ⟨(some 31), (some (26, false)), .eqs true [.b, .i .i64, .s] (.tmp 28) (.tmp 30)⟩,
   ⟨(some 32), none, .pick (.tmp 26) (.const (.bool true)) (.tmp 31)⟩,
   ⟨(some 33), none, .mov (.tmp 32)⟩,
   ⟨(some 34), (some (33, false)), .fa 8 (.tmp 2)⟩,
   ⟨(some 35), (some (33, false)), .ld (.tmp 34) none⟩,
   ⟨(some 36), (some (33, false)), .len (.tmp 35)⟩,
   ⟨(some 37), (some (33, false)), .fa 8 (.tmp 3)⟩,
   ⟨(some 38), (some (33, false)), .ld (.tmp 37) none⟩,
   ⟨(some 39), (some (33, false)), .len (.tmp 38)⟩,
   ⟨(some 40), (some (33, false)), .bin .neq (.tmp 36) (.tmp 39)⟩,
   ⟨(some 41), none, .pick (.tmp 33) (.const (.bool true)) (.tmp 40)⟩]
@[simp] def ratlineref03_Same_r2 : List VOp :=
  [⟨(some 4), none, .mov (.const (.bool false))⟩]
@[simp] def ratlineref03_Same_r3 : List VOp :=
  [⟨(some 5), none, .mov (.const (.int .i64 0))⟩]
@[simp] def ratlineref03_Same_r4 : List VOp :=
  [⟨(some 42), none, .mov (.tmp 5)⟩,
   ⟨(some 43), none, .fa 8 (.tmp 2)⟩,
   ⟨(some 44), none, .ld (.tmp 43) none⟩,
   ⟨(some 45), none, .len (.tmp 44)⟩,
   ⟨(some 46), none, .bin .lss (.tmp 42) (.tmp 45)⟩]
@[simp] def ratlineref03_Same_t5 : VT :=
  .op ⟨(some 49), none, .fa 8 (.tmp 2)⟩ <|
  .op ⟨(some 50), none, .ld (.tmp 49) none⟩ <|
  .op ⟨(some 51), none, .mov (.tmp 5)⟩ <|
  .op ⟨(some 52), none, .ia 9 (.tmp 50) (.tmp 51)⟩ <|
  .op ⟨(some 53), none, .ld (.tmp 52) (some 9)⟩ <|
  .op ⟨(some 54), none, .fa 8 (.tmp 3)⟩ <|
  .op ⟨(some 55), none, .ld (.tmp 54) none⟩ <|
  .op ⟨(some 56), none, .mov (.tmp 5)⟩ <|
  .op ⟨(some 57), none, .ia 9 (.tmp 55) (.tmp 56)⟩ <|
  .op ⟨(some 58), none, .ld (.tmp 57) (some 9)⟩ <|
  .op ⟨(some 59), none, .call n_ratlineref03_Same [(.tmp 53), (.tmp 58)]⟩ <|
  .op ⟨(some 6), none, .mov (.tmp 59)⟩ <|
  .done
@[simp] def ratlineref03_Same_r6 : List VOp :=
  [⟨(some 60), none, .mov (.tmp 6)⟩,
   ⟨(some 61), none, .un .not (.tmp 60)⟩]
@[simp] def ratlineref03_Same_r7 : List VOp :=
  [⟨(some 4), none, .mov (.const (.bool false))⟩]
@[simp] def ratlineref03_Same_r8 : List VOp :=
  [⟨(some 47), none, .mov (.tmp 5)⟩,
   ⟨(some 48), none, .bin .add (.tmp 47) (.const (.int .i64 1))⟩,
   ⟨(some 5), none, .mov (.tmp 48)⟩]
def ratlineref03_Same_l9 : VCode :=
  (.seq (.seq (.reg ratlineref03_Same_r4) (.cond (.tmp 46) .skip (.exit 0))) (.seq (.block 1 (.seq (.any ratlineref03_Same_t5) (.seq (.reg ratlineref03_Same_r6) (.cond (.tmp 61) (.seq (.reg ratlineref03_Same_r7) .ret) .skip)))) (.reg ratlineref03_Same_r8)))
@[simp] def ratlineref03_Same_r10 : List VOp :=
  [⟨(some 4), none, .mov (.const (.bool true))⟩]
def ratlineref03_Same : VCode := (.seq (.reg ratlineref03_Same_r0) (.seq (.seq (.reg ratlineref03_Same_r1) (.cond (.tmp 41) (.seq (.reg ratlineref03_Same_r2) .ret) .skip)) (.seq (.seq (.reg ratlineref03_Same_r3) (.block 0 (.loop ratlineref03_Same_l9))) (.seq (.reg ratlineref03_Same_r10) .ret))))
theorem ratlineref03_Same_is : fnV prog n_ratlineref03_Same = some (62, ratlineref03_Same, [.tmp 4]) := by kernel_rfl

/- ratlineref02_Same -/
@[simp] def ratlineref02_Same_r0 : List VOp :=
  [⟨(some 4), none, .mov (.const (.bool false))⟩]
@[simp] def ratlineref02_Same_r1 : List VOp :=
  [⟨(some 6), none, .mov (.tmp 0)⟩,
   ⟨(some 7), none, .len (.tmp 6)⟩,
   ⟨(some 8), none, .mov (.tmp 1)⟩,
   ⟨(some 9), none, .len (.tmp 8)⟩,
   ⟨(some 10), none, .bin .neq (.tmp 7) (.tmp 9)⟩]
@[simp] def ratlineref02_Same_r2 : List VOp :=
  [⟨(some 4), none, .mov (.const (.bool false))⟩]
@[simp] def ratlineref02_Same_r3 : List VOp :=
  [⟨(some 5), none, .mov (.const (.int .i64 0))⟩]
@[simp] def ratlineref02_Same_r4 : List VOp :=
  [⟨(some 11), none, .mov (.tmp 5)⟩,
   ⟨(some 12), none, .mov (.tmp 0)⟩,
   ⟨(some 13), none, .len (.tmp 12)⟩,
   ⟨(some 14), none, .bin .lss (.tmp 11) (.tmp 13)⟩]
@[simp] def ratlineref02_Same_t5 : VT :=
  .op ⟨(some 17), none, .mov (.tmp 0)⟩ <|
  .op ⟨(some 18), none, .mov (.tmp 5)⟩ <|
  .op ⟨(some 19), none, .ia 3 (.tmp 17) (.tmp 18)⟩ <|
  .op ⟨(some 20), none, .ld (.tmp 19) (some 3)⟩ <|
  .op ⟨(some 21), none, .mov (.tmp 1)⟩ <|
  .op ⟨(some 22), none, .mov (.tmp 5)⟩ <|
  .op ⟨(some 23), none, .ia 3 (.tmp 21) (.tmp 22)⟩ <|
  .op ⟨(some 24), none, .ld (.tmp 23) (some 3)⟩ <|
  .op ⟨(some 25), none, .eqs true [.b, .i .i64, .s] (.tmp 20) (.tmp 24)⟩ <|
  .done
@[simp] def ratlineref02_Same_r6 : List VOp :=
  [⟨(some 4), none, .mov (.const (.bool false))⟩]
@[simp] def ratlineref02_Same_r7 : List VOp :=
  [⟨(some 15), none, .mov (.tmp 5)⟩,
   ⟨(some 16), none, .bin .add (.tmp 15) (.const (.int .i64 1))⟩,
   ⟨(some 5), none, .mov (.tmp 16)⟩]
def ratlineref02_Same_l8 : VCode :=
  (.seq (.seq (.reg ratlineref02_Same_r4) (.cond (.tmp 14) .skip (.exit 0))) (.seq (.block 1 (.seq (.any ratlineref02_Same_t5) (.cond (.tmp 25) (.seq (.reg ratlineref02_Same_r6) .ret) .skip))) (.reg ratlineref02_Same_r7)))
@[simp] def ratlineref02_Same_r9 : List VOp :=
  [⟨(some 4), none, .mov (.const (.bool true))⟩]
def ratlineref02_Same : VCode := (.seq (.reg ratlineref02_Same_r0) (.seq (.seq (.reg ratlineref02_Same_r1) (.cond (.tmp 10) (.seq (.reg ratlineref02_Same_r2) .ret) .skip)) (.seq (.seq (.reg ratlineref02_Same_r3) (.block 0 (.loop ratlineref02_Same_l8))) (.seq (.reg ratlineref02_Same_r9) .ret))))
theorem ratlineref02_Same_is : fnV prog n_ratlineref02_Same = some (26, ratlineref02_Same, [.tmp 4]) := by kernel_rfl

/- ratlineref03_Size -/
@[simp] def ratlineref03_Size_r0 : List VOp :=
  [⟨(some 1), none, .box (.tmp 0)⟩,
   ⟨(some 2), none, .mov (.const (.int .i64 0))⟩]
@[simp] def ratlineref03_Size_r1 : List VOp :=
  [⟨(some 3), none, .mov (.const (.int .i64 1))⟩]
@[simp] def ratlineref03_Size_r2 : List VOp :=
  [⟨(some 4), none, .mov (.const (.int .i64 0))⟩]
@[simp] def ratlineref03_Size_r3 : List VOp :=
  [⟨(some 5), none, .mov (.tmp 4)⟩,
   ⟨(some 6), none, .fa 8 (.tmp 1)⟩,
   ⟨(some 7), none, .ld (.tmp 6) none⟩,
   ⟨(some 8), none, .len (.tmp 7)⟩,
   ⟨(some 9), none, .bin .lss (.tmp 5) (.tmp 8)⟩]
@[simp] def ratlineref03_Size_r4 : List VOp :=
  [⟨(some 12), none, .mov (.tmp 3)⟩,
   ⟨(some 13), none, .fa 8 (.tmp 1)⟩,
   ⟨(some 14), none, .ld (.tmp 13) none⟩,
   ⟨(some 15), none, .mov (.tmp 4)⟩,
   ⟨(some 16), none, .ia 9 (.tmp 14) (.tmp 15)⟩,
   ⟨(some 17), none, .ld (.tmp 16) (some 9)⟩,
   ⟨(some 18), none, .call n_ratlineref03_Size [(.tmp 17)]⟩,
   ⟨(some 19), none, .bin .add (.tmp 12) (.tmp 18)⟩,
   ⟨(some 3), none, .mov (.tmp 19)⟩]
@[simp] def ratlineref03_Size_r5 : List VOp :=
  [⟨(some 10), none, .mov (.tmp 4)⟩,
   ⟨(some 11), none, .bin .add (.tmp 10) (.const (.int .i64 1))⟩,
   ⟨(some 4), none, .mov (.tmp 11)⟩]
def ratlineref03_Size_l6 : VCode :=
  (.seq (.seq (.reg ratlineref03_Size_r3) (.cond (.tmp 9) .skip (.exit 0))) (.seq (.block 1 (.reg ratlineref03_Size_r4)) (.reg ratlineref03_Size_r5)))
@[simp] def ratlineref03_Size_r7 : List VOp :=
  [⟨(some 20), none, .mov (.tmp 3)⟩,
   ⟨(some 2), none, .mov (.tmp 20)⟩]
def ratlineref03_Size : VCode := (.seq (.reg ratlineref03_Size_r0) (.seq (.reg ratlineref03_Size_r1) (.seq (.seq (.reg ratlineref03_Size_r2) (.block 0 (.loop ratlineref03_Size_l6))) (.seq (.reg ratlineref03_Size_r7) .ret))))
theorem ratlineref03_Size_is : fnV prog n_ratlineref03_Size = some (21, ratlineref03_Size, [.tmp 2]) := by kernel_rfl

/- hist_checker_key -/
@[simp] def hist_checker_key_r0 : List VOp :=
  [⟨(some 5), none, .box (.tmp 2)⟩,
   ⟨(some 6), none, .mov (.const (.bool false))⟩]
@[simp] def hist_checker_key_t1 : VT :=
  .op ⟨(some 7), none, .mov (.tmp 1)⟩ <|
  .op ⟨(some 8), none, .bin .geq (.tmp 7) (.const (.int .i64 0))⟩ <|
  .op ⟨(some 9), none, .mov (.tmp 8)⟩ <|
  .op ⟨(some 10), (some (9, true)), .mov (.tmp 1)⟩ <|
  .op ⟨(some 11), (some (9, true)), .mov (.tmp 0)⟩ <|
  .op ⟨(some 12), (some (9, true)), .chk (.tmp 11)⟩ <|
  .op ⟨(some 13), (some (9, true)), .fa 0 (.tmp 12)⟩ <|
  .op ⟨(some 14), (some (9, true)), .fa 0 (.tmp 13)⟩ <|
  .op ⟨(some 15), (some (9, true)), .ld (.tmp 14) none⟩ <|
  .op ⟨(some 16), (some (9, true)), .len (.tmp 15)⟩ <|
  .op ⟨(some 17), (some (9, true)), .bin .lss (.tmp 10) (.tmp 16)⟩ <|
  .op ⟨(some 18), none, .pick (.tmp 9) (.tmp 17) (.const (.bool false))⟩ <|
  .op ⟨(some 19), none, .mov (.tmp 18)⟩ <|
  .op ⟨(some 20), (some (19, true)), .ld (.tmp 5) (some 3)⟩ <|
  .op ⟨(some 21), (some (19, true)), .call n_value_Right [(.tmp 20)]⟩ <|
  .op ⟨(some 22), none, .pick (.tmp 19) (.tmp 21) (.const (.bool false))⟩ <|
  .op ⟨(some 23), none, .mov (.tmp 22)⟩ <|
  .op ⟨(some 24), (some (23, true)), .fa 0 (.tmp 5)⟩ <|
  .op ⟨(some 25), (some (23, true)), .ld (.tmp 24) none⟩ <|
  .op ⟨(some 26), (some (23, true)), .mov (.tmp 0)⟩ <|
  .op ⟨(some 27), (some (23, true)), .chk (.tmp 26)⟩ <|
  .op ⟨(some 28), (some (23, true)), .fa 0 (.tmp 27)⟩ <|
  .op ⟨(some 29), (some (23, true)), .fa 0 (.tmp 28)⟩ <|
  .op ⟨(some 30), (some (23, true)), .ld (.tmp 29) none⟩ <|
  .op ⟨(some 31), (some (23, true)), .mov (.tmp 1)⟩ <|
  .op ⟨(some 32), (some (23, true)), .ia 1 (.tmp 30) (.tmp 31)⟩ <|
  .op ⟨(some 33), (some (23, true)), .fa 0 (.tmp 32)⟩ <|
  .op ⟨(some 34), (some (23, true)), .ld (.tmp 33) none⟩ <|
  .op ⟨(some 35), (some (23, true)), .ia 1 (.tmp 34) (.const (.int .i64 0))⟩ <|
  .op ⟨(some 36), (some (23, true)), .ld (.tmp 35) none⟩ <|
  .op ⟨(some 37), (some (23, true)), .beq false (.tmp 25) (.tmp 36)⟩ <|
  .op ⟨(some 38), none, .pick (.tmp 23) (.tmp 37) (.const (.bool false))⟩ <|
  .op ⟨(some 6), none, .mov (.tmp 38)⟩ <|
  .done
def hist_checker_key : VCode := (.seq (.reg hist_checker_key_r0) (.seq (.any hist_checker_key_t1) .ret))
theorem hist_checker_key_is : fnV prog n_hist_checker_key = some (39, hist_checker_key, [.tmp 6]) := by kernel_rfl

/- hist_checker_version -/
@[simp] def hist_checker_version_r0 : List VOp :=
  [⟨(some 4), none, .box (.tmp 1)⟩,
   ⟨(some 5), none, .box (.tmp 2)⟩,
   ⟨(some 6), none, .mov (.const (.bool false))⟩]
@[simp] def hist_checker_version_t1 : VT :=
  .op ⟨(some 7), none, .fa 1 (.tmp 5)⟩ <|
  .op ⟨(some 8), none, .ld (.tmp 7) none⟩ <|
  .op ⟨(some 9), none, .bin .geq (.tmp 8) (.const (.int .i64 1))⟩ <|
  .op ⟨(some 10), none, .mov (.tmp 9)⟩ <|
  .op ⟨(some 11), (some (10, true)), .fa 1 (.tmp 5)⟩ <|
  .op ⟨(some 12), (some (10, true)), .ld (.tmp 11) none⟩ <|
  .op ⟨(some 13), (some (10, true)), .mov (.tmp 0)⟩ <|
  .op ⟨(some 14), (some (10, true)), .chk (.tmp 13)⟩ <|
  .op ⟨(some 15), (some (10, true)), .fa 4 (.tmp 14)⟩ <|
  .op ⟨(some 16), (some (10, true)), .ld (.tmp 15) none⟩ <|
  .op ⟨(some 17), (some (10, true)), .fa 0 (.tmp 5)⟩ <|
  .op ⟨(some 18), (some (10, true)), .ld (.tmp 17) none⟩ <|
  .op ⟨(some 19), (some (10, true)), .ld (.tmp 4) (some 4)⟩ <|
  .op ⟨(some 20), (some (10, true)), .build [.iv (.v (.int .i64 0)), .iv (.v (.int .i64 0)), .iv (.v (.bool false)), .iv (.v (.int .i64 0)), .iv (.v (.string ⟨#[]⟩))] [(0, 1, (.tmp 18)), (1, 4, (.tmp 19))]⟩ <|
  .op ⟨(some 21), (some (10, true)), .lkp (true, [.i .i64, .i .i64, .b, .i .i64, .s], false) [.iv (.v (.int .i64 0))] (.tmp 16) (.tmp 20) false⟩ <|
  .op ⟨(some 22), (some (10, true)), .bin .leq (.tmp 12) (.tmp 21)⟩ <|
  .op ⟨(some 23), none, .pick (.tmp 10) (.tmp 22) (.const (.bool false))⟩ <|
  .op ⟨(some 6), none, .mov (.tmp 23)⟩ <|
  .done
def hist_checker_version : VCode := (.seq (.reg hist_checker_version_r0) (.seq (.any hist_checker_version_t1) .ret))
theorem hist_checker_version_is : fnV prog n_hist_checker_version = some (24, hist_checker_version, [.tmp 6]) := by kernel_rfl

/- pred_Check -/
@[simp] def pred_Check_r0 : List VOp :=
  [⟨(some 2), none, .box (.tmp 0)⟩,
   ⟨(some 3), none, .box (.tmp 1)⟩,
   ⟨(some 4), none, .mov (.const (.int .i64 0))⟩]
@[simp] def pred_Check_r1 : List VOp :=
  [⟨(some 8), none, .ld (.tmp 2) (some 1)⟩,
   ⟨(some 9), none, .call n_row_Check [(.tmp 8)]⟩,
   ⟨(some 5), none, .mov (.tmp 9)⟩]
@[simp] def pred_Check_r2 : List VOp :=
  [⟨(some 10), none, .mov (.tmp 5)⟩,
   ⟨(some 11), none, .bin .neq (.tmp 10) (.const (.int .i64 0))⟩]
@[simp] def pred_Check_r3 : List VOp :=
  [⟨(some 12), none, .mov (.tmp 5)⟩,
   ⟨(some 4), none, .mov (.tmp 12)⟩]
@[simp] def pred_Check_r4 : List VOp :=
  [⟨(some 13), none, .ld (.tmp 2) (some 1)⟩,
   ⟨(some 14), none, .build [.nil 1, .iv (.v (.bool false))] [(0, 1, (.tmp 13))]⟩,
   ⟨(some 15), none, .box (.tmp 14)⟩,
   ⟨(some 6), none, .mov (.tmp 15)⟩]
@[simp] def pred_Check_r5 : List VOp :=
  [⟨(some 16), none, .mov (.tmp 6)⟩,
   ⟨(some 17), none, .mkfn n_pred_checker_part [(.tmp 16)] []⟩,
   ⟨(some 7), none, .mov (.tmp 17)⟩]
@[simp] def pred_Check_r6 : List VOp :=
  [⟨(some 18), none, .ld (.tmp 3) (some 9)⟩,
   ⟨(some 19), none, .mov (.tmp 7)⟩,
   ⟨(some 20), none, .call n_pred_each [(.tmp 18), (.tmp 19)]⟩]
@[simp] def pred_Check_r7 : List VOp :=
  [⟨(some 21), none, .mov (.tmp 6)⟩,
   ⟨(some 22), none, .chk (.tmp 21)⟩,
   ⟨(some 23), none, .fa 1 (.tmp 22)⟩,
   ⟨(some 24), none, .ld (.tmp 23) none⟩,
   ⟨(some 25), none, .mov (.tmp 24)⟩,
   ⟨(some 26), (some (25, false)), .ld (.tmp 3) (some 9)⟩,
   ⟨(some 27), (some (25, false)), .call n_pred_Size [(.tmp 26)]⟩,
   ⟨(some 28), (some (25, false)), .bin .gtr (.tmp 27) (.const (.int .i64 15))⟩,
   ⟨(some 29), none, .pick (.tmp 25) (.const (.bool true)) (.tmp 28)⟩]
@[simp] def pred_Check_r8 : List VOp :=
  [⟨(some 4), none, .mov (.const (.int .i64 30))⟩]
@[simp] def pred_Check_r9 : List VOp :=
  [⟨(some 4), none, .mov (.const (.int .i64 0))⟩]
def pred_Check : VCode := (.seq (.reg pred_Check_r0) (.seq (.seq (.reg pred_Check_r1) (.seq (.reg pred_Check_r2) (.cond (.tmp 11) (.seq (.reg pred_Check_r3) .ret) .skip))) (.seq (.reg pred_Check_r4) (.seq (.reg pred_Check_r5) (.seq (.reg pred_Check_r6) (.seq (.seq (.reg pred_Check_r7) (.cond (.tmp 29) (.seq (.reg pred_Check_r8) .ret) .skip)) (.seq (.reg pred_Check_r9) .ret)))))))
theorem pred_Check_is : fnV prog n_pred_Check = some (30, pred_Check, [.tmp 4]) := by kernel_rfl

/- value_Compare -/
@[simp] def value_Compare_r0 : List VOp :=
  [⟨(some 2), none, .box (.tmp 0)⟩,
   ⟨(some 3), none, .box (.tmp 1)⟩,
   ⟨(some 4), none, .mov (.const (.int .i64 0))⟩]
@[simp] def value_Compare_r1 : List VOp :=
  [⟨(some 6), none, .fa 0 (.tmp 2)⟩,
   ⟨(some 7), none, .ld (.tmp 6) none⟩,
   ⟨(some 8), none, .mov (.tmp 7)⟩,
   ⟨(some 9), (some (8, true)), .fa 0 (.tmp 3)⟩,
   ⟨(some 10), (some (8, true)), .ld (.tmp 9) none⟩,
   ⟨(some 11), none, .pick (.tmp 8) (.tmp 10) (.const (.bool false))⟩,
   ⟨(some 5), none, .mov (.tmp 11)⟩]
@[simp] def value_Compare_r2 : List VOp :=
  [⟨(some 12), none, .fa 2 (.tmp 2)⟩,
   ⟨(some 13), none, .ld (.tmp 12) none⟩,
   ⟨(some 14), none, .fa 2 (.tmp 3)⟩,
   ⟨(some 15), none, .ld (.tmp 14) none⟩,
   ⟨(some 16), none, .call n_cmp_Compare_string [(.tmp 13), (.tmp 15)]⟩,
   ⟨(some 4), none, .mov (.tmp 16)⟩]
@[simp] def value_Compare_r3 : List VOp :=
  [⟨(some 18), none, .fa 0 (.tmp 2)⟩,
   ⟨(some 19), none, .ld (.tmp 18) none⟩,
   ⟨(some 17), none, .mov (.tmp 19)⟩]
@[simp] def value_Compare_r4 : List VOp :=
  [⟨(some 4), none, .mov (.const (.int .i64 1))⟩]
@[simp] def value_Compare_r5 : List VOp :=
  [⟨(some 21), none, .fa 0 (.tmp 3)⟩,
   ⟨(some 22), none, .ld (.tmp 21) none⟩,
   ⟨(some 20), none, .mov (.tmp 22)⟩]
@[simp] def value_Compare_r6 : List VOp :=
  [⟨(some 4), none, .mov (.const (.int .i64 (-1)))⟩]
@[simp] def value_Compare_r7 : List VOp :=
  [⟨(some 23), none, .fa 1 (.tmp 2)⟩,
   ⟨(some 24), none, .ld (.tmp 23) none⟩,
   ⟨(some 25), none, .fa 1 (.tmp 3)⟩,
   ⟨(some 26), none, .ld (.tmp 25) none⟩,
   ⟨(some 27), none, .call n_cmp_Compare_int64 [(.tmp 24), (.tmp 26)]⟩,
   ⟨(some 4), none, .mov (.tmp 27)⟩]
def value_Compare : VCode := (.seq (.reg value_Compare_r0) (.seq (.block 0 (.seq (.reg value_Compare_r1) (.cond (.tmp 5) (.seq (.reg value_Compare_r2) .ret) (.seq (.reg value_Compare_r3) (.cond (.tmp 17) (.seq (.reg value_Compare_r4) .ret) (.seq (.reg value_Compare_r5) (.cond (.tmp 20) (.seq (.reg value_Compare_r6) .ret) .skip))))))) (.seq (.reg value_Compare_r7) .ret)))
theorem value_Compare_is : fnV prog n_value_Compare = some (28, value_Compare, [.tmp 4]) := by kernel_rfl

/- row_Fits -/
@[simp] def row_Fits_r0 : List VOp :=
  [⟨(some 2), none, .box (.tmp 0)⟩,
   ⟨(some 4), none, .mov (.const (.bool false))⟩]
@[simp] def row_Fits_r1 : List VOp :=
  [⟨(some 7), none, .ld (.tmp 2) (some 1)⟩,
   ⟨(some 8), none, .call n_row_Check [(.tmp 7)]⟩,
   ⟨(some 9), none, .bin .neq (.tmp 8) (.const (.int .i64 0))⟩,
   ⟨(some 10), none, .mov (.tmp 9)⟩,
   ⟨(some 11), (some (10, false)), .mov (.tmp 1)⟩,
   ⟨(some 12), (some (10, false)), .len (.tmp 11)⟩,
   ⟨(some 13), (some (10, false)), .fa 0 (.tmp 2)⟩,
   ⟨(some 14), (some (10, false)), .ld (.tmp 13) none⟩,
   ⟨(some 15), (some (10, false)), .len (.tmp 14)⟩,
   ⟨(some 16), (some (10, false)), .bin .neq (.tmp 12) (.tmp 15)⟩,
   ⟨(some 17), none, .pick (.tmp 10) (.const (.bool true)) (.tmp 16)⟩]
@[simp] def row_Fits_r2 : List VOp :=
  [⟨(some 4), none, .mov (.const (.bool false))⟩]
@[simp] def row_Fits_r3 : List VOp :=
  [⟨(some 18), none, .mov (.tmp 1)⟩,
   ⟨(some 19), none, .len (.tmp 18)⟩,
   ⟨(some 20), none, .mov (.const (.int .i64 0))⟩]
@[simp] def row_Fits_r4 : List VOp :=
  [⟨(some 21), none, .bin .lss (.tmp 20) (.tmp 19)⟩]
@[simp] def row_Fits_r5 : List VOp :=
  [⟨(some 22), none, .mov (.tmp 20)⟩,
   ⟨(some 23), none, .ia 3 (.tmp 18) (.tmp 20)⟩,
   ⟨(some 24), none, .ld (.tmp 23) (some 3)⟩,
   ⟨(some 6), none, .alloc [.iv (.v (.bool false)), .iv (.v (.int .i64 0)), .iv (.v (.string ⟨#[]⟩))]⟩,
   ⟨(some 5), none, .mov (.tmp 22)⟩,
   ⟨none, none, .st (.tmp 6) (.tmp 24) 3⟩]
@[simp] def row_Fits_t6 : VT :=
  .op ⟨(some 25), none, .fa 0 (.tmp 6)⟩ <|
  .op ⟨(some 26), none, .ld (.tmp 25) none⟩ <|
  .op ⟨(some 27), none, .fa 0 (.tmp 2)⟩ <|
  .op ⟨(some 28), none, .ld (.tmp 27) none⟩ <|
  .op ⟨(some 29), none, .mov (.tmp 5)⟩ <|
  .op ⟨(some 30), none, .ia 1 (.tmp 28) (.tmp 29)⟩ <|
  .op ⟨(some 31), none, .ld (.tmp 30) none⟩ <|
  .op ⟨(some 32), none, .beq true (.tmp 26) (.tmp 31)⟩ <|
  .op ⟨(some 33), none, .mov (.tmp 32)⟩ <|
  .op ⟨(some 34), (some (33, false)), .ld (.tmp 6) (some 3)⟩ <|
  .op ⟨(some 35), (some (33, false)), .call n_value_Right [(.tmp 34)]⟩ <|
  .op ⟨(some 36), (some (33, false)), .un .not (.tmp 35)⟩ <|
  .op ⟨(some 37), none, .pick (.tmp 33) (.const (.bool true)) (.tmp 36)⟩ <|
  .done
@[simp] def row_Fits_r7 : List VOp :=
  [⟨(some 4), none, .mov (.const (.bool false))⟩]
@[simp] def row_Fits_r8 : List VOp :=
  [⟨(some 38), none, .bin .add (.tmp 20) (.const (.int .i64 1))⟩,
   ⟨(some 20), none, .mov (.tmp 38)⟩]
def row_Fits_l9 : VCode :=
  (.seq (.reg row_Fits_r4) (.seq (.cond (.tmp 21) .skip (.exit 0)) (.seq (.block 1 (.seq (.reg row_Fits_r5) (.seq (.any row_Fits_t6) (.cond (.tmp 37) (.seq (.reg row_Fits_r7) .ret) .skip)))) (.reg row_Fits_r8))))
@[simp] def row_Fits_r10 : List VOp :=
  [⟨(some 4), none, .mov (.const (.bool true))⟩]
def row_Fits : VCode := (.seq (.reg row_Fits_r0) (.seq (.seq (.reg row_Fits_r1) (.cond (.tmp 17) (.seq (.reg row_Fits_r2) .ret) .skip)) (.seq (.seq (.reg row_Fits_r3) (.block 0 (.loop row_Fits_l9))) (.seq (.reg row_Fits_r10) .ret))))
theorem row_Fits_is : fnV prog n_row_Fits = some (39, row_Fits, [.tmp 4]) := by kernel_rfl

/- slices_Clone_api_Row_api_Value -/
@[simp] def slices_Clone_api_Row_api_Value_r0 : List VOp :=
  [⟨(some 2), none, .nils 3⟩]
@[simp] def slices_Clone_api_Row_api_Value_r1 : List VOp :=
  [⟨(some 3), none, .mov (.tmp 0)⟩,
   ⟨(some 4), none, .snil false (.tmp 3)⟩]
@[simp] def slices_Clone_api_Row_api_Value_r2 : List VOp :=
  [⟨(some 2), none, .nils 3⟩]
@[simp] def slices_Clone_api_Row_api_Value_r3 : List VOp :=
  [⟨(some 5), none, .lit 3 0 []⟩,
   ⟨(some 6), none, .mov (.tmp 0)⟩,
   ⟨(some 7), none, .app 3 32 (.tmp 5) (.tmp 6)⟩,
   ⟨(some 2), none, .mov (.tmp 7)⟩]
def slices_Clone_api_Row_api_Value : VCode := (.seq (.reg slices_Clone_api_Row_api_Value_r0) (.seq (.seq (.reg slices_Clone_api_Row_api_Value_r1) (.cond (.tmp 4) (.seq (.reg slices_Clone_api_Row_api_Value_r2) .ret) .skip)) (.seq (.reg slices_Clone_api_Row_api_Value_r3) .ret)))
theorem slices_Clone_api_Row_api_Value_is : fnV prog n_slices_Clone_api_Row_api_Value = some (8, slices_Clone_api_Row_api_Value, [.tmp 2]) := by kernel_rfl

/- slices_Clone_api_Pred_api_Pred -/
@[simp] def slices_Clone_api_Pred_api_Pred_r0 : List VOp :=
  [⟨(some 2), none, .nils 9⟩]
@[simp] def slices_Clone_api_Pred_api_Pred_r1 : List VOp :=
  [⟨(some 3), none, .mov (.tmp 0)⟩,
   ⟨(some 4), none, .snil false (.tmp 3)⟩]
@[simp] def slices_Clone_api_Pred_api_Pred_r2 : List VOp :=
  [⟨(some 2), none, .nils 9⟩]
@[simp] def slices_Clone_api_Pred_api_Pred_r3 : List VOp :=
  [⟨(some 5), none, .lit 9 0 []⟩,
   ⟨(some 6), none, .mov (.tmp 0)⟩,
   ⟨(some 7), none, .app 9 104 (.tmp 5) (.tmp 6)⟩,
   ⟨(some 2), none, .mov (.tmp 7)⟩]
def slices_Clone_api_Pred_api_Pred : VCode := (.seq (.reg slices_Clone_api_Pred_api_Pred_r0) (.seq (.seq (.reg slices_Clone_api_Pred_api_Pred_r1) (.cond (.tmp 4) (.seq (.reg slices_Clone_api_Pred_api_Pred_r2) .ret) .skip)) (.seq (.reg slices_Clone_api_Pred_api_Pred_r3) .ret)))
theorem slices_Clone_api_Pred_api_Pred_is : fnV prog n_slices_Clone_api_Pred_api_Pred = some (8, slices_Clone_api_Pred_api_Pred, [.tmp 2]) := by kernel_rfl

/- slices_Collect_int -/
@[simp] def slices_Collect_int_r0 : List VOp :=
  [⟨(some 2), none, .nils 1⟩]
@[simp] def slices_Collect_int_r1 : List VOp :=
  [⟨(some 3), none, .mov (.tmp 0)⟩,
   ⟨(some 4), none, .call n_slices_AppendSeq_int_int [(.const (.slice none 0 0)), (.tmp 3)]⟩,
   ⟨(some 2), none, .mov (.tmp 4)⟩]
def slices_Collect_int : VCode := (.seq (.reg slices_Collect_int_r0) (.seq (.reg slices_Collect_int_r1) .ret))
theorem slices_Collect_int_is : fnV prog n_slices_Collect_int = some (5, slices_Collect_int, [.tmp 2]) := by kernel_rfl

/- maps_Keys_map_int_int_int_int_1 -/
@[simp] def maps_Keys_map_int_int_int_int_1_r0 : List VOp :=
  [⟨(some 4), none, .ld (.tmp 1) none⟩,
   ⟨(some 5), none, .rng (false, [.i .i64], false) (.tmp 4)⟩]
@[simp] def maps_Keys_map_int_int_int_int_1_r1 : List VOp :=
  [⟨(some 6), none, .nxt (.tmp 5)⟩,
   ⟨(some 7), none, .ext 0 (.tmp 6)⟩]
@[simp] def maps_Keys_map_int_int_int_int_1_r2 : List VOp :=
  [⟨(some 8), none, .ent (.tmp 5)⟩,
   ⟨(some 9), none, .ext 0 (.tmp 8)⟩,
   ⟨(some 3), none, .mov (.tmp 9)⟩]
@[simp] def maps_Keys_map_int_int_int_int_1_r3 : List VOp :=
  [⟨(some 10), none, .mov (.tmp 0)⟩,
   ⟨(some 11), none, .mov (.tmp 3)⟩,
   ⟨(some 12), none, .callv (.tmp 10) [(.tmp 11)]⟩,
   ⟨(some 13), none, .un .not (.tmp 12)⟩]
def maps_Keys_map_int_int_int_int_1_l4 : VCode :=
  (.seq (.reg maps_Keys_map_int_int_int_int_1_r1) (.seq (.cond (.tmp 7) .skip (.exit 0)) (.block 1 (.seq (.reg maps_Keys_map_int_int_int_int_1_r2) (.seq (.reg maps_Keys_map_int_int_int_int_1_r3) (.cond (.tmp 13) .ret .skip))))))
def maps_Keys_map_int_int_int_int_1 : VCode := (.seq (.reg maps_Keys_map_int_int_int_int_1_r0) (.block 0 (.loop maps_Keys_map_int_int_int_int_1_l4)))
theorem maps_Keys_map_int_int_int_int_1_is : fnV prog n_maps_Keys_map_int_int_int_int_1 = some (14, maps_Keys_map_int_int_int_int_1, []) := by kernel_rfl

/- value_Right -/
@[simp] def value_Right_r0 : List VOp :=
  [⟨(some 1), none, .box (.tmp 0)⟩,
   ⟨(some 2), none, .mov (.const (.bool false))⟩]
@[simp] def value_Right_r1 : List VOp :=
  [⟨(some 3), none, .fa 0 (.tmp 1)⟩,
   ⟨(some 4), none, .ld (.tmp 3) none⟩]
@[simp] def value_Right_r2 : List VOp :=
  [⟨(some 5), none, .ld (.tmp 1) (some 3)⟩,
   ⟨(some 6), none, .fa 2 (.tmp 1)⟩,
   ⟨(some 7), none, .ld (.tmp 6) none⟩,
   ⟨(some 8), none, .build [.iv (.v (.bool false)), .iv (.v (.int .i64 0)), .iv (.v (.string ⟨#[]⟩))] [(0, 1, (.const (.bool true))), (2, 1, (.tmp 7))]⟩,
   ⟨(some 9), none, .eqs false [.b, .i .i64, .s] (.tmp 5) (.tmp 8)⟩,
   ⟨(some 10), none, .mov (.tmp 9)⟩,
   ⟨(some 11), (some (10, true)), .fa 2 (.tmp 1)⟩,
   ⟨(some 12), (some (10, true)), .ld (.tmp 11) none⟩,
   ⟨(some 13), (some (10, true)), .lens (.tmp 12)⟩,
   ⟨(some 14), (some (10, true)), .bin .leq (.tmp 13) (.const (.int .i64 12))⟩,
   ⟨(some 15), none, .pick (.tmp 10) (.tmp 14) (.const (.bool false))⟩,
   ⟨(some 2), none, .mov (.tmp 15)⟩]
@[simp] def value_Right_r3 : List VOp :=
  [⟨(some 16), none, .ld (.tmp 1) (some 3)⟩,
   ⟨(some 17), none, .fa 1 (.tmp 1)⟩,
   ⟨(some 18), none, .ld (.tmp 17) none⟩,
   ⟨(some 19), none, .build [.iv (.v (.bool false)), .iv (.v (.int .i64 0)), .iv (.v (.string ⟨#[]⟩))] [(1, 1, (.tmp 18))]⟩,
   ⟨(some 20), none, .eqs false [.b, .i .i64, .s] (.tmp 16) (.tmp 19)⟩,
   ⟨(some 2), none, .mov (.tmp 20)⟩]
def value_Right : VCode := (.seq (.reg value_Right_r0) (.seq (.seq (.reg value_Right_r1) (.cond (.tmp 4) (.seq (.reg value_Right_r2) .ret) .skip)) (.seq (.reg value_Right_r3) .ret)))
theorem value_Right_is : fnV prog n_value_Right = some (21, value_Right, [.tmp 2]) := by kernel_rfl

/- pred_checker_part -/
@[simp] def pred_checker_part_r0 : List VOp :=
  [⟨(some 3), none, .box (.tmp 1)⟩]
@[simp] def pred_checker_part_r1 : List VOp :=
  [⟨(some 4), none, .mov (.const (.bool false))⟩]
@[simp] def pred_checker_part_r2 : List VOp :=
  [⟨(some 5), none, .fa 0 (.tmp 3)⟩,
   ⟨(some 6), none, .ld (.tmp 5) none⟩]
@[simp] def pred_checker_part_r3 : List VOp :=
  [⟨(some 8), none, .bin .eql (.tmp 6) (.const (.int .i64 1))⟩,
   ⟨(some 7), none, .mov (.tmp 8)⟩]
@[simp] def pred_checker_part_r4 : List VOp :=
  [⟨(some 9), none, .bin .eql (.tmp 6) (.const (.int .i64 2))⟩,
   ⟨(some 7), none, .mov (.tmp 9)⟩]
@[simp] def pred_checker_part_r5 : List VOp :=
  [⟨(some 10), none, .fa 8 (.tmp 3)⟩,
   ⟨(some 11), none, .ld (.tmp 10) none⟩,
   ⟨(some 12), none, .len (.tmp 11)⟩,
   ⟨(some 13), none, .bin .eql (.tmp 12) (.const (.int .i64 0))⟩,
   ⟨(some 4), none, .mov (.tmp 13)⟩]
@[simp] def pred_checker_part_r6 : List VOp :=
  [⟨(some 15), none, .bin .eql (.tmp 6) (.const (.int .i64 3))⟩,
   ⟨(some 14), none, .mov (.tmp 15)⟩]
@[simp] def pred_checker_part_r7 : List VOp :=
  [⟨(some 16), none, .bin .eql (.tmp 6) (.const (.int .i64 4))⟩,
   ⟨(some 14), none, .mov (.tmp 16)⟩]
@[simp] def pred_checker_part_r8 : List VOp :=
  [⟨(some 17), none, .bin .eql (.tmp 6) (.const (.int .i64 5))⟩,
   ⟨(some 14), none, .mov (.tmp 17)⟩]
@[simp] def pred_checker_part_r9 : List VOp :=
  [⟨(some 18), none, .bin .eql (.tmp 6) (.const (.int .i64 6))⟩,
   ⟨(some 14), none, .mov (.tmp 18)⟩]
@[simp] def pred_checker_part_r10 : List VOp :=
  [⟨(some 19), none, .bin .eql (.tmp 6) (.const (.int .i64 7))⟩,
   ⟨(some 14), none, .mov (.tmp 19)⟩]
@[simp] def pred_checker_part_r11 : List VOp :=
  [⟨(some 20), none, .bin .eql (.tmp 6) (.const (.int .i64 8))⟩,
   ⟨(some 14), none, .mov (.tmp 20)⟩]
@[simp] def pred_checker_part_r12 : List VOp :=
  [⟨(some 21), none, .fa 8 (.tmp 3)⟩,
   ⟨(some 22), none, .ld (.tmp 21) none⟩,
   ⟨(some 23), none, .len (.tmp 22)⟩,
   ⟨(some 24), none, .bin .eql (.tmp 23) (.const (.int .i64 0))⟩,
   ⟨(some 25), none, .mov (.tmp 24)⟩,
   ⟨(some 26), (some (25, true)), .mov (.tmp 0)⟩,
   ⟨(some 27), (some (25, true)), .fa 1 (.tmp 3)⟩,
   ⟨(some 28), (some (25, true)), .ld (.tmp 27) none⟩,
   ⟨(some 29), (some (25, true)), .fa 2 (.tmp 3)⟩,
   ⟨(some 30), (some (25, true)), .ld (.tmp 29) (some 3)⟩,
   ⟨(some 31), (some (25, true)), .call n_pred_checker_of [(.tmp 26), (.tmp 28), (.tmp 30)]⟩,
   ⟨(some 32), none, .pick (.tmp 25) (.tmp 31) (.const (.bool false))⟩,
   ⟨(some 4), none, .mov (.tmp 32)⟩]
@[simp] def pred_checker_part_r13 : List VOp :=
  [⟨(some 34), none, .bin .eql (.tmp 6) (.const (.int .i64 9))⟩,
   ⟨(some 33), none, .mov (.tmp 34)⟩]
@[simp] def pred_checker_part_r14 : List VOp :=
  [⟨(some 35), none, .fa 8 (.tmp 3)⟩,
   ⟨(some 36), none, .ld (.tmp 35) none⟩,
   ⟨(some 37), none, .len (.tmp 36)⟩,
   ⟨(some 38), none, .bin .eql (.tmp 37) (.const (.int .i64 0))⟩,
   ⟨(some 39), none, .mov (.tmp 38)⟩,
   ⟨(some 40), (some (39, true)), .mov (.tmp 0)⟩,
   ⟨(some 41), (some (39, true)), .fa 1 (.tmp 3)⟩,
   ⟨(some 42), (some (39, true)), .ld (.tmp 41) none⟩,
   ⟨(some 43), (some (39, true)), .fa 2 (.tmp 3)⟩,
   ⟨(some 44), (some (39, true)), .ld (.tmp 43) (some 3)⟩,
   ⟨(some 45), (some (39, true)), .call n_pred_checker_of [(.tmp 40), (.tmp 42), (.tmp 44)]⟩,
   ⟨(some 46), none, .pick (.tmp 39) (.tmp 45) (.const (.bool false))⟩,
   ⟨(some 47), none, .mov (.tmp 46)⟩,
   ⟨(some 48), (some (47, true)), .mov (.tmp 0)⟩,
   ⟨(some 49), (some (47, true)), .fa 1 (.tmp 3)⟩,
   ⟨(some 50), (some (47, true)), .ld (.tmp 49) none⟩,
   ⟨(some 51), (some (47, true)), .fa 5 (.tmp 3)⟩,
   ⟨(some 52), (some (47, true)), .ld (.tmp 51) (some 3)⟩,
   ⟨(some 53), (some (47, true)), .call n_pred_checker_of [(.tmp 48), (.tmp 50), (.tmp 52)]⟩,
   ⟨(some 54), none, .pick (.tmp 47) (.tmp 53) (.const (.bool false))⟩,
   ⟨(some 4), none, .mov (.tmp 54)⟩]
@[simp] def pred_checker_part_r15 : List VOp :=
  [⟨(some 56), none, .bin .eql (.tmp 6) (.const (.int .i64 10))⟩,
   ⟨(some 55), none, .mov (.tmp 56)⟩]
@[simp] def pred_checker_part_r16 : List VOp :=
  [⟨(some 57), none, .fa 8 (.tmp 3)⟩,
   ⟨(some 58), none, .ld (.tmp 57) none⟩,
   ⟨(some 59), none, .len (.tmp 58)⟩,
   ⟨(some 60), none, .bin .eql (.tmp 59) (.const (.int .i64 1))⟩,
   ⟨(some 4), none, .mov (.tmp 60)⟩]
@[simp] def pred_checker_part_r17 : List VOp :=
  [⟨(some 62), none, .bin .eql (.tmp 6) (.const (.int .i64 11))⟩,
   ⟨(some 61), none, .mov (.tmp 62)⟩]
@[simp] def pred_checker_part_r18 : List VOp :=
  [⟨(some 63), none, .bin .eql (.tmp 6) (.const (.int .i64 12))⟩,
   ⟨(some 61), none, .mov (.tmp 63)⟩]
@[simp] def pred_checker_part_r19 : List VOp :=
  [⟨(some 64), none, .fa 8 (.tmp 3)⟩,
   ⟨(some 65), none, .ld (.tmp 64) none⟩,
   ⟨(some 66), none, .len (.tmp 65)⟩,
   ⟨(some 67), none, .bin .gtr (.tmp 66) (.const (.int .i64 0))⟩,
   ⟨(some 4), none, .mov (.tmp 67)⟩]
@[simp] def pred_checker_part_r20 : List VOp :=
  [⟨(some 68), none, .mov (.tmp 0)⟩,
   ⟨(some 69), none, .mov (.tmp 0)⟩,
   ⟨(some 70), none, .chk (.tmp 69)⟩,
   ⟨(some 71), none, .fa 1 (.tmp 70)⟩,
   ⟨(some 72), none, .ld (.tmp 71) none⟩,
   ⟨(some 73), none, .mov (.tmp 72)⟩,
   ⟨(some 74), (some (73, false)), .mov (.tmp 4)⟩,
   ⟨(some 75), (some (73, false)), .un .not (.tmp 74)⟩,
   ⟨(some 76), none, .pick (.tmp 73) (.const (.bool true)) (.tmp 75)⟩,
   ⟨(some 77), none, .chk (.tmp 68)⟩,
   ⟨(some 78), none, .fa 1 (.tmp 77)⟩,
   ⟨none, none, .st (.tmp 78) (.tmp 76) 1⟩]
def pred_checker_part : VCode := (.seq (.reg pred_checker_part_r0) (.seq (.reg pred_checker_part_r1) (.seq (.seq (.reg pred_checker_part_r2) (.block 0 (.seq (.seq (.reg pred_checker_part_r3) (.cond (.tmp 7) .skip (.reg pred_checker_part_r4))) (.cond (.tmp 7) (.reg pred_checker_part_r5) (.seq (.seq (.reg pred_checker_part_r6) (.cond (.tmp 14) .skip (.seq (.reg pred_checker_part_r7) (.cond (.tmp 14) .skip (.seq (.reg pred_checker_part_r8) (.cond (.tmp 14) .skip (.seq (.reg pred_checker_part_r9) (.cond (.tmp 14) .skip (.seq (.reg pred_checker_part_r10) (.cond (.tmp 14) .skip (.reg pred_checker_part_r11))))))))))) (.cond (.tmp 14) (.reg pred_checker_part_r12) (.seq (.reg pred_checker_part_r13) (.cond (.tmp 33) (.reg pred_checker_part_r14) (.seq (.reg pred_checker_part_r15) (.cond (.tmp 55) (.reg pred_checker_part_r16) (.seq (.seq (.reg pred_checker_part_r17) (.cond (.tmp 61) .skip (.reg pred_checker_part_r18))) (.cond (.tmp 61) (.reg pred_checker_part_r19) .skip)))))))))))) (.reg pred_checker_part_r20))))
theorem pred_checker_part_is : fnV prog n_pred_checker_part = some (79, pred_checker_part, []) := by kernel_rfl

/- pred_each -/
@[simp] def pred_each_r0 : List VOp :=
  [⟨(some 2), none, .box (.tmp 0)⟩]
@[simp] def pred_each_r1 : List VOp :=
  [⟨(some 6), none, .mov (.tmp 1)⟩,
   ⟨(some 7), none, .ld (.tmp 2) (some 9)⟩,
   ⟨(some 8), none, .callv (.tmp 6) [(.tmp 7)]⟩]
@[simp] def pred_each_r2 : List VOp :=
  [⟨(some 9), none, .fa 8 (.tmp 2)⟩,
   ⟨(some 10), none, .ld (.tmp 9) none⟩,
   ⟨(some 11), none, .len (.tmp 10)⟩,
   ⟨(some 12), none, .mov (.const (.int .i64 0))⟩]
@[simp] def pred_each_r3 : List VOp :=
  [⟨(some 13), none, .bin .lss (.tmp 12) (.tmp 11)⟩]
@[simp] def pred_each_r4 : List VOp :=
  [⟨(some 14), none, .ia 9 (.tmp 10) (.tmp 12)⟩,
   ⟨(some 15), none, .ld (.tmp 14) (some 9)⟩,
   ⟨(some 5), none, .alloc [.iv (.v (.int .i64 0)), .iv (.v (.int .i64 0)), .iv (.v (.bool false)), .iv (.v (.int .i64 0)), .iv (.v (.string ⟨#[]⟩)), .iv (.v (.bool false)), .iv (.v (.int .i64 0)), .iv (.v (.string ⟨#[]⟩)), .nil 9]⟩,
   ⟨none, none, .st (.tmp 5) (.tmp 15) 9⟩]
@[simp] def pred_each_r5 : List VOp :=
  [⟨(some 16), none, .ld (.tmp 5) (some 9)⟩,
   ⟨(some 17), none, .mov (.tmp 1)⟩,
   ⟨(some 18), none, .call n_pred_each [(.tmp 16), (.tmp 17)]⟩]
@[simp] def pred_each_r6 : List VOp :=
  [⟨(some 19), none, .bin .add (.tmp 12) (.const (.int .i64 1))⟩,
   ⟨(some 12), none, .mov (.tmp 19)⟩]
def pred_each_l7 : VCode :=
  (.seq (.reg pred_each_r3) (.seq (.cond (.tmp 13) .skip (.exit 0)) (.seq (.block 1 (.seq (.reg pred_each_r4) (.reg pred_each_r5))) (.reg pred_each_r6))))
def pred_each : VCode := (.seq (.reg pred_each_r0) (.seq (.reg pred_each_r1) (.seq (.reg pred_each_r2) (.block 0 (.loop pred_each_l7)))))
theorem pred_each_is : fnV prog n_pred_each = some (20, pred_each, []) := by kernel_rfl

/- pred_Size -/
@[simp] def pred_Size_r0 : List VOp :=
  [⟨(some 1), none, .box (.tmp 0)⟩,
   ⟨(some 2), none, .mov (.const (.int .i64 0))⟩]
@[simp] def pred_Size_r1 : List VOp :=
  [⟨(some 3), none, .alloc [.iv (.v (.int .i64 0))]⟩,
   ⟨none, none, .st (.tmp 3) (.const (.int .i64 0)) 1⟩]
@[simp] def pred_Size_r2 : List VOp :=
  [⟨(some 4), none, .ld (.tmp 1) (some 9)⟩,
   ⟨(some 5), none, .mkfn n_pred_Size_1 [] [(.tmp 3)]⟩,
   ⟨(some 6), none, .call n_pred_each [(.tmp 4), (.tmp 5)]⟩]
@[simp] def pred_Size_r3 : List VOp :=
  [⟨(some 7), none, .ld (.tmp 3) none⟩,
   ⟨(some 2), none, .mov (.tmp 7)⟩]
def pred_Size : VCode := (.seq (.reg pred_Size_r0) (.seq (.reg pred_Size_r1) (.seq (.reg pred_Size_r2) (.seq (.reg pred_Size_r3) .ret))))
theorem pred_Size_is : fnV prog n_pred_Size = some (8, pred_Size, [.tmp 2]) := by kernel_rfl

/- cmp_Compare_string -/
@[simp] def cmp_Compare_string_r0 : List VOp :=
  [⟨(some 4), none, .mov (.const (.int .i64 0))⟩]
@[simp] def cmp_Compare_string_r1 : List VOp :=
  [⟨(some 7), none, .mov (.tmp 0)⟩,
   ⟨(some 8), none, .call n_cmp_isNaN_string [(.tmp 7)]⟩,
   ⟨(some 5), none, .mov (.tmp 8)⟩]
@[simp] def cmp_Compare_string_r2 : List VOp :=
  [⟨(some 9), none, .mov (.tmp 1)⟩,
   ⟨(some 10), none, .call n_cmp_isNaN_string [(.tmp 9)]⟩,
   ⟨(some 6), none, .mov (.tmp 10)⟩]
@[simp] def cmp_Compare_string_r3 : List VOp :=
  [⟨(some 11), none, .mov (.tmp 5)⟩]
@[simp] def cmp_Compare_string_r4 : List VOp :=
  [⟨(some 12), none, .mov (.tmp 6)⟩]
@[simp] def cmp_Compare_string_r5 : List VOp :=
  [⟨(some 4), none, .mov (.const (.int .i64 0))⟩]
@[simp] def cmp_Compare_string_r6 : List VOp :=
  [⟨(some 4), none, .mov (.const (.int .i64 (-1)))⟩]
@[simp] def cmp_Compare_string_r7 : List VOp :=
  [⟨(some 13), none, .mov (.tmp 6)⟩]
@[simp] def cmp_Compare_string_r8 : List VOp :=
  [⟨(some 4), none, .mov (.const (.int .i64 1))⟩]
@[simp] def cmp_Compare_string_r9 : List VOp :=
  [⟨(some 14), none, .mov (.tmp 0)⟩,
   ⟨(some 15), none, .mov (.tmp 1)⟩,
   ⟨(some 16), none, .bin .lss (.tmp 14) (.tmp 15)⟩]
@[simp] def cmp_Compare_string_r10 : List VOp :=
  [⟨(some 4), none, .mov (.const (.int .i64 (-1)))⟩]
@[simp] def cmp_Compare_string_r11 : List VOp :=
  [⟨(some 17), none, .mov (.tmp 0)⟩,
   ⟨(some 18), none, .mov (.tmp 1)⟩,
   ⟨(some 19), none, .bin .gtr (.tmp 17) (.tmp 18)⟩]
@[simp] def cmp_Compare_string_r12 : List VOp :=
  [⟨(some 4), none, .mov (.const (.int .i64 1))⟩]
@[simp] def cmp_Compare_string_r13 : List VOp :=
  [⟨(some 4), none, .mov (.const (.int .i64 0))⟩]
def cmp_Compare_string : VCode := (.seq (.reg cmp_Compare_string_r0) (.seq (.reg cmp_Compare_string_r1) (.seq (.reg cmp_Compare_string_r2) (.seq (.seq (.reg cmp_Compare_string_r3) (.cond (.tmp 11) (.seq (.seq (.reg cmp_Compare_string_r4) (.cond (.tmp 12) (.seq (.reg cmp_Compare_string_r5) .ret) .skip)) (.seq (.reg cmp_Compare_string_r6) .ret)) .skip)) (.seq (.seq (.reg cmp_Compare_string_r7) (.cond (.tmp 13) (.seq (.reg cmp_Compare_string_r8) .ret) .skip)) (.seq (.seq (.reg cmp_Compare_string_r9) (.cond (.tmp 16) (.seq (.reg cmp_Compare_string_r10) .ret) .skip)) (.seq (.seq (.reg cmp_Compare_string_r11) (.cond (.tmp 19) (.seq (.reg cmp_Compare_string_r12) .ret) .skip)) (.seq (.reg cmp_Compare_string_r13) .ret))))))))
theorem cmp_Compare_string_is : fnV prog n_cmp_Compare_string = some (20, cmp_Compare_string, [.tmp 4]) := by kernel_rfl

/- cmp_Compare_int64 -/
@[simp] def cmp_Compare_int64_r0 : List VOp :=
  [⟨(some 4), none, .mov (.const (.int .i64 0))⟩]
@[simp] def cmp_Compare_int64_r1 : List VOp :=
  [⟨(some 7), none, .mov (.tmp 0)⟩,
   ⟨(some 8), none, .call n_cmp_isNaN_int64 [(.tmp 7)]⟩,
   ⟨(some 5), none, .mov (.tmp 8)⟩]
@[simp] def cmp_Compare_int64_r2 : List VOp :=
  [⟨(some 9), none, .mov (.tmp 1)⟩,
   ⟨(some 10), none, .call n_cmp_isNaN_int64 [(.tmp 9)]⟩,
   ⟨(some 6), none, .mov (.tmp 10)⟩]
@[simp] def cmp_Compare_int64_r3 : List VOp :=
  [⟨(some 11), none, .mov (.tmp 5)⟩]
@[simp] def cmp_Compare_int64_r4 : List VOp :=
  [⟨(some 12), none, .mov (.tmp 6)⟩]
@[simp] def cmp_Compare_int64_r5 : List VOp :=
  [⟨(some 4), none, .mov (.const (.int .i64 0))⟩]
@[simp] def cmp_Compare_int64_r6 : List VOp :=
  [⟨(some 4), none, .mov (.const (.int .i64 (-1)))⟩]
@[simp] def cmp_Compare_int64_r7 : List VOp :=
  [⟨(some 13), none, .mov (.tmp 6)⟩]
@[simp] def cmp_Compare_int64_r8 : List VOp :=
  [⟨(some 4), none, .mov (.const (.int .i64 1))⟩]
@[simp] def cmp_Compare_int64_r9 : List VOp :=
  [⟨(some 14), none, .mov (.tmp 0)⟩,
   ⟨(some 15), none, .mov (.tmp 1)⟩,
   ⟨(some 16), none, .bin .lss (.tmp 14) (.tmp 15)⟩]
@[simp] def cmp_Compare_int64_r10 : List VOp :=
  [⟨(some 4), none, .mov (.const (.int .i64 (-1)))⟩]
@[simp] def cmp_Compare_int64_r11 : List VOp :=
  [⟨(some 17), none, .mov (.tmp 0)⟩,
   ⟨(some 18), none, .mov (.tmp 1)⟩,
   ⟨(some 19), none, .bin .gtr (.tmp 17) (.tmp 18)⟩]
@[simp] def cmp_Compare_int64_r12 : List VOp :=
  [⟨(some 4), none, .mov (.const (.int .i64 1))⟩]
@[simp] def cmp_Compare_int64_r13 : List VOp :=
  [⟨(some 4), none, .mov (.const (.int .i64 0))⟩]
def cmp_Compare_int64 : VCode := (.seq (.reg cmp_Compare_int64_r0) (.seq (.reg cmp_Compare_int64_r1) (.seq (.reg cmp_Compare_int64_r2) (.seq (.seq (.reg cmp_Compare_int64_r3) (.cond (.tmp 11) (.seq (.seq (.reg cmp_Compare_int64_r4) (.cond (.tmp 12) (.seq (.reg cmp_Compare_int64_r5) .ret) .skip)) (.seq (.reg cmp_Compare_int64_r6) .ret)) .skip)) (.seq (.seq (.reg cmp_Compare_int64_r7) (.cond (.tmp 13) (.seq (.reg cmp_Compare_int64_r8) .ret) .skip)) (.seq (.seq (.reg cmp_Compare_int64_r9) (.cond (.tmp 16) (.seq (.reg cmp_Compare_int64_r10) .ret) .skip)) (.seq (.seq (.reg cmp_Compare_int64_r11) (.cond (.tmp 19) (.seq (.reg cmp_Compare_int64_r12) .ret) .skip)) (.seq (.reg cmp_Compare_int64_r13) .ret))))))))
theorem cmp_Compare_int64_is : fnV prog n_cmp_Compare_int64 = some (20, cmp_Compare_int64, [.tmp 4]) := by kernel_rfl

/- slices_AppendSeq_int_int -/
@[simp] def slices_AppendSeq_int_int_r0 : List VOp :=
  [⟨(some 2), none, .box (.tmp 0)⟩,
   ⟨(some 4), none, .nils 1⟩]
@[simp] def slices_AppendSeq_int_int_r1 : List VOp :=
  [⟨(some 6), none, .mov (.tmp 1)⟩]
@[simp] def slices_AppendSeq_int_int_r2 : List VOp :=
  [⟨(some 5), none, .mov (.tmp 7)⟩]
@[simp] def slices_AppendSeq_int_int_r3 : List VOp :=
  [⟨(some 8), none, .ld (.tmp 2) none⟩,
   ⟨(some 9), none, .mov (.tmp 5)⟩,
   ⟨(some 10), none, .lit 1 1 [(0, (.tmp 9))]⟩,
   ⟨(some 11), none, .app 1 8 (.tmp 8) (.tmp 10)⟩,
   ⟨none, none, .st (.tmp 2) (.tmp 11) 1⟩]
def slices_AppendSeq_int_int_a4 : VCode :=
  (.reg slices_AppendSeq_int_int_r2)
def slices_AppendSeq_int_int_b5 : VCode :=
  (.block 1 (.reg slices_AppendSeq_int_int_r3))
@[simp] def slices_AppendSeq_int_int_r6 : List VOp :=
  [⟨(some 12), none, .ld (.tmp 2) none⟩,
   ⟨(some 4), none, .mov (.tmp 12)⟩]
def slices_AppendSeq_int_int : VCode := (.seq (.reg slices_AppendSeq_int_int_r0) (.seq (.seq (.reg slices_AppendSeq_int_int_r1) (.block 0 (.rng (.tmp 6) [7] slices_AppendSeq_int_int_a4 slices_AppendSeq_int_int_b5))) (.seq (.reg slices_AppendSeq_int_int_r6) .ret)))
theorem slices_AppendSeq_int_int_is : fnV prog n_slices_AppendSeq_int_int = some (13, slices_AppendSeq_int_int, [.tmp 4]) := by kernel_rfl

/- pred_checker_of -/
@[simp] def pred_checker_of_r0 : List VOp :=
  [⟨(some 5), none, .box (.tmp 2)⟩,
   ⟨(some 6), none, .mov (.const (.bool false))⟩]
@[simp] def pred_checker_of_t1 : VT :=
  .op ⟨(some 7), none, .mov (.tmp 1)⟩ <|
  .op ⟨(some 8), none, .bin .geq (.tmp 7) (.const (.int .i64 0))⟩ <|
  .op ⟨(some 9), none, .mov (.tmp 8)⟩ <|
  .op ⟨(some 10), (some (9, true)), .mov (.tmp 1)⟩ <|
  .op ⟨(some 11), (some (9, true)), .mov (.tmp 0)⟩ <|
  .op ⟨(some 12), (some (9, true)), .chk (.tmp 11)⟩ <|
  .op ⟨(some 13), (some (9, true)), .fa 0 (.tmp 12)⟩ <|
  .op ⟨(some 14), (some (9, true)), .fa 0 (.tmp 13)⟩ <|
  .op ⟨(some 15), (some (9, true)), .ld (.tmp 14) none⟩ <|
  .op ⟨(some 16), (some (9, true)), .len (.tmp 15)⟩ <|
  .op ⟨(some 17), (some (9, true)), .bin .lss (.tmp 10) (.tmp 16)⟩ <|
  .op ⟨(some 18), none, .pick (.tmp 9) (.tmp 17) (.const (.bool false))⟩ <|
  .op ⟨(some 19), none, .mov (.tmp 18)⟩ <|
  .op ⟨(some 20), (some (19, true)), .fa 0 (.tmp 5)⟩ <|
  .op ⟨(some 21), (some (19, true)), .ld (.tmp 20) none⟩ <|
  .op ⟨(some 22), (some (19, true)), .mov (.tmp 0)⟩ <|
  .op ⟨(some 23), (some (19, true)), .chk (.tmp 22)⟩ <|
  .op ⟨(some 24), (some (19, true)), .fa 0 (.tmp 23)⟩ <|
  .op ⟨(some 25), (some (19, true)), .fa 0 (.tmp 24)⟩ <|
  .op ⟨(some 26), (some (19, true)), .ld (.tmp 25) none⟩ <|
  .op ⟨(some 27), (some (19, true)), .mov (.tmp 1)⟩ <|
  .op ⟨(some 28), (some (19, true)), .ia 1 (.tmp 26) (.tmp 27)⟩ <|
  .op ⟨(some 29), (some (19, true)), .ld (.tmp 28) none⟩ <|
  .op ⟨(some 30), (some (19, true)), .beq false (.tmp 21) (.tmp 29)⟩ <|
  .op ⟨(some 31), none, .pick (.tmp 19) (.tmp 30) (.const (.bool false))⟩ <|
  .op ⟨(some 32), none, .mov (.tmp 31)⟩ <|
  .op ⟨(some 33), (some (32, true)), .ld (.tmp 5) (some 3)⟩ <|
  .op ⟨(some 34), (some (32, true)), .call n_value_Right [(.tmp 33)]⟩ <|
  .op ⟨(some 35), none, .pick (.tmp 32) (.tmp 34) (.const (.bool false))⟩ <|
  .op ⟨(some 6), none, .mov (.tmp 35)⟩ <|
  .done
def pred_checker_of : VCode := (.seq (.reg pred_checker_of_r0) (.seq (.any pred_checker_of_t1) .ret))
theorem pred_checker_of_is : fnV prog n_pred_checker_of = some (36, pred_checker_of, [.tmp 6]) := by kernel_rfl

/- pred_Size_1 -/
@[simp] def pred_Size_1_r0 : List VOp :=
  [⟨(some 2), none, .box (.tmp 0)⟩]
@[simp] def pred_Size_1_r1 : List VOp :=
  [⟨(some 3), none, .ld (.tmp 1) none⟩,
   ⟨(some 4), none, .bin .add (.tmp 3) (.const (.int .i64 1))⟩,
   ⟨none, none, .st (.tmp 1) (.tmp 4) 1⟩]
def pred_Size_1 : VCode := (.seq (.reg pred_Size_1_r0) (.reg pred_Size_1_r1))
theorem pred_Size_1_is : fnV prog n_pred_Size_1 = some (5, pred_Size_1, []) := by kernel_rfl

/- cmp_isNaN_string -/
@[simp] def cmp_isNaN_string_r0 : List VOp :=
  [⟨(some 2), none, .mov (.const (.bool false))⟩]
@[simp] def cmp_isNaN_string_r1 : List VOp :=
  [⟨(some 3), none, .mov (.tmp 0)⟩,
   ⟨(some 4), none, .mov (.tmp 0)⟩,
   ⟨(some 5), none, .bin .neq (.tmp 3) (.tmp 4)⟩,
   ⟨(some 2), none, .mov (.tmp 5)⟩]
def cmp_isNaN_string : VCode := (.seq (.reg cmp_isNaN_string_r0) (.seq (.reg cmp_isNaN_string_r1) .ret))
theorem cmp_isNaN_string_is : fnV prog n_cmp_isNaN_string = some (6, cmp_isNaN_string, [.tmp 2]) := by kernel_rfl

/- cmp_isNaN_int64 -/
@[simp] def cmp_isNaN_int64_r0 : List VOp :=
  [⟨(some 2), none, .mov (.const (.bool false))⟩]
@[simp] def cmp_isNaN_int64_r1 : List VOp :=
  [⟨(some 3), none, .mov (.tmp 0)⟩,
   ⟨(some 4), none, .mov (.tmp 0)⟩,
   ⟨(some 5), none, .bin .neq (.tmp 3) (.tmp 4)⟩,
   ⟨(some 2), none, .mov (.tmp 5)⟩]
def cmp_isNaN_int64 : VCode := (.seq (.reg cmp_isNaN_int64_r0) (.seq (.reg cmp_isNaN_int64_r1) .ret))
theorem cmp_isNaN_int64_is : fnV prog n_cmp_isNaN_int64 = some (6, cmp_isNaN_int64, [.tmp 2]) := by kernel_rfl

end Go.Rt
end
