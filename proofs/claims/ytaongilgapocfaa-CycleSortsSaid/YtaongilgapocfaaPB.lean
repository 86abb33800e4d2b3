/- Functions of the program as the abstract machine has them. Conditions: none. -/
import Derived.Test.YtaongilgapocfaaMD
import Derived.Test.YtaongilgapocfaaProg

set_option linter.unusedVariables false
set_option linter.unusedSimpArgs false

/- The numbers of the functions. -/
section
namespace Go.Rt
@[reducible] noncomputable def prog : Program := Go.Proofs.Try.prog
@[reducible] def n_ratlinelaw21_CycleFinds : FuncId := 3
@[reducible] def n_ratlinelaw21_CycleRows : FuncId := 4
@[reducible] def n_ratlinelaw21_CycleGoes : FuncId := 5
@[reducible] def n_ratlinelaw21_CycleSorts : FuncId := 6
@[reducible] def n_ratlinelaw21_CycleTurns : FuncId := 7
@[reducible] def n_ratlinelaw21_awake : FuncId := 8
@[reducible] def n_ratlineref20_Same : FuncId := 9
@[reducible] def n_cycle_Find : FuncId := 10
@[reducible] def n_ratlinelaw21_all : FuncId := 11
@[reducible] def n_ratlineref21_Find : FuncId := 12
@[reducible] def n_ratlinelaw21_writes : FuncId := 13
@[reducible] def n_ratlinelaw21_reads : FuncId := 14
@[reducible] def n_cycle_Sorted : FuncId := 15
@[reducible] def n_ratlineref21_Sorted : FuncId := 16
@[reducible] def n_cycle_Valid : FuncId := 17
@[reducible] def n_ratlineref21_Valid : FuncId := 18
@[reducible] def n_cycle_Respects : FuncId := 19
@[reducible] def n_ratlineref21_Respects : FuncId := 20
@[reducible] def n_ratlineref10_Ints : FuncId := 21
@[reducible] def n_ratlinelaw21_in : FuncId := 22
@[reducible] def n_cycle_of : FuncId := 23
@[reducible] def n_cycle_back : FuncId := 24
@[reducible] def n_ratlineref21_Kinds_Is : FuncId := 25
@[reducible] def n_ratlineref21_way : FuncId := 26
@[reducible] def n_slices_Clone_int_int : FuncId := 27
@[reducible] def n_slices_Sort_int_int : FuncId := 28
@[reducible] def n_slices_Compact_int_int : FuncId := 29
@[reducible] def n_slices_Contains_int_int : FuncId := 30
@[reducible] def n_slices_IndexFunc_int_int : FuncId := 31
@[reducible] def n_cycle_Sorted_1 : FuncId := 32
@[reducible] def n_slices_Delete_int_int : FuncId := 33
@[reducible] def n_ratlineref21_place : FuncId := 34
@[reducible] def n_ratlineref21_met : FuncId := 35
@[reducible] def n_cycle_Respects_1 : FuncId := 36
@[reducible] def n_slices_Index_int_int : FuncId := 37
@[reducible] def n_slices_ContainsFunc_api_Edge_api_Edge : FuncId := 38
@[reducible] def n_cycle_Respects_2 : FuncId := 39
@[reducible] def n_cycle_of_1 : FuncId := 40
@[reducible] def n_slices_Reverse_api_Edge_api_Edge : FuncId := 41
@[reducible] def n_slices_pdqsortOrdered_int : FuncId := 42
@[reducible] def n_math_bits_Len : FuncId := 43
@[reducible] def n_slices_IndexFunc_api_Edge_api_Edge : FuncId := 44
@[reducible] def n_slices_insertionSortOrdered_int : FuncId := 45
@[reducible] def n_slices_heapSortOrdered_int : FuncId := 46
@[reducible] def n_slices_breakPatternsOrdered_int : FuncId := 47
@[reducible] def n_slices_choosePivotOrdered_int : FuncId := 48
@[reducible] def n_slices_reverseRangeOrdered_int : FuncId := 49
@[reducible] def n_slices_partialInsertionSortOrdered_int : FuncId := 50
@[reducible] def n_cmp_Less_int : FuncId := 51
@[reducible] def n_slices_partitionEqualOrdered_int : FuncId := 52
@[reducible] def n_slices_partitionOrdered_int : FuncId := 53
@[reducible] def n_math_bits_Len32 : FuncId := 54
@[reducible] def n_math_bits_Len64 : FuncId := 55
@[reducible] def n_slices_siftDownOrdered_int : FuncId := 56
@[reducible] def n_slices_nextPowerOfTwo : FuncId := 57
@[reducible] def n_slices_xorshift_Next : FuncId := 58
@[reducible] def n_slices_medianAdjacentOrdered_int : FuncId := 59
@[reducible] def n_slices_medianOrdered_int : FuncId := 60
@[reducible] def n_cmp_isNaN_int : FuncId := 61
@[reducible] def n_slices_order2Ordered_int : FuncId := 62
end Go.Rt
end

/- Functions as the abstract machine has them (printed by GenV.lean). -/
section
namespace Go.Rt
open Go.Vm
/- ratlinelaw21_CycleFinds -/
@[simp] def ratlinelaw21_CycleFinds_r0 : List VOp :=
  [⟨(some 4), none, .mov (.const (.bool false))⟩]
@[simp] def ratlinelaw21_CycleFinds_r1 : List VOp :=
  [⟨(some 10), none, .call n_ratlinelaw21_awake []⟩,
   ⟨(some 5), none, .mov (.tmp 10)⟩]
@[simp] def ratlinelaw21_CycleFinds_r2 : List VOp :=
  [⟨(some 11), none, .mov (.tmp 5)⟩,
   ⟨(some 12), none, .un .not (.tmp 11)⟩]
@[simp] def ratlinelaw21_CycleFinds_r3 : List VOp :=
  [⟨(some 4), none, .mov (.const (.bool false))⟩]
@[simp] def ratlinelaw21_CycleFinds_r4 : List VOp :=
  [⟨(some 13), none, .mov (.tmp 0)⟩,
   ⟨(some 14), none, .len (.tmp 13)⟩,
   ⟨(some 15), none, .bin .gtr (.tmp 14) (.const (.int .i64 12))⟩]
@[simp] def ratlinelaw21_CycleFinds_r5 : List VOp :=
  [⟨(some 4), none, .mov (.const (.bool true))⟩]
@[simp] def ratlinelaw21_CycleFinds_r6 : List VOp :=
  [⟨(some 16), none, .build [.iv (.v (.int .i64 0)), .iv (.v (.bool false)), .iv (.v (.int .i64 0)), .iv (.v (.bool false)), .iv (.v (.int .i64 0)), .iv (.v (.string ⟨#[]⟩)), .iv (.v (.bool false))] [(0, 1, (.const (.int .i64 62)))]⟩,
   ⟨(some 6), none, .alloc [.iv (.v (.int .i64 0)), .iv (.v (.bool false)), .iv (.v (.int .i64 0)), .iv (.v (.bool false)), .iv (.v (.int .i64 0)), .iv (.v (.string ⟨#[]⟩)), .iv (.v (.bool false))]⟩,
   ⟨none, none, .st (.tmp 6) (.tmp 16) 7⟩]
@[simp] def ratlinelaw21_CycleFinds_r7 : List VOp :=
  [⟨(some 17), none, .build [.iv (.v (.int .i64 0)), .iv (.v (.bool false)), .iv (.v (.int .i64 0)), .iv (.v (.bool false)), .iv (.v (.int .i64 0)), .iv (.v (.string ⟨#[]⟩)), .iv (.v (.bool false))] [(0, 1, (.const (.int .i64 2)))]⟩,
   ⟨(some 7), none, .alloc [.iv (.v (.int .i64 0)), .iv (.v (.bool false)), .iv (.v (.int .i64 0)), .iv (.v (.bool false)), .iv (.v (.int .i64 0)), .iv (.v (.string ⟨#[]⟩)), .iv (.v (.bool false))]⟩,
   ⟨none, none, .st (.tmp 7) (.tmp 17) 7⟩]
@[simp] def ratlinelaw21_CycleFinds_r8 : List VOp :=
  [⟨(some 18), none, .build [.iv (.v (.int .i64 0)), .iv (.v (.bool false)), .iv (.v (.int .i64 0)), .iv (.v (.bool false)), .iv (.v (.int .i64 0)), .iv (.v (.string ⟨#[]⟩)), .iv (.v (.bool false))] [(0, 1, (.const (.int .i64 16)))]⟩,
   ⟨(some 8), none, .alloc [.iv (.v (.int .i64 0)), .iv (.v (.bool false)), .iv (.v (.int .i64 0)), .iv (.v (.bool false)), .iv (.v (.int .i64 0)), .iv (.v (.string ⟨#[]⟩)), .iv (.v (.bool false))]⟩,
   ⟨none, none, .st (.tmp 8) (.tmp 18) 7⟩]
@[simp] def ratlinelaw21_CycleFinds_r9 : List VOp :=
  [⟨(some 9), none, .mov (.const (.int .i64 0))⟩]
@[simp] def ratlinelaw21_CycleFinds_r10 : List VOp :=
  [⟨(some 19), none, .mov (.tmp 9)⟩,
   ⟨(some 20), none, .mov (.tmp 0)⟩,
   ⟨(some 21), none, .len (.tmp 20)⟩,
   ⟨(some 22), none, .bin .lss (.tmp 19) (.tmp 21)⟩]
@[simp] def ratlinelaw21_CycleFinds_r11 : List VOp :=
  [⟨(some 25), none, .mov (.tmp 0)⟩,
   ⟨(some 26), none, .mov (.tmp 9)⟩,
   ⟨(some 27), none, .ia 8 (.tmp 25) (.tmp 26)⟩,
   ⟨(some 28), none, .fa 2 (.tmp 27)⟩,
   ⟨(some 29), none, .ld (.tmp 28) none⟩,
   ⟨(some 30), none, .bin .lss (.tmp 29) (.const (.int .i64 1))⟩,
   ⟨(some 31), none, .mov (.tmp 30)⟩,
   ⟨(some 32), (some (31, false)), .mov (.tmp 0)⟩,
   ⟨(some 33), (some (31, false)), .mov (.tmp 9)⟩,
   ⟨(some 34), (some (31, false)), .ia 8 (.tmp 32) (.tmp 33)⟩,
   ⟨(some 35), (some (31, false)), .fa 2 (.tmp 34)⟩,
   ⟨(some 36), (some (31, false)), .ld (.tmp 35) none⟩,
   ⟨(some 37), (some (31, false)), .bin .gtr (.tmp 36) (.const (.int .i64 5))⟩,
   ⟨(some 38), none, .pick (.tmp 31) (.const (.bool true)) (.tmp 37)⟩]
@[simp] def ratlinelaw21_CycleFinds_r12 : List VOp :=
  [⟨(some 4), none, .mov (.const (.bool true))⟩]
@[simp] def ratlinelaw21_CycleFinds_r13 : List VOp :=
  [⟨(some 23), none, .mov (.tmp 9)⟩,
   ⟨(some 24), none, .bin .add (.tmp 23) (.const (.int .i64 1))⟩,
   ⟨(some 9), none, .mov (.tmp 24)⟩]
def ratlinelaw21_CycleFinds_l14 : VCode :=
  (.seq (.seq (.reg ratlinelaw21_CycleFinds_r10) (.cond (.tmp 22) .skip (.exit 0))) (.seq (.block 1 (.seq (.reg ratlinelaw21_CycleFinds_r11) (.cond (.tmp 38) (.seq (.reg ratlinelaw21_CycleFinds_r12) .ret) .skip))) (.reg ratlinelaw21_CycleFinds_r13)))
@[simp] def ratlinelaw21_CycleFinds_r15 : List VOp :=
  [⟨(some 39), none, .mov (.tmp 1)⟩,
   ⟨(some 40), none, .bin .and (.tmp 39) (.const (.int .i64 3))⟩]
@[simp] def ratlinelaw21_CycleFinds_r16 : List VOp :=
  [⟨(some 42), none, .bin .eql (.tmp 40) (.const (.int .i64 0))⟩,
   ⟨(some 41), none, .mov (.tmp 42)⟩]
@[simp] def ratlinelaw21_CycleFinds_t17 : VT :=
  .op ⟨(some 43), none, .mov (.tmp 0)⟩ <|
  .op ⟨(some 47), none, .mov (.tmp 0)⟩ <|
  .alt (
   .op ⟨(some 44), none, .call n_ratlinelaw21_all []⟩ <|
   .alt (
    .op ⟨(some 45), none, .call n_ratlinelaw21_all []⟩ <|
    .alt (
     .op ⟨(some 46), none, .call n_cycle_Find [(.tmp 43), (.tmp 44), (.tmp 45)]⟩ <|
     .op ⟨(some 48), none, .ld (.tmp 6) (some 7)⟩ <|
     .op ⟨(some 49), none, .ld (.tmp 6) (some 7)⟩ <|
     .op ⟨(some 50), none, .call n_ratlineref21_Find [(.tmp 47), (.tmp 48), (.tmp 49)]⟩ <|
     .op ⟨(some 51), none, .call n_ratlineref20_Same [(.tmp 46), (.tmp 50)]⟩ <|
     .op ⟨(some 4), none, .mov (.tmp 51)⟩ <|
     .done) (
     .alt (
      .op ⟨(some 48), none, .ld (.tmp 6) (some 7)⟩ <|
      .alt (
       .op ⟨(some 46), none, .call n_cycle_Find [(.tmp 43), (.tmp 44), (.tmp 45)]⟩ <|
       .op ⟨(some 49), none, .ld (.tmp 6) (some 7)⟩ <|
       .op ⟨(some 50), none, .call n_ratlineref21_Find [(.tmp 47), (.tmp 48), (.tmp 49)]⟩ <|
       .op ⟨(some 51), none, .call n_ratlineref20_Same [(.tmp 46), (.tmp 50)]⟩ <|
       .op ⟨(some 4), none, .mov (.tmp 51)⟩ <|
       .done) (
       .op ⟨(some 49), none, .ld (.tmp 6) (some 7)⟩ <|
       .op ⟨(some 46), none, .call n_cycle_Find [(.tmp 43), (.tmp 44), (.tmp 45)]⟩ <|
       .op ⟨(some 50), none, .call n_ratlineref21_Find [(.tmp 47), (.tmp 48), (.tmp 49)]⟩ <|
       .op ⟨(some 51), none, .call n_ratlineref20_Same [(.tmp 46), (.tmp 50)]⟩ <|
       .op ⟨(some 4), none, .mov (.tmp 51)⟩ <|
       .done)) (
      .op ⟨(some 49), none, .ld (.tmp 6) (some 7)⟩ <|
      .alt (
       .op ⟨(some 46), none, .call n_cycle_Find [(.tmp 43), (.tmp 44), (.tmp 45)]⟩ <|
       .op ⟨(some 48), none, .ld (.tmp 6) (some 7)⟩ <|
       .op ⟨(some 50), none, .call n_ratlineref21_Find [(.tmp 47), (.tmp 48), (.tmp 49)]⟩ <|
       .op ⟨(some 51), none, .call n_ratlineref20_Same [(.tmp 46), (.tmp 50)]⟩ <|
       .op ⟨(some 4), none, .mov (.tmp 51)⟩ <|
       .done) (
       .op ⟨(some 48), none, .ld (.tmp 6) (some 7)⟩ <|
       .op ⟨(some 46), none, .call n_cycle_Find [(.tmp 43), (.tmp 44), (.tmp 45)]⟩ <|
       .op ⟨(some 50), none, .call n_ratlineref21_Find [(.tmp 47), (.tmp 48), (.tmp 49)]⟩ <|
       .op ⟨(some 51), none, .call n_ratlineref20_Same [(.tmp 46), (.tmp 50)]⟩ <|
       .op ⟨(some 4), none, .mov (.tmp 51)⟩ <|
       .done)))) (
    .alt (
     .op ⟨(some 48), none, .ld (.tmp 6) (some 7)⟩ <|
     .alt (
      .op ⟨(some 45), none, .call n_ratlinelaw21_all []⟩ <|
      .alt (
       .op ⟨(some 46), none, .call n_cycle_Find [(.tmp 43), (.tmp 44), (.tmp 45)]⟩ <|
       .op ⟨(some 49), none, .ld (.tmp 6) (some 7)⟩ <|
       .op ⟨(some 50), none, .call n_ratlineref21_Find [(.tmp 47), (.tmp 48), (.tmp 49)]⟩ <|
       .op ⟨(some 51), none, .call n_ratlineref20_Same [(.tmp 46), (.tmp 50)]⟩ <|
       .op ⟨(some 4), none, .mov (.tmp 51)⟩ <|
       .done) (
       .op ⟨(some 49), none, .ld (.tmp 6) (some 7)⟩ <|
       .op ⟨(some 46), none, .call n_cycle_Find [(.tmp 43), (.tmp 44), (.tmp 45)]⟩ <|
       .op ⟨(some 50), none, .call n_ratlineref21_Find [(.tmp 47), (.tmp 48), (.tmp 49)]⟩ <|
       .op ⟨(some 51), none, .call n_ratlineref20_Same [(.tmp 46), (.tmp 50)]⟩ <|
       .op ⟨(some 4), none, .mov (.tmp 51)⟩ <|
       .done)) (
      .op ⟨(some 49), none, .ld (.tmp 6) (some 7)⟩ <|
      .op ⟨(some 45), none, .call n_ratlinelaw21_all []⟩ <|
      .op ⟨(some 46), none, .call n_cycle_Find [(.tmp 43), (.tmp 44), (.tmp 45)]⟩ <|
      .op ⟨(some 50), none, .call n_ratlineref21_Find [(.tmp 47), (.tmp 48), (.tmp 49)]⟩ <|
      .op ⟨(some 51), none, .call n_ratlineref20_Same [(.tmp 46), (.tmp 50)]⟩ <|
      .op ⟨(some 4), none, .mov (.tmp 51)⟩ <|
      .done)) (
     .op ⟨(some 49), none, .ld (.tmp 6) (some 7)⟩ <|
     .alt (
      .op ⟨(some 45), none, .call n_ratlinelaw21_all []⟩ <|
      .alt (
       .op ⟨(some 46), none, .call n_cycle_Find [(.tmp 43), (.tmp 44), (.tmp 45)]⟩ <|
       .op ⟨(some 48), none, .ld (.tmp 6) (some 7)⟩ <|
       .op ⟨(some 50), none, .call n_ratlineref21_Find [(.tmp 47), (.tmp 48), (.tmp 49)]⟩ <|
       .op ⟨(some 51), none, .call n_ratlineref20_Same [(.tmp 46), (.tmp 50)]⟩ <|
       .op ⟨(some 4), none, .mov (.tmp 51)⟩ <|
       .done) (
       .op ⟨(some 48), none, .ld (.tmp 6) (some 7)⟩ <|
       .op ⟨(some 46), none, .call n_cycle_Find [(.tmp 43), (.tmp 44), (.tmp 45)]⟩ <|
       .op ⟨(some 50), none, .call n_ratlineref21_Find [(.tmp 47), (.tmp 48), (.tmp 49)]⟩ <|
       .op ⟨(some 51), none, .call n_ratlineref20_Same [(.tmp 46), (.tmp 50)]⟩ <|
       .op ⟨(some 4), none, .mov (.tmp 51)⟩ <|
       .done)) (
      .op ⟨(some 48), none, .ld (.tmp 6) (some 7)⟩ <|
      .op ⟨(some 45), none, .call n_ratlinelaw21_all []⟩ <|
      .op ⟨(some 46), none, .call n_cycle_Find [(.tmp 43), (.tmp 44), (.tmp 45)]⟩ <|
      .op ⟨(some 50), none, .call n_ratlineref21_Find [(.tmp 47), (.tmp 48), (.tmp 49)]⟩ <|
      .op ⟨(some 51), none, .call n_ratlineref20_Same [(.tmp 46), (.tmp 50)]⟩ <|
      .op ⟨(some 4), none, .mov (.tmp 51)⟩ <|
      .done)))) (
   .alt (
    .op ⟨(some 48), none, .ld (.tmp 6) (some 7)⟩ <|
    .alt (
     .op ⟨(some 44), none, .call n_ratlinelaw21_all []⟩ <|
     .alt (
      .op ⟨(some 45), none, .call n_ratlinelaw21_all []⟩ <|
      .alt (
       .op ⟨(some 46), none, .call n_cycle_Find [(.tmp 43), (.tmp 44), (.tmp 45)]⟩ <|
       .op ⟨(some 49), none, .ld (.tmp 6) (some 7)⟩ <|
       .op ⟨(some 50), none, .call n_ratlineref21_Find [(.tmp 47), (.tmp 48), (.tmp 49)]⟩ <|
       .op ⟨(some 51), none, .call n_ratlineref20_Same [(.tmp 46), (.tmp 50)]⟩ <|
       .op ⟨(some 4), none, .mov (.tmp 51)⟩ <|
       .done) (
       .op ⟨(some 49), none, .ld (.tmp 6) (some 7)⟩ <|
       .op ⟨(some 46), none, .call n_cycle_Find [(.tmp 43), (.tmp 44), (.tmp 45)]⟩ <|
       .op ⟨(some 50), none, .call n_ratlineref21_Find [(.tmp 47), (.tmp 48), (.tmp 49)]⟩ <|
       .op ⟨(some 51), none, .call n_ratlineref20_Same [(.tmp 46), (.tmp 50)]⟩ <|
       .op ⟨(some 4), none, .mov (.tmp 51)⟩ <|
       .done)) (
      .op ⟨(some 49), none, .ld (.tmp 6) (some 7)⟩ <|
      .op ⟨(some 45), none, .call n_ratlinelaw21_all []⟩ <|
      .op ⟨(some 46), none, .call n_cycle_Find [(.tmp 43), (.tmp 44), (.tmp 45)]⟩ <|
      .op ⟨(some 50), none, .call n_ratlineref21_Find [(.tmp 47), (.tmp 48), (.tmp 49)]⟩ <|
      .op ⟨(some 51), none, .call n_ratlineref20_Same [(.tmp 46), (.tmp 50)]⟩ <|
      .op ⟨(some 4), none, .mov (.tmp 51)⟩ <|
      .done)) (
     .op ⟨(some 49), none, .ld (.tmp 6) (some 7)⟩ <|
     .op ⟨(some 44), none, .call n_ratlinelaw21_all []⟩ <|
     .op ⟨(some 45), none, .call n_ratlinelaw21_all []⟩ <|
     .op ⟨(some 46), none, .call n_cycle_Find [(.tmp 43), (.tmp 44), (.tmp 45)]⟩ <|
     .op ⟨(some 50), none, .call n_ratlineref21_Find [(.tmp 47), (.tmp 48), (.tmp 49)]⟩ <|
     .op ⟨(some 51), none, .call n_ratlineref20_Same [(.tmp 46), (.tmp 50)]⟩ <|
     .op ⟨(some 4), none, .mov (.tmp 51)⟩ <|
     .done)) (
    .op ⟨(some 49), none, .ld (.tmp 6) (some 7)⟩ <|
    .alt (
     .op ⟨(some 44), none, .call n_ratlinelaw21_all []⟩ <|
     .alt (
      .op ⟨(some 45), none, .call n_ratlinelaw21_all []⟩ <|
      .alt (
       .op ⟨(some 46), none, .call n_cycle_Find [(.tmp 43), (.tmp 44), (.tmp 45)]⟩ <|
       .op ⟨(some 48), none, .ld (.tmp 6) (some 7)⟩ <|
       .op ⟨(some 50), none, .call n_ratlineref21_Find [(.tmp 47), (.tmp 48), (.tmp 49)]⟩ <|
       .op ⟨(some 51), none, .call n_ratlineref20_Same [(.tmp 46), (.tmp 50)]⟩ <|
       .op ⟨(some 4), none, .mov (.tmp 51)⟩ <|
       .done) (
       .op ⟨(some 48), none, .ld (.tmp 6) (some 7)⟩ <|
       .op ⟨(some 46), none, .call n_cycle_Find [(.tmp 43), (.tmp 44), (.tmp 45)]⟩ <|
       .op ⟨(some 50), none, .call n_ratlineref21_Find [(.tmp 47), (.tmp 48), (.tmp 49)]⟩ <|
       .op ⟨(some 51), none, .call n_ratlineref20_Same [(.tmp 46), (.tmp 50)]⟩ <|
       .op ⟨(some 4), none, .mov (.tmp 51)⟩ <|
       .done)) (
      .op ⟨(some 48), none, .ld (.tmp 6) (some 7)⟩ <|
      .op ⟨(some 45), none, .call n_ratlinelaw21_all []⟩ <|
      .op ⟨(some 46), none, .call n_cycle_Find [(.tmp 43), (.tmp 44), (.tmp 45)]⟩ <|
      .op ⟨(some 50), none, .call n_ratlineref21_Find [(.tmp 47), (.tmp 48), (.tmp 49)]⟩ <|
      .op ⟨(some 51), none, .call n_ratlineref20_Same [(.tmp 46), (.tmp 50)]⟩ <|
      .op ⟨(some 4), none, .mov (.tmp 51)⟩ <|
      .done)) (
     .op ⟨(some 48), none, .ld (.tmp 6) (some 7)⟩ <|
     .op ⟨(some 44), none, .call n_ratlinelaw21_all []⟩ <|
     .op ⟨(some 45), none, .call n_ratlinelaw21_all []⟩ <|
     .op ⟨(some 46), none, .call n_cycle_Find [(.tmp 43), (.tmp 44), (.tmp 45)]⟩ <|
     .op ⟨(some 50), none, .call n_ratlineref21_Find [(.tmp 47), (.tmp 48), (.tmp 49)]⟩ <|
     .op ⟨(some 51), none, .call n_ratlineref20_Same [(.tmp 46), (.tmp 50)]⟩ <|
     .op ⟨(some 4), none, .mov (.tmp 51)⟩ <|
     .done)))
@[simp] def ratlinelaw21_CycleFinds_r18 : List VOp :=
  [⟨(some 53), none, .bin .eql (.tmp 40) (.const (.int .i64 1))⟩,
   ⟨(some 52), none, .mov (.tmp 53)⟩]
@[simp] def ratlinelaw21_CycleFinds_t19 : VT :=
  .op ⟨(some 54), none, .mov (.tmp 0)⟩ <|
  .op ⟨(some 58), none, .mov (.tmp 0)⟩ <|
  .alt (
   .op ⟨(some 55), none, .call n_ratlinelaw21_writes []⟩ <|
   .alt (
    .op ⟨(some 56), none, .call n_ratlinelaw21_writes []⟩ <|
    .alt (
     .op ⟨(some 57), none, .call n_cycle_Find [(.tmp 54), (.tmp 55), (.tmp 56)]⟩ <|
     .op ⟨(some 59), none, .ld (.tmp 7) (some 7)⟩ <|
     .op ⟨(some 60), none, .ld (.tmp 7) (some 7)⟩ <|
     .op ⟨(some 61), none, .call n_ratlineref21_Find [(.tmp 58), (.tmp 59), (.tmp 60)]⟩ <|
     .op ⟨(some 62), none, .call n_ratlineref20_Same [(.tmp 57), (.tmp 61)]⟩ <|
     .op ⟨(some 4), none, .mov (.tmp 62)⟩ <|
     .done) (
     .alt (
      .op ⟨(some 59), none, .ld (.tmp 7) (some 7)⟩ <|
      .alt (
       .op ⟨(some 57), none, .call n_cycle_Find [(.tmp 54), (.tmp 55), (.tmp 56)]⟩ <|
       .op ⟨(some 60), none, .ld (.tmp 7) (some 7)⟩ <|
       .op ⟨(some 61), none, .call n_ratlineref21_Find [(.tmp 58), (.tmp 59), (.tmp 60)]⟩ <|
       .op ⟨(some 62), none, .call n_ratlineref20_Same [(.tmp 57), (.tmp 61)]⟩ <|
       .op ⟨(some 4), none, .mov (.tmp 62)⟩ <|
       .done) (
       .op ⟨(some 60), none, .ld (.tmp 7) (some 7)⟩ <|
       .op ⟨(some 57), none, .call n_cycle_Find [(.tmp 54), (.tmp 55), (.tmp 56)]⟩ <|
       .op ⟨(some 61), none, .call n_ratlineref21_Find [(.tmp 58), (.tmp 59), (.tmp 60)]⟩ <|
       .op ⟨(some 62), none, .call n_ratlineref20_Same [(.tmp 57), (.tmp 61)]⟩ <|
       .op ⟨(some 4), none, .mov (.tmp 62)⟩ <|
       .done)) (
      .op ⟨(some 60), none, .ld (.tmp 7) (some 7)⟩ <|
      .alt (
       .op ⟨(some 57), none, .call n_cycle_Find [(.tmp 54), (.tmp 55), (.tmp 56)]⟩ <|
       .op ⟨(some 59), none, .ld (.tmp 7) (some 7)⟩ <|
       .op ⟨(some 61), none, .call n_ratlineref21_Find [(.tmp 58), (.tmp 59), (.tmp 60)]⟩ <|
       .op ⟨(some 62), none, .call n_ratlineref20_Same [(.tmp 57), (.tmp 61)]⟩ <|
       .op ⟨(some 4), none, .mov (.tmp 62)⟩ <|
       .done) (
       .op ⟨(some 59), none, .ld (.tmp 7) (some 7)⟩ <|
       .op ⟨(some 57), none, .call n_cycle_Find [(.tmp 54), (.tmp 55), (.tmp 56)]⟩ <|
       .op ⟨(some 61), none, .call n_ratlineref21_Find [(.tmp 58), (.tmp 59), (.tmp 60)]⟩ <|
       .op ⟨(some 62), none, .call n_ratlineref20_Same [(.tmp 57), (.tmp 61)]⟩ <|
       .op ⟨(some 4), none, .mov (.tmp 62)⟩ <|
       .done)))) (
    .alt (
     .op ⟨(some 59), none, .ld (.tmp 7) (some 7)⟩ <|
     .alt (
      .op ⟨(some 56), none, .call n_ratlinelaw21_writes []⟩ <|
      .alt (
       .op ⟨(some 57), none, .call n_cycle_Find [(.tmp 54), (.tmp 55), (.tmp 56)]⟩ <|
       .op ⟨(some 60), none, .ld (.tmp 7) (some 7)⟩ <|
       .op ⟨(some 61), none, .call n_ratlineref21_Find [(.tmp 58), (.tmp 59), (.tmp 60)]⟩ <|
       .op ⟨(some 62), none, .call n_ratlineref20_Same [(.tmp 57), (.tmp 61)]⟩ <|
       .op ⟨(some 4), none, .mov (.tmp 62)⟩ <|
       .done) (
       .op ⟨(some 60), none, .ld (.tmp 7) (some 7)⟩ <|
       .op ⟨(some 57), none, .call n_cycle_Find [(.tmp 54), (.tmp 55), (.tmp 56)]⟩ <|
       .op ⟨(some 61), none, .call n_ratlineref21_Find [(.tmp 58), (.tmp 59), (.tmp 60)]⟩ <|
       .op ⟨(some 62), none, .call n_ratlineref20_Same [(.tmp 57), (.tmp 61)]⟩ <|
       .op ⟨(some 4), none, .mov (.tmp 62)⟩ <|
       .done)) (
      .op ⟨(some 60), none, .ld (.tmp 7) (some 7)⟩ <|
      .op ⟨(some 56), none, .call n_ratlinelaw21_writes []⟩ <|
      .op ⟨(some 57), none, .call n_cycle_Find [(.tmp 54), (.tmp 55), (.tmp 56)]⟩ <|
      .op ⟨(some 61), none, .call n_ratlineref21_Find [(.tmp 58), (.tmp 59), (.tmp 60)]⟩ <|
      .op ⟨(some 62), none, .call n_ratlineref20_Same [(.tmp 57), (.tmp 61)]⟩ <|
      .op ⟨(some 4), none, .mov (.tmp 62)⟩ <|
      .done)) (
     .op ⟨(some 60), none, .ld (.tmp 7) (some 7)⟩ <|
     .alt (
      .op ⟨(some 56), none, .call n_ratlinelaw21_writes []⟩ <|
      .alt (
       .op ⟨(some 57), none, .call n_cycle_Find [(.tmp 54), (.tmp 55), (.tmp 56)]⟩ <|
       .op ⟨(some 59), none, .ld (.tmp 7) (some 7)⟩ <|
       .op ⟨(some 61), none, .call n_ratlineref21_Find [(.tmp 58), (.tmp 59), (.tmp 60)]⟩ <|
       .op ⟨(some 62), none, .call n_ratlineref20_Same [(.tmp 57), (.tmp 61)]⟩ <|
       .op ⟨(some 4), none, .mov (.tmp 62)⟩ <|
       .done) (
       .op ⟨(some 59), none, .ld (.tmp 7) (some 7)⟩ <|
       .op ⟨(some 57), none, .call n_cycle_Find [(.tmp 54), (.tmp 55), (.tmp 56)]⟩ <|
       .op ⟨(some 61), none, .call n_ratlineref21_Find [(.tmp 58), (.tmp 59), (.tmp 60)]⟩ <|
       .op ⟨(some 62), none, .call n_ratlineref20_Same [(.tmp 57), (.tmp 61)]⟩ <|
       .op ⟨(some 4), none, .mov (.tmp 62)⟩ <|
       .done)) (
      .op ⟨(some 59), none, .ld (.tmp 7) (some 7)⟩ <|
      .op ⟨(some 56), none, .call n_ratlinelaw21_writes []⟩ <|
      .op ⟨(some 57), none, .call n_cycle_Find [(.tmp 54), (.tmp 55), (.tmp 56)]⟩ <|
      .op ⟨(some 61), none, .call n_ratlineref21_Find [(.tmp 58), (.tmp 59), (.tmp 60)]⟩ <|
      .op ⟨(some 62), none, .call n_ratlineref20_Same [(.tmp 57), (.tmp 61)]⟩ <|
      .op ⟨(some 4), none, .mov (.tmp 62)⟩ <|
      .done)))) (
   .alt (
    .op ⟨(some 59), none, .ld (.tmp 7) (some 7)⟩ <|
    .alt (
     .op ⟨(some 55), none, .call n_ratlinelaw21_writes []⟩ <|
     .alt (
      .op ⟨(some 56), none, .call n_ratlinelaw21_writes []⟩ <|
      .alt (
       .op ⟨(some 57), none, .call n_cycle_Find [(.tmp 54), (.tmp 55), (.tmp 56)]⟩ <|
       .op ⟨(some 60), none, .ld (.tmp 7) (some 7)⟩ <|
       .op ⟨(some 61), none, .call n_ratlineref21_Find [(.tmp 58), (.tmp 59), (.tmp 60)]⟩ <|
       .op ⟨(some 62), none, .call n_ratlineref20_Same [(.tmp 57), (.tmp 61)]⟩ <|
       .op ⟨(some 4), none, .mov (.tmp 62)⟩ <|
       .done) (
       .op ⟨(some 60), none, .ld (.tmp 7) (some 7)⟩ <|
       .op ⟨(some 57), none, .call n_cycle_Find [(.tmp 54), (.tmp 55), (.tmp 56)]⟩ <|
       .op ⟨(some 61), none, .call n_ratlineref21_Find [(.tmp 58), (.tmp 59), (.tmp 60)]⟩ <|
       .op ⟨(some 62), none, .call n_ratlineref20_Same [(.tmp 57), (.tmp 61)]⟩ <|
       .op ⟨(some 4), none, .mov (.tmp 62)⟩ <|
       .done)) (
      .op ⟨(some 60), none, .ld (.tmp 7) (some 7)⟩ <|
      .op ⟨(some 56), none, .call n_ratlinelaw21_writes []⟩ <|
      .op ⟨(some 57), none, .call n_cycle_Find [(.tmp 54), (.tmp 55), (.tmp 56)]⟩ <|
      .op ⟨(some 61), none, .call n_ratlineref21_Find [(.tmp 58), (.tmp 59), (.tmp 60)]⟩ <|
      .op ⟨(some 62), none, .call n_ratlineref20_Same [(.tmp 57), (.tmp 61)]⟩ <|
      .op ⟨(some 4), none, .mov (.tmp 62)⟩ <|
      .done)) (
     .op ⟨(some 60), none, .ld (.tmp 7) (some 7)⟩ <|
     .op ⟨(some 55), none, .call n_ratlinelaw21_writes []⟩ <|
     .op ⟨(some 56), none, .call n_ratlinelaw21_writes []⟩ <|
     .op ⟨(some 57), none, .call n_cycle_Find [(.tmp 54), (.tmp 55), (.tmp 56)]⟩ <|
     .op ⟨(some 61), none, .call n_ratlineref21_Find [(.tmp 58), (.tmp 59), (.tmp 60)]⟩ <|
     .op ⟨(some 62), none, .call n_ratlineref20_Same [(.tmp 57), (.tmp 61)]⟩ <|
     .op ⟨(some 4), none, .mov (.tmp 62)⟩ <|
     .done)) (
    .op ⟨(some 60), none, .ld (.tmp 7) (some 7)⟩ <|
    .alt (
     .op ⟨(some 55), none, .call n_ratlinelaw21_writes []⟩ <|
     .alt (
      .op ⟨(some 56), none, .call n_ratlinelaw21_writes []⟩ <|
      .alt (
       .op ⟨(some 57), none, .call n_cycle_Find [(.tmp 54), (.tmp 55), (.tmp 56)]⟩ <|
       .op ⟨(some 59), none, .ld (.tmp 7) (some 7)⟩ <|
       .op ⟨(some 61), none, .call n_ratlineref21_Find [(.tmp 58), (.tmp 59), (.tmp 60)]⟩ <|
       .op ⟨(some 62), none, .call n_ratlineref20_Same [(.tmp 57), (.tmp 61)]⟩ <|
       .op ⟨(some 4), none, .mov (.tmp 62)⟩ <|
       .done) (
       .op ⟨(some 59), none, .ld (.tmp 7) (some 7)⟩ <|
       .op ⟨(some 57), none, .call n_cycle_Find [(.tmp 54), (.tmp 55), (.tmp 56)]⟩ <|
       .op ⟨(some 61), none, .call n_ratlineref21_Find [(.tmp 58), (.tmp 59), (.tmp 60)]⟩ <|
       .op ⟨(some 62), none, .call n_ratlineref20_Same [(.tmp 57), (.tmp 61)]⟩ <|
       .op ⟨(some 4), none, .mov (.tmp 62)⟩ <|
       .done)) (
      .op ⟨(some 59), none, .ld (.tmp 7) (some 7)⟩ <|
      .op ⟨(some 56), none, .call n_ratlinelaw21_writes []⟩ <|
      .op ⟨(some 57), none, .call n_cycle_Find [(.tmp 54), (.tmp 55), (.tmp 56)]⟩ <|
      .op ⟨(some 61), none, .call n_ratlineref21_Find [(.tmp 58), (.tmp 59), (.tmp 60)]⟩ <|
      .op ⟨(some 62), none, .call n_ratlineref20_Same [(.tmp 57), (.tmp 61)]⟩ <|
      .op ⟨(some 4), none, .mov (.tmp 62)⟩ <|
      .done)) (
     .op ⟨(some 59), none, .ld (.tmp 7) (some 7)⟩ <|
     .op ⟨(some 55), none, .call n_ratlinelaw21_writes []⟩ <|
     .op ⟨(some 56), none, .call n_ratlinelaw21_writes []⟩ <|
     .op ⟨(some 57), none, .call n_cycle_Find [(.tmp 54), (.tmp 55), (.tmp 56)]⟩ <|
     .op ⟨(some 61), none, .call n_ratlineref21_Find [(.tmp 58), (.tmp 59), (.tmp 60)]⟩ <|
     .op ⟨(some 62), none, .call n_ratlineref20_Same [(.tmp 57), (.tmp 61)]⟩ <|
     .op ⟨(some 4), none, .mov (.tmp 62)⟩ <|
     .done)))
@[simp] def ratlinelaw21_CycleFinds_r20 : List VOp :=
  [⟨(some 64), none, .bin .eql (.tmp 40) (.const (.int .i64 2))⟩,
   ⟨(some 63), none, .mov (.tmp 64)⟩]
@[simp] def ratlinelaw21_CycleFinds_t21 : VT :=
  .op ⟨(some 65), none, .mov (.tmp 0)⟩ <|
  .op ⟨(some 69), none, .mov (.tmp 0)⟩ <|
  .alt (
   .op ⟨(some 66), none, .call n_ratlinelaw21_reads []⟩ <|
   .alt (
    .op ⟨(some 67), none, .call n_ratlinelaw21_all []⟩ <|
    .alt (
     .op ⟨(some 68), none, .call n_cycle_Find [(.tmp 65), (.tmp 66), (.tmp 67)]⟩ <|
     .op ⟨(some 70), none, .ld (.tmp 8) (some 7)⟩ <|
     .op ⟨(some 71), none, .ld (.tmp 6) (some 7)⟩ <|
     .op ⟨(some 72), none, .call n_ratlineref21_Find [(.tmp 69), (.tmp 70), (.tmp 71)]⟩ <|
     .op ⟨(some 73), none, .call n_ratlineref20_Same [(.tmp 68), (.tmp 72)]⟩ <|
     .op ⟨(some 4), none, .mov (.tmp 73)⟩ <|
     .done) (
     .alt (
      .op ⟨(some 70), none, .ld (.tmp 8) (some 7)⟩ <|
      .alt (
       .op ⟨(some 68), none, .call n_cycle_Find [(.tmp 65), (.tmp 66), (.tmp 67)]⟩ <|
       .op ⟨(some 71), none, .ld (.tmp 6) (some 7)⟩ <|
       .op ⟨(some 72), none, .call n_ratlineref21_Find [(.tmp 69), (.tmp 70), (.tmp 71)]⟩ <|
       .op ⟨(some 73), none, .call n_ratlineref20_Same [(.tmp 68), (.tmp 72)]⟩ <|
       .op ⟨(some 4), none, .mov (.tmp 73)⟩ <|
       .done) (
       .op ⟨(some 71), none, .ld (.tmp 6) (some 7)⟩ <|
       .op ⟨(some 68), none, .call n_cycle_Find [(.tmp 65), (.tmp 66), (.tmp 67)]⟩ <|
       .op ⟨(some 72), none, .call n_ratlineref21_Find [(.tmp 69), (.tmp 70), (.tmp 71)]⟩ <|
       .op ⟨(some 73), none, .call n_ratlineref20_Same [(.tmp 68), (.tmp 72)]⟩ <|
       .op ⟨(some 4), none, .mov (.tmp 73)⟩ <|
       .done)) (
      .op ⟨(some 71), none, .ld (.tmp 6) (some 7)⟩ <|
      .alt (
       .op ⟨(some 68), none, .call n_cycle_Find [(.tmp 65), (.tmp 66), (.tmp 67)]⟩ <|
       .op ⟨(some 70), none, .ld (.tmp 8) (some 7)⟩ <|
       .op ⟨(some 72), none, .call n_ratlineref21_Find [(.tmp 69), (.tmp 70), (.tmp 71)]⟩ <|
       .op ⟨(some 73), none, .call n_ratlineref20_Same [(.tmp 68), (.tmp 72)]⟩ <|
       .op ⟨(some 4), none, .mov (.tmp 73)⟩ <|
       .done) (
       .op ⟨(some 70), none, .ld (.tmp 8) (some 7)⟩ <|
       .op ⟨(some 68), none, .call n_cycle_Find [(.tmp 65), (.tmp 66), (.tmp 67)]⟩ <|
       .op ⟨(some 72), none, .call n_ratlineref21_Find [(.tmp 69), (.tmp 70), (.tmp 71)]⟩ <|
       .op ⟨(some 73), none, .call n_ratlineref20_Same [(.tmp 68), (.tmp 72)]⟩ <|
       .op ⟨(some 4), none, .mov (.tmp 73)⟩ <|
       .done)))) (
    .alt (
     .op ⟨(some 70), none, .ld (.tmp 8) (some 7)⟩ <|
     .alt (
      .op ⟨(some 67), none, .call n_ratlinelaw21_all []⟩ <|
      .alt (
       .op ⟨(some 68), none, .call n_cycle_Find [(.tmp 65), (.tmp 66), (.tmp 67)]⟩ <|
       .op ⟨(some 71), none, .ld (.tmp 6) (some 7)⟩ <|
       .op ⟨(some 72), none, .call n_ratlineref21_Find [(.tmp 69), (.tmp 70), (.tmp 71)]⟩ <|
       .op ⟨(some 73), none, .call n_ratlineref20_Same [(.tmp 68), (.tmp 72)]⟩ <|
       .op ⟨(some 4), none, .mov (.tmp 73)⟩ <|
       .done) (
       .op ⟨(some 71), none, .ld (.tmp 6) (some 7)⟩ <|
       .op ⟨(some 68), none, .call n_cycle_Find [(.tmp 65), (.tmp 66), (.tmp 67)]⟩ <|
       .op ⟨(some 72), none, .call n_ratlineref21_Find [(.tmp 69), (.tmp 70), (.tmp 71)]⟩ <|
       .op ⟨(some 73), none, .call n_ratlineref20_Same [(.tmp 68), (.tmp 72)]⟩ <|
       .op ⟨(some 4), none, .mov (.tmp 73)⟩ <|
       .done)) (
      .op ⟨(some 71), none, .ld (.tmp 6) (some 7)⟩ <|
      .op ⟨(some 67), none, .call n_ratlinelaw21_all []⟩ <|
      .op ⟨(some 68), none, .call n_cycle_Find [(.tmp 65), (.tmp 66), (.tmp 67)]⟩ <|
      .op ⟨(some 72), none, .call n_ratlineref21_Find [(.tmp 69), (.tmp 70), (.tmp 71)]⟩ <|
      .op ⟨(some 73), none, .call n_ratlineref20_Same [(.tmp 68), (.tmp 72)]⟩ <|
      .op ⟨(some 4), none, .mov (.tmp 73)⟩ <|
      .done)) (
     .op ⟨(some 71), none, .ld (.tmp 6) (some 7)⟩ <|
     .alt (
      .op ⟨(some 67), none, .call n_ratlinelaw21_all []⟩ <|
      .alt (
       .op ⟨(some 68), none, .call n_cycle_Find [(.tmp 65), (.tmp 66), (.tmp 67)]⟩ <|
       .op ⟨(some 70), none, .ld (.tmp 8) (some 7)⟩ <|
       .op ⟨(some 72), none, .call n_ratlineref21_Find [(.tmp 69), (.tmp 70), (.tmp 71)]⟩ <|
       .op ⟨(some 73), none, .call n_ratlineref20_Same [(.tmp 68), (.tmp 72)]⟩ <|
       .op ⟨(some 4), none, .mov (.tmp 73)⟩ <|
       .done) (
       .op ⟨(some 70), none, .ld (.tmp 8) (some 7)⟩ <|
       .op ⟨(some 68), none, .call n_cycle_Find [(.tmp 65), (.tmp 66), (.tmp 67)]⟩ <|
       .op ⟨(some 72), none, .call n_ratlineref21_Find [(.tmp 69), (.tmp 70), (.tmp 71)]⟩ <|
       .op ⟨(some 73), none, .call n_ratlineref20_Same [(.tmp 68), (.tmp 72)]⟩ <|
       .op ⟨(some 4), none, .mov (.tmp 73)⟩ <|
       .done)) (
      .op ⟨(some 70), none, .ld (.tmp 8) (some 7)⟩ <|
      .op ⟨(some 67), none, .call n_ratlinelaw21_all []⟩ <|
      .op ⟨(some 68), none, .call n_cycle_Find [(.tmp 65), (.tmp 66), (.tmp 67)]⟩ <|
      .op ⟨(some 72), none, .call n_ratlineref21_Find [(.tmp 69), (.tmp 70), (.tmp 71)]⟩ <|
      .op ⟨(some 73), none, .call n_ratlineref20_Same [(.tmp 68), (.tmp 72)]⟩ <|
      .op ⟨(some 4), none, .mov (.tmp 73)⟩ <|
      .done)))) (
   .alt (
    .op ⟨(some 70), none, .ld (.tmp 8) (some 7)⟩ <|
    .alt (
     .op ⟨(some 66), none, .call n_ratlinelaw21_reads []⟩ <|
     .alt (
      .op ⟨(some 67), none, .call n_ratlinelaw21_all []⟩ <|
      .alt (
       .op ⟨(some 68), none, .call n_cycle_Find [(.tmp 65), (.tmp 66), (.tmp 67)]⟩ <|
       .op ⟨(some 71), none, .ld (.tmp 6) (some 7)⟩ <|
       .op ⟨(some 72), none, .call n_ratlineref21_Find [(.tmp 69), (.tmp 70), (.tmp 71)]⟩ <|
       .op ⟨(some 73), none, .call n_ratlineref20_Same [(.tmp 68), (.tmp 72)]⟩ <|
       .op ⟨(some 4), none, .mov (.tmp 73)⟩ <|
       .done) (
       .op ⟨(some 71), none, .ld (.tmp 6) (some 7)⟩ <|
       .op ⟨(some 68), none, .call n_cycle_Find [(.tmp 65), (.tmp 66), (.tmp 67)]⟩ <|
       .op ⟨(some 72), none, .call n_ratlineref21_Find [(.tmp 69), (.tmp 70), (.tmp 71)]⟩ <|
       .op ⟨(some 73), none, .call n_ratlineref20_Same [(.tmp 68), (.tmp 72)]⟩ <|
       .op ⟨(some 4), none, .mov (.tmp 73)⟩ <|
       .done)) (
      .op ⟨(some 71), none, .ld (.tmp 6) (some 7)⟩ <|
      .op ⟨(some 67), none, .call n_ratlinelaw21_all []⟩ <|
      .op ⟨(some 68), none, .call n_cycle_Find [(.tmp 65), (.tmp 66), (.tmp 67)]⟩ <|
      .op ⟨(some 72), none, .call n_ratlineref21_Find [(.tmp 69), (.tmp 70), (.tmp 71)]⟩ <|
      .op ⟨(some 73), none, .call n_ratlineref20_Same [(.tmp 68), (.tmp 72)]⟩ <|
      .op ⟨(some 4), none, .mov (.tmp 73)⟩ <|
      .done)) (
     .op ⟨(some 71), none, .ld (.tmp 6) (some 7)⟩ <|
     .op ⟨(some 66), none, .call n_ratlinelaw21_reads []⟩ <|
     .op ⟨(some 67), none, .call n_ratlinelaw21_all []⟩ <|
     .op ⟨(some 68), none, .call n_cycle_Find [(.tmp 65), (.tmp 66), (.tmp 67)]⟩ <|
     .op ⟨(some 72), none, .call n_ratlineref21_Find [(.tmp 69), (.tmp 70), (.tmp 71)]⟩ <|
     .op ⟨(some 73), none, .call n_ratlineref20_Same [(.tmp 68), (.tmp 72)]⟩ <|
     .op ⟨(some 4), none, .mov (.tmp 73)⟩ <|
     .done)) (
    .op ⟨(some 71), none, .ld (.tmp 6) (some 7)⟩ <|
    .alt (
     .op ⟨(some 66), none, .call n_ratlinelaw21_reads []⟩ <|
     .alt (
      .op ⟨(some 67), none, .call n_ratlinelaw21_all []⟩ <|
      .alt (
       .op ⟨(some 68), none, .call n_cycle_Find [(.tmp 65), (.tmp 66), (.tmp 67)]⟩ <|
       .op ⟨(some 70), none, .ld (.tmp 8) (some 7)⟩ <|
       .op ⟨(some 72), none, .call n_ratlineref21_Find [(.tmp 69), (.tmp 70), (.tmp 71)]⟩ <|
       .op ⟨(some 73), none, .call n_ratlineref20_Same [(.tmp 68), (.tmp 72)]⟩ <|
       .op ⟨(some 4), none, .mov (.tmp 73)⟩ <|
       .done) (
       .op ⟨(some 70), none, .ld (.tmp 8) (some 7)⟩ <|
       .op ⟨(some 68), none, .call n_cycle_Find [(.tmp 65), (.tmp 66), (.tmp 67)]⟩ <|
       .op ⟨(some 72), none, .call n_ratlineref21_Find [(.tmp 69), (.tmp 70), (.tmp 71)]⟩ <|
       .op ⟨(some 73), none, .call n_ratlineref20_Same [(.tmp 68), (.tmp 72)]⟩ <|
       .op ⟨(some 4), none, .mov (.tmp 73)⟩ <|
       .done)) (
      .op ⟨(some 70), none, .ld (.tmp 8) (some 7)⟩ <|
      .op ⟨(some 67), none, .call n_ratlinelaw21_all []⟩ <|
      .op ⟨(some 68), none, .call n_cycle_Find [(.tmp 65), (.tmp 66), (.tmp 67)]⟩ <|
      .op ⟨(some 72), none, .call n_ratlineref21_Find [(.tmp 69), (.tmp 70), (.tmp 71)]⟩ <|
      .op ⟨(some 73), none, .call n_ratlineref20_Same [(.tmp 68), (.tmp 72)]⟩ <|
      .op ⟨(some 4), none, .mov (.tmp 73)⟩ <|
      .done)) (
     .op ⟨(some 70), none, .ld (.tmp 8) (some 7)⟩ <|
     .op ⟨(some 66), none, .call n_ratlinelaw21_reads []⟩ <|
     .op ⟨(some 67), none, .call n_ratlinelaw21_all []⟩ <|
     .op ⟨(some 68), none, .call n_cycle_Find [(.tmp 65), (.tmp 66), (.tmp 67)]⟩ <|
     .op ⟨(some 72), none, .call n_ratlineref21_Find [(.tmp 69), (.tmp 70), (.tmp 71)]⟩ <|
     .op ⟨(some 73), none, .call n_ratlineref20_Same [(.tmp 68), (.tmp 72)]⟩ <|
     .op ⟨(some 4), none, .mov (.tmp 73)⟩ <|
     .done)))
@[simp] def ratlinelaw21_CycleFinds_t22 : VT :=
  .op ⟨(some 74), none, .mov (.tmp 0)⟩ <|
  .op ⟨(some 78), none, .mov (.tmp 0)⟩ <|
  .alt (
   .op ⟨(some 75), none, .call n_ratlinelaw21_reads []⟩ <|
   .alt (
    .op ⟨(some 76), none, .call n_ratlinelaw21_writes []⟩ <|
    .alt (
     .op ⟨(some 77), none, .call n_cycle_Find [(.tmp 74), (.tmp 75), (.tmp 76)]⟩ <|
     .op ⟨(some 79), none, .ld (.tmp 8) (some 7)⟩ <|
     .op ⟨(some 80), none, .ld (.tmp 7) (some 7)⟩ <|
     .op ⟨(some 81), none, .call n_ratlineref21_Find [(.tmp 78), (.tmp 79), (.tmp 80)]⟩ <|
     .op ⟨(some 82), none, .call n_ratlineref20_Same [(.tmp 77), (.tmp 81)]⟩ <|
     .op ⟨(some 4), none, .mov (.tmp 82)⟩ <|
     .done) (
     .alt (
      .op ⟨(some 79), none, .ld (.tmp 8) (some 7)⟩ <|
      .alt (
       .op ⟨(some 77), none, .call n_cycle_Find [(.tmp 74), (.tmp 75), (.tmp 76)]⟩ <|
       .op ⟨(some 80), none, .ld (.tmp 7) (some 7)⟩ <|
       .op ⟨(some 81), none, .call n_ratlineref21_Find [(.tmp 78), (.tmp 79), (.tmp 80)]⟩ <|
       .op ⟨(some 82), none, .call n_ratlineref20_Same [(.tmp 77), (.tmp 81)]⟩ <|
       .op ⟨(some 4), none, .mov (.tmp 82)⟩ <|
       .done) (
       .op ⟨(some 80), none, .ld (.tmp 7) (some 7)⟩ <|
       .op ⟨(some 77), none, .call n_cycle_Find [(.tmp 74), (.tmp 75), (.tmp 76)]⟩ <|
       .op ⟨(some 81), none, .call n_ratlineref21_Find [(.tmp 78), (.tmp 79), (.tmp 80)]⟩ <|
       .op ⟨(some 82), none, .call n_ratlineref20_Same [(.tmp 77), (.tmp 81)]⟩ <|
       .op ⟨(some 4), none, .mov (.tmp 82)⟩ <|
       .done)) (
      .op ⟨(some 80), none, .ld (.tmp 7) (some 7)⟩ <|
      .alt (
       .op ⟨(some 77), none, .call n_cycle_Find [(.tmp 74), (.tmp 75), (.tmp 76)]⟩ <|
       .op ⟨(some 79), none, .ld (.tmp 8) (some 7)⟩ <|
       .op ⟨(some 81), none, .call n_ratlineref21_Find [(.tmp 78), (.tmp 79), (.tmp 80)]⟩ <|
       .op ⟨(some 82), none, .call n_ratlineref20_Same [(.tmp 77), (.tmp 81)]⟩ <|
       .op ⟨(some 4), none, .mov (.tmp 82)⟩ <|
       .done) (
       .op ⟨(some 79), none, .ld (.tmp 8) (some 7)⟩ <|
       .op ⟨(some 77), none, .call n_cycle_Find [(.tmp 74), (.tmp 75), (.tmp 76)]⟩ <|
       .op ⟨(some 81), none, .call n_ratlineref21_Find [(.tmp 78), (.tmp 79), (.tmp 80)]⟩ <|
       .op ⟨(some 82), none, .call n_ratlineref20_Same [(.tmp 77), (.tmp 81)]⟩ <|
       .op ⟨(some 4), none, .mov (.tmp 82)⟩ <|
       .done)))) (
    .alt (
     .op ⟨(some 79), none, .ld (.tmp 8) (some 7)⟩ <|
     .alt (
      .op ⟨(some 76), none, .call n_ratlinelaw21_writes []⟩ <|
      .alt (
       .op ⟨(some 77), none, .call n_cycle_Find [(.tmp 74), (.tmp 75), (.tmp 76)]⟩ <|
       .op ⟨(some 80), none, .ld (.tmp 7) (some 7)⟩ <|
       .op ⟨(some 81), none, .call n_ratlineref21_Find [(.tmp 78), (.tmp 79), (.tmp 80)]⟩ <|
       .op ⟨(some 82), none, .call n_ratlineref20_Same [(.tmp 77), (.tmp 81)]⟩ <|
       .op ⟨(some 4), none, .mov (.tmp 82)⟩ <|
       .done) (
       .op ⟨(some 80), none, .ld (.tmp 7) (some 7)⟩ <|
       .op ⟨(some 77), none, .call n_cycle_Find [(.tmp 74), (.tmp 75), (.tmp 76)]⟩ <|
       .op ⟨(some 81), none, .call n_ratlineref21_Find [(.tmp 78), (.tmp 79), (.tmp 80)]⟩ <|
       .op ⟨(some 82), none, .call n_ratlineref20_Same [(.tmp 77), (.tmp 81)]⟩ <|
       .op ⟨(some 4), none, .mov (.tmp 82)⟩ <|
       .done)) (
      .op ⟨(some 80), none, .ld (.tmp 7) (some 7)⟩ <|
      .op ⟨(some 76), none, .call n_ratlinelaw21_writes []⟩ <|
      .op ⟨(some 77), none, .call n_cycle_Find [(.tmp 74), (.tmp 75), (.tmp 76)]⟩ <|
      .op ⟨(some 81), none, .call n_ratlineref21_Find [(.tmp 78), (.tmp 79), (.tmp 80)]⟩ <|
      .op ⟨(some 82), none, .call n_ratlineref20_Same [(.tmp 77), (.tmp 81)]⟩ <|
      .op ⟨(some 4), none, .mov (.tmp 82)⟩ <|
      .done)) (
     .op ⟨(some 80), none, .ld (.tmp 7) (some 7)⟩ <|
     .alt (
      .op ⟨(some 76), none, .call n_ratlinelaw21_writes []⟩ <|
      .alt (
       .op ⟨(some 77), none, .call n_cycle_Find [(.tmp 74), (.tmp 75), (.tmp 76)]⟩ <|
       .op ⟨(some 79), none, .ld (.tmp 8) (some 7)⟩ <|
       .op ⟨(some 81), none, .call n_ratlineref21_Find [(.tmp 78), (.tmp 79), (.tmp 80)]⟩ <|
       .op ⟨(some 82), none, .call n_ratlineref20_Same [(.tmp 77), (.tmp 81)]⟩ <|
       .op ⟨(some 4), none, .mov (.tmp 82)⟩ <|
       .done) (
       .op ⟨(some 79), none, .ld (.tmp 8) (some 7)⟩ <|
       .op ⟨(some 77), none, .call n_cycle_Find [(.tmp 74), (.tmp 75), (.tmp 76)]⟩ <|
       .op ⟨(some 81), none, .call n_ratlineref21_Find [(.tmp 78), (.tmp 79), (.tmp 80)]⟩ <|
       .op ⟨(some 82), none, .call n_ratlineref20_Same [(.tmp 77), (.tmp 81)]⟩ <|
       .op ⟨(some 4), none, .mov (.tmp 82)⟩ <|
       .done)) (
      .op ⟨(some 79), none, .ld (.tmp 8) (some 7)⟩ <|
      .op ⟨(some 76), none, .call n_ratlinelaw21_writes []⟩ <|
      .op ⟨(some 77), none, .call n_cycle_Find [(.tmp 74), (.tmp 75), (.tmp 76)]⟩ <|
      .op ⟨(some 81), none, .call n_ratlineref21_Find [(.tmp 78), (.tmp 79), (.tmp 80)]⟩ <|
      .op ⟨(some 82), none, .call n_ratlineref20_Same [(.tmp 77), (.tmp 81)]⟩ <|
      .op ⟨(some 4), none, .mov (.tmp 82)⟩ <|
      .done)))) (
   .alt (
    .op ⟨(some 79), none, .ld (.tmp 8) (some 7)⟩ <|
    .alt (
     .op ⟨(some 75), none, .call n_ratlinelaw21_reads []⟩ <|
     .alt (
      .op ⟨(some 76), none, .call n_ratlinelaw21_writes []⟩ <|
      .alt (
       .op ⟨(some 77), none, .call n_cycle_Find [(.tmp 74), (.tmp 75), (.tmp 76)]⟩ <|
       .op ⟨(some 80), none, .ld (.tmp 7) (some 7)⟩ <|
       .op ⟨(some 81), none, .call n_ratlineref21_Find [(.tmp 78), (.tmp 79), (.tmp 80)]⟩ <|
       .op ⟨(some 82), none, .call n_ratlineref20_Same [(.tmp 77), (.tmp 81)]⟩ <|
       .op ⟨(some 4), none, .mov (.tmp 82)⟩ <|
       .done) (
       .op ⟨(some 80), none, .ld (.tmp 7) (some 7)⟩ <|
       .op ⟨(some 77), none, .call n_cycle_Find [(.tmp 74), (.tmp 75), (.tmp 76)]⟩ <|
       .op ⟨(some 81), none, .call n_ratlineref21_Find [(.tmp 78), (.tmp 79), (.tmp 80)]⟩ <|
       .op ⟨(some 82), none, .call n_ratlineref20_Same [(.tmp 77), (.tmp 81)]⟩ <|
       .op ⟨(some 4), none, .mov (.tmp 82)⟩ <|
       .done)) (
      .op ⟨(some 80), none, .ld (.tmp 7) (some 7)⟩ <|
      .op ⟨(some 76), none, .call n_ratlinelaw21_writes []⟩ <|
      .op ⟨(some 77), none, .call n_cycle_Find [(.tmp 74), (.tmp 75), (.tmp 76)]⟩ <|
      .op ⟨(some 81), none, .call n_ratlineref21_Find [(.tmp 78), (.tmp 79), (.tmp 80)]⟩ <|
      .op ⟨(some 82), none, .call n_ratlineref20_Same [(.tmp 77), (.tmp 81)]⟩ <|
      .op ⟨(some 4), none, .mov (.tmp 82)⟩ <|
      .done)) (
     .op ⟨(some 80), none, .ld (.tmp 7) (some 7)⟩ <|
     .op ⟨(some 75), none, .call n_ratlinelaw21_reads []⟩ <|
     .op ⟨(some 76), none, .call n_ratlinelaw21_writes []⟩ <|
     .op ⟨(some 77), none, .call n_cycle_Find [(.tmp 74), (.tmp 75), (.tmp 76)]⟩ <|
     .op ⟨(some 81), none, .call n_ratlineref21_Find [(.tmp 78), (.tmp 79), (.tmp 80)]⟩ <|
     .op ⟨(some 82), none, .call n_ratlineref20_Same [(.tmp 77), (.tmp 81)]⟩ <|
     .op ⟨(some 4), none, .mov (.tmp 82)⟩ <|
     .done)) (
    .op ⟨(some 80), none, .ld (.tmp 7) (some 7)⟩ <|
    .alt (
     .op ⟨(some 75), none, .call n_ratlinelaw21_reads []⟩ <|
     .alt (
      .op ⟨(some 76), none, .call n_ratlinelaw21_writes []⟩ <|
      .alt (
       .op ⟨(some 77), none, .call n_cycle_Find [(.tmp 74), (.tmp 75), (.tmp 76)]⟩ <|
       .op ⟨(some 79), none, .ld (.tmp 8) (some 7)⟩ <|
       .op ⟨(some 81), none, .call n_ratlineref21_Find [(.tmp 78), (.tmp 79), (.tmp 80)]⟩ <|
       .op ⟨(some 82), none, .call n_ratlineref20_Same [(.tmp 77), (.tmp 81)]⟩ <|
       .op ⟨(some 4), none, .mov (.tmp 82)⟩ <|
       .done) (
       .op ⟨(some 79), none, .ld (.tmp 8) (some 7)⟩ <|
       .op ⟨(some 77), none, .call n_cycle_Find [(.tmp 74), (.tmp 75), (.tmp 76)]⟩ <|
       .op ⟨(some 81), none, .call n_ratlineref21_Find [(.tmp 78), (.tmp 79), (.tmp 80)]⟩ <|
       .op ⟨(some 82), none, .call n_ratlineref20_Same [(.tmp 77), (.tmp 81)]⟩ <|
       .op ⟨(some 4), none, .mov (.tmp 82)⟩ <|
       .done)) (
      .op ⟨(some 79), none, .ld (.tmp 8) (some 7)⟩ <|
      .op ⟨(some 76), none, .call n_ratlinelaw21_writes []⟩ <|
      .op ⟨(some 77), none, .call n_cycle_Find [(.tmp 74), (.tmp 75), (.tmp 76)]⟩ <|
      .op ⟨(some 81), none, .call n_ratlineref21_Find [(.tmp 78), (.tmp 79), (.tmp 80)]⟩ <|
      .op ⟨(some 82), none, .call n_ratlineref20_Same [(.tmp 77), (.tmp 81)]⟩ <|
      .op ⟨(some 4), none, .mov (.tmp 82)⟩ <|
      .done)) (
     .op ⟨(some 79), none, .ld (.tmp 8) (some 7)⟩ <|
     .op ⟨(some 75), none, .call n_ratlinelaw21_reads []⟩ <|
     .op ⟨(some 76), none, .call n_ratlinelaw21_writes []⟩ <|
     .op ⟨(some 77), none, .call n_cycle_Find [(.tmp 74), (.tmp 75), (.tmp 76)]⟩ <|
     .op ⟨(some 81), none, .call n_ratlineref21_Find [(.tmp 78), (.tmp 79), (.tmp 80)]⟩ <|
     .op ⟨(some 82), none, .call n_ratlineref20_Same [(.tmp 77), (.tmp 81)]⟩ <|
     .op ⟨(some 4), none, .mov (.tmp 82)⟩ <|
     .done)))
def ratlinelaw21_CycleFinds : VCode := (.seq (.reg ratlinelaw21_CycleFinds_r0) (.seq (.reg ratlinelaw21_CycleFinds_r1) (.seq (.seq (.reg ratlinelaw21_CycleFinds_r2) (.cond (.tmp 12) (.seq (.reg ratlinelaw21_CycleFinds_r3) .ret) .skip)) (.seq (.seq (.reg ratlinelaw21_CycleFinds_r4) (.cond (.tmp 15) (.seq (.reg ratlinelaw21_CycleFinds_r5) .ret) .skip)) (.seq (.reg ratlinelaw21_CycleFinds_r6) (.seq (.reg ratlinelaw21_CycleFinds_r7) (.seq (.reg ratlinelaw21_CycleFinds_r8) (.seq (.seq (.reg ratlinelaw21_CycleFinds_r9) (.block 0 (.loop ratlinelaw21_CycleFinds_l14))) (.seq (.seq (.reg ratlinelaw21_CycleFinds_r15) (.block 2 (.seq (.reg ratlinelaw21_CycleFinds_r16) (.cond (.tmp 41) (.seq (.any ratlinelaw21_CycleFinds_t17) .ret) (.seq (.reg ratlinelaw21_CycleFinds_r18) (.cond (.tmp 52) (.seq (.any ratlinelaw21_CycleFinds_t19) .ret) (.seq (.reg ratlinelaw21_CycleFinds_r20) (.cond (.tmp 63) (.seq (.any ratlinelaw21_CycleFinds_t21) .ret) .skip)))))))) (.seq (.any ratlinelaw21_CycleFinds_t22) .ret))))))))))
theorem ratlinelaw21_CycleFinds_is : fnV prog n_ratlinelaw21_CycleFinds = some (83, ratlinelaw21_CycleFinds, [.tmp 4]) := by kernel_rfl

/- ratlinelaw21_CycleRows -/
@[simp] def ratlinelaw21_CycleRows_r0 : List VOp :=
  [⟨(some 4), none, .mov (.const (.bool false))⟩]
@[simp] def ratlinelaw21_CycleRows_r1 : List VOp :=
  [⟨(some 10), none, .call n_ratlinelaw21_awake []⟩,
   ⟨(some 5), none, .mov (.tmp 10)⟩]
@[simp] def ratlinelaw21_CycleRows_r2 : List VOp :=
  [⟨(some 11), none, .mov (.tmp 5)⟩,
   ⟨(some 12), none, .un .not (.tmp 11)⟩]
@[simp] def ratlinelaw21_CycleRows_r3 : List VOp :=
  [⟨(some 4), none, .mov (.const (.bool false))⟩]
@[simp] def ratlinelaw21_CycleRows_r4 : List VOp :=
  [⟨(some 13), none, .mov (.tmp 0)⟩,
   ⟨(some 14), none, .len (.tmp 13)⟩,
   ⟨(some 15), none, .bin .gtr (.tmp 14) (.const (.int .i64 40))⟩,
   ⟨(some 16), none, .mov (.tmp 15)⟩,
   ⟨(some 17), (some (16, false)), .mov (.tmp 1)⟩,
   ⟨(some 18), (some (16, false)), .len (.tmp 17)⟩,
   ⟨(some 19), (some (16, false)), .bin .gtr (.tmp 18) (.const (.int .i64 40))⟩,
   ⟨(some 20), none, .pick (.tmp 16) (.const (.bool true)) (.tmp 19)⟩]
@[simp] def ratlinelaw21_CycleRows_r5 : List VOp :=
  [⟨(some 4), none, .mov (.const (.bool true))⟩]
@[simp] def ratlinelaw21_CycleRows_r6 : List VOp :=
  [⟨(some 22), none, .mov (.tmp 0)⟩,
   ⟨(some 23), none, .mov (.tmp 1)⟩,
   ⟨(some 24), none, .call n_cycle_Sorted [(.tmp 22), (.tmp 23)]⟩,
   ⟨(some 21), none, .mov (.tmp 24)⟩,
   ⟨(some 25), none, .ext 0 (.tmp 21)⟩,
   ⟨(some 26), none, .ext 1 (.tmp 21)⟩,
   ⟨(some 6), none, .mov (.tmp 25)⟩,
   ⟨(some 7), none, .mov (.tmp 26)⟩]
@[simp] def ratlinelaw21_CycleRows_r7 : List VOp :=
  [⟨(some 28), none, .mov (.tmp 0)⟩,
   ⟨(some 29), none, .mov (.tmp 1)⟩,
   ⟨(some 30), none, .call n_ratlineref21_Sorted [(.tmp 28), (.tmp 29)]⟩,
   ⟨(some 27), none, .mov (.tmp 30)⟩,
   ⟨(some 31), none, .ext 0 (.tmp 27)⟩,
   ⟨(some 32), none, .ext 1 (.tmp 27)⟩,
   ⟨(some 8), none, .mov (.tmp 31)⟩,
   ⟨(some 9), none, .mov (.tmp 32)⟩]
@[simp] def ratlinelaw21_CycleRows_r8 : List VOp :=
  [⟨(some 33), none, .mov (.tmp 0)⟩,
   ⟨(some 34), none, .call n_cycle_Valid [(.tmp 33)]⟩,
   ⟨(some 35), none, .mov (.tmp 0)⟩,
   ⟨(some 36), none, .call n_ratlineref21_Valid [(.tmp 35)]⟩,
   ⟨(some 37), none, .beq false (.tmp 34) (.tmp 36)⟩,
   ⟨(some 38), none, .mov (.tmp 37)⟩,
   ⟨(some 39), (some (38, true)), .mov (.tmp 0)⟩,
   ⟨(some 40), (some (38, true)), .mov (.tmp 1)⟩,
   ⟨(some 41), (some (38, true)), .call n_cycle_Respects [(.tmp 39), (.tmp 40)]⟩,
   ⟨(some 42), (some (38, true)), .mov (.tmp 0)⟩,
   ⟨(some 43), (some (38, true)), .mov (.tmp 1)⟩,
   ⟨(some 44), (some (38, true)), .call n_ratlineref21_Respects [(.tmp 42), (.tmp 43)]⟩,
   ⟨(some 45), (some (38, true)), .beq false (.tmp 41) (.tmp 44)⟩,
   ⟨(some 46), none, .pick (.tmp 38) (.tmp 45) (.const (.bool false))⟩,
   ⟨(some 47), none, .mov (.tmp 46)⟩,
   ⟨(some 48), (some (47, true)), .mov (.tmp 7)⟩,
   ⟨(some 49), (some (47, true)), .mov (.tmp 9)⟩,
   ⟨(some 50), (some (47, true)), .beq false (.tmp 48) (.tmp 49)⟩,
   ⟨(some 51), none, .pick (.tmp 47) (.tmp 50) (.const (.bool false))⟩,
   ⟨(some 52), none, .mov (.tmp 51)⟩,
   ⟨(some 53), (some (52, true)), .mov (.tmp 6)⟩,
   ⟨(some 54), (some (52, true)), .mov (.tmp 8)⟩,
   ⟨(some 55), (some (52, true)), .call n_ratlineref10_Ints [(.tmp 53), (.tmp 54)]⟩,
   ⟨(some 56), none, .pick (.tmp 52) (.tmp 55) (.const (.bool false))⟩,
   ⟨(some 4), none, .mov (.tmp 56)⟩]
def ratlinelaw21_CycleRows : VCode := (.seq (.reg ratlinelaw21_CycleRows_r0) (.seq (.reg ratlinelaw21_CycleRows_r1) (.seq (.seq (.reg ratlinelaw21_CycleRows_r2) (.cond (.tmp 12) (.seq (.reg ratlinelaw21_CycleRows_r3) .ret) .skip)) (.seq (.seq (.reg ratlinelaw21_CycleRows_r4) (.cond (.tmp 20) (.seq (.reg ratlinelaw21_CycleRows_r5) .ret) .skip)) (.seq (.reg ratlinelaw21_CycleRows_r6) (.seq (.reg ratlinelaw21_CycleRows_r7) (.seq (.reg ratlinelaw21_CycleRows_r8) .ret)))))))
theorem ratlinelaw21_CycleRows_is : fnV prog n_ratlinelaw21_CycleRows = some (57, ratlinelaw21_CycleRows, [.tmp 4]) := by kernel_rfl

/- ratlinelaw21_CycleGoes -/
@[simp] def ratlinelaw21_CycleGoes_r0 : List VOp :=
  [⟨(some 2), none, .mov (.const (.bool false))⟩]
@[simp] def ratlinelaw21_CycleGoes_r1 : List VOp :=
  [⟨(some 8), none, .call n_ratlinelaw21_awake []⟩,
   ⟨(some 3), none, .mov (.tmp 8)⟩]
@[simp] def ratlinelaw21_CycleGoes_r2 : List VOp :=
  [⟨(some 9), none, .mov (.tmp 3)⟩,
   ⟨(some 10), none, .un .not (.tmp 9)⟩]
@[simp] def ratlinelaw21_CycleGoes_r3 : List VOp :=
  [⟨(some 2), none, .mov (.const (.bool false))⟩]
@[simp] def ratlinelaw21_CycleGoes_r4 : List VOp :=
  [⟨(some 11), none, .mov (.tmp 0)⟩,
   ⟨(some 12), none, .len (.tmp 11)⟩,
   ⟨(some 13), none, .bin .gtr (.tmp 12) (.const (.int .i64 100))⟩]
@[simp] def ratlinelaw21_CycleGoes_r5 : List VOp :=
  [⟨(some 2), none, .mov (.const (.bool true))⟩]
@[simp] def ratlinelaw21_CycleGoes_r6 : List VOp :=
  [⟨(some 14), none, .mov (.tmp 0)⟩,
   ⟨(some 15), none, .call n_ratlinelaw21_reads []⟩,
   ⟨(some 16), none, .call n_ratlinelaw21_all []⟩,
   ⟨(some 17), none, .call n_cycle_Find [(.tmp 14), (.tmp 15), (.tmp 16)]⟩,
   ⟨(some 4), none, .mov (.tmp 17)⟩]
@[simp] def ratlinelaw21_CycleGoes_r7 : List VOp :=
  [⟨(some 18), none, .mov (.tmp 0)⟩,
   ⟨(some 19), none, .call n_ratlinelaw21_all []⟩,
   ⟨(some 20), none, .call n_ratlinelaw21_writes []⟩,
   ⟨(some 21), none, .call n_cycle_Find [(.tmp 18), (.tmp 19), (.tmp 20)]⟩,
   ⟨(some 5), none, .mov (.tmp 21)⟩]
@[simp] def ratlinelaw21_CycleGoes_r8 : List VOp :=
  [⟨(some 22), none, .mov (.tmp 4)⟩,
   ⟨(some 23), none, .len (.tmp 22)⟩,
   ⟨(some 24), none, .bin .gtr (.tmp 23) (.const (.int .i64 0))⟩,
   ⟨(some 25), none, .mov (.tmp 24)⟩,
   ⟨(some 26), (some (25, true)), .mov (.tmp 4)⟩,
   ⟨(some 27), (some (25, true)), .call n_cycle_Valid [(.tmp 26)]⟩,
   ⟨(some 28), (some (25, true)), .un .not (.tmp 27)⟩,
   ⟨(some 29), (some (25, true)), .mov (.tmp 28)⟩,
   ⟨(some 30), (some (29, false)), .mov (.tmp 4)⟩,
   ⟨(some 31), (some (29, false)), .ia 8 (.tmp 30) (.const (.int .i64 0))⟩,
   ⟨(some 32), (some (29, false)), .fa 2 (.tmp 31)⟩,
   ⟨(some 33), (some (29, false)), .ld (.tmp 32) none⟩,
   ⟨(some 34), (some (29, false)), .bin .neq (.tmp 33) (.const (.int .i64 4))⟩,
   ⟨(some 35), (some (25, true)), .pick (.tmp 29) (.const (.bool true)) (.tmp 34)⟩,
   ⟨(some 36), none, .pick (.tmp 25) (.tmp 35) (.const (.bool false))⟩,
   ⟨(some 37), none, .mov (.tmp 36)⟩,
   ⟨(some 38), (some (37, false)), .mov (.tmp 5)⟩,
   ⟨(some 39), (some (37, false)), .len (.tmp 38)⟩,
   ⟨(some 40), (some (37, false)), .bin .gtr (.tmp 39) (.const (.int .i64 0))⟩,
   ⟨(some 41), (some (37, false)), .mov (.tmp 40)⟩,
   ⟨(some 42), (some (41, true)), .mov (.tmp 5)⟩,
   ⟨(some 43), (some (41, true)), .call n_cycle_Valid [(.tmp 42)]⟩,
   ⟨(some 44), (some (41, true)), .un .not (.tmp 43)⟩,
   ⟨(some 45), (some (37, false)), .pick (.tmp 41) (.tmp 44) (.const (.bool false))⟩,
   ⟨(some 46), none, .pick (.tmp 37) (.const (.bool true)) (.tmp 45)⟩]
@[simp] def ratlinelaw21_CycleGoes_r9 : List VOp :=
  [⟨(some 2), none, .mov (.const (.bool false))⟩]
@[simp] def ratlinelaw21_CycleGoes_r10 : List VOp :=
  [⟨(some 6), none, .mov (.const (.int .i64 0))⟩]
@[simp] def ratlinelaw21_CycleGoes_r11 : List VOp :=
  [⟨(some 47), none, .mov (.tmp 6)⟩,
   ⟨(some 48), none, .mov (.tmp 4)⟩,
   ⟨(some 49), none, .len (.tmp 48)⟩,
   ⟨(some 50), none, .bin .lss (.tmp 47) (.tmp 49)⟩]
@[simp] def ratlinelaw21_CycleGoes_r12 : List VOp :=
  [⟨(some 53), none, .mov (.tmp 0)⟩,
   ⟨(some 54), none, .mov (.tmp 4)⟩,
   ⟨(some 55), none, .mov (.tmp 6)⟩,
   ⟨(some 56), none, .ia 8 (.tmp 54) (.tmp 55)⟩,
   ⟨(some 57), none, .ld (.tmp 56) (some 8)⟩,
   ⟨(some 58), none, .call n_ratlinelaw21_in [(.tmp 53), (.tmp 57)]⟩,
   ⟨(some 59), none, .un .not (.tmp 58)⟩]
@[simp] def ratlinelaw21_CycleGoes_r13 : List VOp :=
  [⟨(some 2), none, .mov (.const (.bool false))⟩]
@[simp] def ratlinelaw21_CycleGoes_r14 : List VOp :=
  [⟨(some 51), none, .mov (.tmp 6)⟩,
   ⟨(some 52), none, .bin .add (.tmp 51) (.const (.int .i64 1))⟩,
   ⟨(some 6), none, .mov (.tmp 52)⟩]
def ratlinelaw21_CycleGoes_l15 : VCode :=
  (.seq (.seq (.reg ratlinelaw21_CycleGoes_r11) (.cond (.tmp 50) .skip (.exit 0))) (.seq (.block 1 (.seq (.reg ratlinelaw21_CycleGoes_r12) (.cond (.tmp 59) (.seq (.reg ratlinelaw21_CycleGoes_r13) .ret) .skip))) (.reg ratlinelaw21_CycleGoes_r14)))
@[simp] def ratlinelaw21_CycleGoes_r16 : List VOp :=
  [⟨(some 7), none, .mov (.const (.int .i64 0))⟩]
@[simp] def ratlinelaw21_CycleGoes_r17 : List VOp :=
  [⟨(some 60), none, .mov (.tmp 7)⟩,
   ⟨(some 61), none, .mov (.tmp 5)⟩,
   ⟨(some 62), none, .len (.tmp 61)⟩,
   ⟨(some 63), none, .bin .lss (.tmp 60) (.tmp 62)⟩]
@[simp] def ratlinelaw21_CycleGoes_r18 : List VOp :=
  [⟨(some 66), none, .mov (.tmp 0)⟩,
   ⟨(some 67), none, .mov (.tmp 5)⟩,
   ⟨(some 68), none, .mov (.tmp 7)⟩,
   ⟨(some 69), none, .ia 8 (.tmp 67) (.tmp 68)⟩,
   ⟨(some 70), none, .ld (.tmp 69) (some 8)⟩,
   ⟨(some 71), none, .call n_ratlinelaw21_in [(.tmp 66), (.tmp 70)]⟩,
   ⟨(some 72), none, .un .not (.tmp 71)⟩,
   ⟨(some 73), none, .mov (.tmp 72)⟩,
   ⟨(some 74), (some (73, false)), .mov (.tmp 7)⟩,
   ⟨(some 75), (some (73, false)), .bin .gtr (.tmp 74) (.const (.int .i64 0))⟩,
   ⟨(some 76), (some (73, false)), .mov (.tmp 75)⟩,
   ⟨(some 77), (some (76, true)), .mov (.tmp 5)⟩,
   ⟨(some 78), (some (76, true)), .mov (.tmp 7)⟩,
   ⟨(some 79), (some (76, true)), .ia 8 (.tmp 77) (.tmp 78)⟩,
   ⟨(some 80), (some (76, true)), .fa 2 (.tmp 79)⟩,
   ⟨(some 81), (some (76, true)), .ld (.tmp 80) none⟩,
   ⟨(some 82), (some (76, true)), .bin .neq (.tmp 81) (.const (.int .i64 1))⟩,
   ⟨(some 83), (some (73, false)), .pick (.tmp 76) (.tmp 82) (.const (.bool false))⟩,
   ⟨(some 84), none, .pick (.tmp 73) (.const (.bool true)) (.tmp 83)⟩]
@[simp] def ratlinelaw21_CycleGoes_r19 : List VOp :=
  [⟨(some 2), none, .mov (.const (.bool false))⟩]
@[simp] def ratlinelaw21_CycleGoes_r20 : List VOp :=
  [⟨(some 64), none, .mov (.tmp 7)⟩,
   ⟨(some 65), none, .bin .add (.tmp 64) (.const (.int .i64 1))⟩,
   ⟨(some 7), none, .mov (.tmp 65)⟩]
def ratlinelaw21_CycleGoes_l21 : VCode :=
  (.seq (.seq (.reg ratlinelaw21_CycleGoes_r17) (.cond (.tmp 63) .skip (.exit 2))) (.seq (.block 3 (.seq (.reg ratlinelaw21_CycleGoes_r18) (.cond (.tmp 84) (.seq (.reg ratlinelaw21_CycleGoes_r19) .ret) .skip))) (.reg ratlinelaw21_CycleGoes_r20)))
@[simp] def ratlinelaw21_CycleGoes_r22 : List VOp :=
  [⟨(some 2), none, .mov (.const (.bool true))⟩]
def ratlinelaw21_CycleGoes : VCode := (.seq (.reg ratlinelaw21_CycleGoes_r0) (.seq (.reg ratlinelaw21_CycleGoes_r1) (.seq (.seq (.reg ratlinelaw21_CycleGoes_r2) (.cond (.tmp 10) (.seq (.reg ratlinelaw21_CycleGoes_r3) .ret) .skip)) (.seq (.seq (.reg ratlinelaw21_CycleGoes_r4) (.cond (.tmp 13) (.seq (.reg ratlinelaw21_CycleGoes_r5) .ret) .skip)) (.seq (.reg ratlinelaw21_CycleGoes_r6) (.seq (.reg ratlinelaw21_CycleGoes_r7) (.seq (.seq (.reg ratlinelaw21_CycleGoes_r8) (.cond (.tmp 46) (.seq (.reg ratlinelaw21_CycleGoes_r9) .ret) .skip)) (.seq (.seq (.reg ratlinelaw21_CycleGoes_r10) (.block 0 (.loop ratlinelaw21_CycleGoes_l15))) (.seq (.seq (.reg ratlinelaw21_CycleGoes_r16) (.block 2 (.loop ratlinelaw21_CycleGoes_l21))) (.seq (.reg ratlinelaw21_CycleGoes_r22) .ret))))))))))
theorem ratlinelaw21_CycleGoes_is : fnV prog n_ratlinelaw21_CycleGoes = some (85, ratlinelaw21_CycleGoes, [.tmp 2]) := by kernel_rfl

/- ratlinelaw21_CycleSorts -/
@[simp] def ratlinelaw21_CycleSorts_r0 : List VOp :=
  [⟨(some 4), none, .mov (.const (.bool false))⟩]
@[simp] def ratlinelaw21_CycleSorts_r1 : List VOp :=
  [⟨(some 18), none, .call n_ratlinelaw21_awake []⟩,
   ⟨(some 5), none, .mov (.tmp 18)⟩]
@[simp] def ratlinelaw21_CycleSorts_r2 : List VOp :=
  [⟨(some 19), none, .mov (.tmp 5)⟩,
   ⟨(some 20), none, .un .not (.tmp 19)⟩]
@[simp] def ratlinelaw21_CycleSorts_r3 : List VOp :=
  [⟨(some 4), none, .mov (.const (.bool false))⟩]
@[simp] def ratlinelaw21_CycleSorts_r4 : List VOp :=
  [⟨(some 21), none, .mov (.tmp 0)⟩,
   ⟨(some 22), none, .len (.tmp 21)⟩,
   ⟨(some 23), none, .bin .gtr (.tmp 22) (.const (.int .i64 60))⟩,
   ⟨(some 24), none, .mov (.tmp 23)⟩,
   ⟨(some 25), (some (24, false)), .mov (.tmp 1)⟩,
   ⟨(some 26), (some (24, false)), .len (.tmp 25)⟩,
   ⟨(some 27), (some (24, false)), .bin .gtr (.tmp 26) (.const (.int .i64 40))⟩,
   ⟨(some 28), none, .pick (.tmp 24) (.const (.bool true)) (.tmp 27)⟩]
@[simp] def ratlinelaw21_CycleSorts_r5 : List VOp :=
  [⟨(some 4), none, .mov (.const (.bool true))⟩]
@[simp] def ratlinelaw21_CycleSorts_r6 : List VOp :=
  [⟨(some 6), none, .nils 8⟩]
@[simp] def ratlinelaw21_CycleSorts_r7 : List VOp :=
  [⟨(some 7), none, .mov (.const (.int .i64 0))⟩]
@[simp] def ratlinelaw21_CycleSorts_r8 : List VOp :=
  [⟨(some 29), none, .mov (.tmp 7)⟩,
   ⟨(some 30), none, .mov (.tmp 0)⟩,
   ⟨(some 31), none, .len (.tmp 30)⟩,
   ⟨(some 32), none, .bin .lss (.tmp 29) (.tmp 31)⟩]
@[simp] def ratlinelaw21_CycleSorts_r9 : List VOp :=
  [⟨(some 8), none, .mov (.const (.bool false))⟩]
@[simp] def ratlinelaw21_CycleSorts_r10 : List VOp :=
  [⟨(some 9), none, .mov (.const (.bool false))⟩]
@[simp] def ratlinelaw21_CycleSorts_r11 : List VOp :=
  [⟨(some 10), none, .mov (.const (.int .i64 0))⟩]
@[simp] def ratlinelaw21_CycleSorts_r12 : List VOp :=
  [⟨(some 35), none, .mov (.tmp 10)⟩,
   ⟨(some 36), none, .mov (.tmp 1)⟩,
   ⟨(some 37), none, .len (.tmp 36)⟩,
   ⟨(some 38), none, .bin .lss (.tmp 35) (.tmp 37)⟩]
@[simp] def ratlinelaw21_CycleSorts_t13 : VT :=
  .op ⟨(some 41), none, .mov (.tmp 8)⟩ <|
  .op ⟨(some 42), none, .mov (.tmp 41)⟩ <|
  .op ⟨(some 43), (some (42, false)), .mov (.tmp 1)⟩ <|
  .op ⟨(some 44), (some (42, false)), .mov (.tmp 10)⟩ <|
  .op ⟨(some 45), (some (42, false)), .ia 1 (.tmp 43) (.tmp 44)⟩ <|
  .op ⟨(some 46), (some (42, false)), .ld (.tmp 45) none⟩ <|
  .op ⟨(some 47), (some (42, false)), .mov (.tmp 0)⟩ <|
  .op ⟨(some 48), (some (42, false)), .mov (.tmp 7)⟩ <|
  .op ⟨(some 49), (some (42, false)), .ia 8 (.tmp 47) (.tmp 48)⟩ <|
  .op ⟨(some 50), (some (42, false)), .fa 0 (.tmp 49)⟩ <|
  .op ⟨(some 51), (some (42, false)), .ld (.tmp 50) none⟩ <|
  .op ⟨(some 52), (some (42, false)), .bin .eql (.tmp 46) (.tmp 51)⟩ <|
  .op ⟨(some 53), none, .pick (.tmp 42) (.const (.bool true)) (.tmp 52)⟩ <|
  .op ⟨(some 8), none, .mov (.tmp 53)⟩ <|
  .done
@[simp] def ratlinelaw21_CycleSorts_t14 : VT :=
  .op ⟨(some 54), none, .mov (.tmp 9)⟩ <|
  .op ⟨(some 55), none, .mov (.tmp 54)⟩ <|
  .op ⟨(some 56), (some (55, false)), .mov (.tmp 1)⟩ <|
  .op ⟨(some 57), (some (55, false)), .mov (.tmp 10)⟩ <|
  .op ⟨(some 58), (some (55, false)), .ia 1 (.tmp 56) (.tmp 57)⟩ <|
  .op ⟨(some 59), (some (55, false)), .ld (.tmp 58) none⟩ <|
  .op ⟨(some 60), (some (55, false)), .mov (.tmp 0)⟩ <|
  .op ⟨(some 61), (some (55, false)), .mov (.tmp 7)⟩ <|
  .op ⟨(some 62), (some (55, false)), .ia 8 (.tmp 60) (.tmp 61)⟩ <|
  .op ⟨(some 63), (some (55, false)), .fa 1 (.tmp 62)⟩ <|
  .op ⟨(some 64), (some (55, false)), .ld (.tmp 63) none⟩ <|
  .op ⟨(some 65), (some (55, false)), .bin .eql (.tmp 59) (.tmp 64)⟩ <|
  .op ⟨(some 66), none, .pick (.tmp 55) (.const (.bool true)) (.tmp 65)⟩ <|
  .op ⟨(some 9), none, .mov (.tmp 66)⟩ <|
  .done
@[simp] def ratlinelaw21_CycleSorts_r15 : List VOp :=
  [⟨(some 39), none, .mov (.tmp 10)⟩,
   ⟨(some 40), none, .bin .add (.tmp 39) (.const (.int .i64 1))⟩,
   ⟨(some 10), none, .mov (.tmp 40)⟩]
def ratlinelaw21_CycleSorts_l16 : VCode :=
  (.seq (.seq (.reg ratlinelaw21_CycleSorts_r12) (.cond (.tmp 38) .skip (.exit 2))) (.seq (.block 3 (.seq (.any ratlinelaw21_CycleSorts_t13) (.any ratlinelaw21_CycleSorts_t14))) (.reg ratlinelaw21_CycleSorts_r15)))
@[simp] def ratlinelaw21_CycleSorts_r17 : List VOp :=
  [⟨(some 67), none, .mov (.tmp 8)⟩,
   ⟨(some 68), none, .mov (.tmp 67)⟩,
   ⟨(some 69), (some (68, true)), .mov (.tmp 9)⟩,
   ⟨(some 70), none, .pick (.tmp 68) (.tmp 69) (.const (.bool false))⟩]
@[simp] def ratlinelaw21_CycleSorts_r18 : List VOp :=
  [⟨(some 71), none, .mov (.tmp 6)⟩,
   ⟨(some 72), none, .mov (.tmp 0)⟩,
   ⟨(some 73), none, .mov (.tmp 7)⟩,
   ⟨(some 74), none, .ia 8 (.tmp 72) (.tmp 73)⟩,
   ⟨(some 75), none, .ld (.tmp 74) (some 8)⟩,
   ⟨(some 76), none, .lit 8 1 [(0, (.tmp 75))]⟩,
   ⟨(some 77), none, .app 8 72 (.tmp 71) (.tmp 76)⟩,
   ⟨(some 6), none, .mov (.tmp 77)⟩]
@[simp] def ratlinelaw21_CycleSorts_r19 : List VOp :=
  [⟨(some 33), none, .mov (.tmp 7)⟩,
   ⟨(some 34), none, .bin .add (.tmp 33) (.const (.int .i64 1))⟩,
   ⟨(some 7), none, .mov (.tmp 34)⟩]
def ratlinelaw21_CycleSorts_l20 : VCode :=
  (.seq (.seq (.reg ratlinelaw21_CycleSorts_r8) (.cond (.tmp 32) .skip (.exit 0))) (.seq (.block 1 (.seq (.reg ratlinelaw21_CycleSorts_r9) (.seq (.reg ratlinelaw21_CycleSorts_r10) (.seq (.seq (.reg ratlinelaw21_CycleSorts_r11) (.block 2 (.loop ratlinelaw21_CycleSorts_l16))) (.seq (.reg ratlinelaw21_CycleSorts_r17) (.cond (.tmp 70) (.reg ratlinelaw21_CycleSorts_r18) .skip)))))) (.reg ratlinelaw21_CycleSorts_r19)))
@[simp] def ratlinelaw21_CycleSorts_r21 : List VOp :=
  [⟨(some 11), none, .mov (.const (.int .i64 0))⟩]
@[simp] def ratlinelaw21_CycleSorts_r22 : List VOp :=
  [⟨(some 78), none, .mov (.tmp 11)⟩,
   ⟨(some 79), none, .mov (.tmp 6)⟩,
   ⟨(some 80), none, .len (.tmp 79)⟩,
   ⟨(some 81), none, .bin .lss (.tmp 78) (.tmp 80)⟩]
@[simp] def ratlinelaw21_CycleSorts_r23 : List VOp :=
  [⟨(some 84), none, .mov (.tmp 6)⟩,
   ⟨(some 85), none, .mov (.tmp 11)⟩,
   ⟨(some 86), none, .ia 8 (.tmp 84) (.tmp 85)⟩,
   ⟨(some 87), none, .fa 2 (.tmp 86)⟩,
   ⟨none, none, .st (.tmp 87) (.const (.int .i64 1)) 1⟩]
@[simp] def ratlinelaw21_CycleSorts_r24 : List VOp :=
  [⟨(some 82), none, .mov (.tmp 11)⟩,
   ⟨(some 83), none, .bin .add (.tmp 82) (.const (.int .i64 1))⟩,
   ⟨(some 11), none, .mov (.tmp 83)⟩]
def ratlinelaw21_CycleSorts_l25 : VCode :=
  (.seq (.seq (.reg ratlinelaw21_CycleSorts_r22) (.cond (.tmp 81) .skip (.exit 4))) (.seq (.block 5 (.reg ratlinelaw21_CycleSorts_r23)) (.reg ratlinelaw21_CycleSorts_r24)))
@[simp] def ratlinelaw21_CycleSorts_r26 : List VOp :=
  [⟨(some 89), none, .mov (.tmp 0)⟩,
   ⟨(some 90), none, .mov (.tmp 1)⟩,
   ⟨(some 91), none, .call n_cycle_Sorted [(.tmp 89), (.tmp 90)]⟩,
   ⟨(some 88), none, .mov (.tmp 91)⟩,
   ⟨(some 92), none, .ext 0 (.tmp 88)⟩,
   ⟨(some 93), none, .ext 1 (.tmp 88)⟩,
   ⟨(some 12), none, .mov (.tmp 92)⟩,
   ⟨(some 13), none, .mov (.tmp 93)⟩]
@[simp] def ratlinelaw21_CycleSorts_r27 : List VOp :=
  [⟨(some 94), none, .mov (.tmp 6)⟩,
   ⟨(some 95), none, .call n_ratlinelaw21_all []⟩,
   ⟨(some 96), none, .call n_ratlinelaw21_all []⟩,
   ⟨(some 97), none, .call n_cycle_Find [(.tmp 94), (.tmp 95), (.tmp 96)]⟩,
   ⟨(some 14), none, .mov (.tmp 97)⟩]
@[simp] def ratlinelaw21_CycleSorts_r28 : List VOp :=
  [⟨(some 98), none, .mov (.tmp 13)⟩,
   ⟨(some 99), none, .mov (.tmp 14)⟩,
   ⟨(some 100), none, .len (.tmp 99)⟩,
   ⟨(some 101), none, .bin .eql (.tmp 100) (.const (.int .i64 0))⟩,
   ⟨(some 102), none, .beq true (.tmp 98) (.tmp 101)⟩,
   ⟨(some 103), none, .mov (.tmp 102)⟩,
   ⟨(some 104), (some (103, false)), .mov (.tmp 13)⟩,
   ⟨(some 105), (some (103, false)), .un .not (.tmp 104)⟩,
   ⟨(some 106), (some (103, false)), .mov (.tmp 105)⟩,
   ⟨(some 107), (some (106, true)), .mov (.tmp 12)⟩,
   ⟨(some 108), (some (106, true)), .len (.tmp 107)⟩,
   ⟨(some 109), (some (106, true)), .bin .gtr (.tmp 108) (.const (.int .i64 0))⟩,
   ⟨(some 110), (some (103, false)), .pick (.tmp 106) (.tmp 109) (.const (.bool false))⟩,
   ⟨(some 111), none, .pick (.tmp 103) (.const (.bool true)) (.tmp 110)⟩]
@[simp] def ratlinelaw21_CycleSorts_r29 : List VOp :=
  [⟨(some 4), none, .mov (.const (.bool false))⟩]
@[simp] def ratlinelaw21_CycleSorts_r30 : List VOp :=
  [⟨(some 112), none, .mov (.tmp 13)⟩,
   ⟨(some 113), none, .un .not (.tmp 112)⟩]
@[simp] def ratlinelaw21_CycleSorts_r31 : List VOp :=
  [⟨(some 4), none, .mov (.const (.bool true))⟩]
@[simp] def ratlinelaw21_CycleSorts_r32 : List VOp :=
  [⟨(some 15), none, .mov (.const (.int .i64 0))⟩]
@[simp] def ratlinelaw21_CycleSorts_r33 : List VOp :=
  [⟨(some 114), none, .mov (.tmp 15)⟩,
   ⟨(some 115), none, .mov (.tmp 1)⟩,
   ⟨(some 116), none, .len (.tmp 115)⟩,
   ⟨(some 117), none, .bin .lss (.tmp 114) (.tmp 116)⟩]
@[simp] def ratlinelaw21_CycleSorts_r34 : List VOp :=
  [⟨(some 16), none, .mov (.const (.int .i64 0))⟩]
@[simp] def ratlinelaw21_CycleSorts_r35 : List VOp :=
  [⟨(some 17), none, .mov (.const (.int .i64 0))⟩]
@[simp] def ratlinelaw21_CycleSorts_r36 : List VOp :=
  [⟨(some 120), none, .mov (.tmp 17)⟩,
   ⟨(some 121), none, .mov (.tmp 12)⟩,
   ⟨(some 122), none, .len (.tmp 121)⟩,
   ⟨(some 123), none, .bin .lss (.tmp 120) (.tmp 122)⟩]
@[simp] def ratlinelaw21_CycleSorts_t37 : VT :=
  .op ⟨(some 126), none, .mov (.tmp 12)⟩ <|
  .op ⟨(some 127), none, .mov (.tmp 17)⟩ <|
  .op ⟨(some 128), none, .ia 1 (.tmp 126) (.tmp 127)⟩ <|
  .op ⟨(some 129), none, .ld (.tmp 128) none⟩ <|
  .op ⟨(some 130), none, .mov (.tmp 1)⟩ <|
  .op ⟨(some 131), none, .mov (.tmp 15)⟩ <|
  .op ⟨(some 132), none, .ia 1 (.tmp 130) (.tmp 131)⟩ <|
  .op ⟨(some 133), none, .ld (.tmp 132) none⟩ <|
  .op ⟨(some 134), none, .bin .eql (.tmp 129) (.tmp 133)⟩ <|
  .done
@[simp] def ratlinelaw21_CycleSorts_r38 : List VOp :=
  [⟨(some 135), none, .mov (.tmp 16)⟩,
   ⟨(some 136), none, .bin .add (.tmp 135) (.const (.int .i64 1))⟩,
   ⟨(some 16), none, .mov (.tmp 136)⟩]
@[simp] def ratlinelaw21_CycleSorts_r39 : List VOp :=
  [⟨(some 124), none, .mov (.tmp 17)⟩,
   ⟨(some 125), none, .bin .add (.tmp 124) (.const (.int .i64 1))⟩,
   ⟨(some 17), none, .mov (.tmp 125)⟩]
def ratlinelaw21_CycleSorts_l40 : VCode :=
  (.seq (.seq (.reg ratlinelaw21_CycleSorts_r36) (.cond (.tmp 123) .skip (.exit 8))) (.seq (.block 9 (.seq (.any ratlinelaw21_CycleSorts_t37) (.cond (.tmp 134) (.reg ratlinelaw21_CycleSorts_r38) .skip))) (.reg ratlinelaw21_CycleSorts_r39)))
@[simp] def ratlinelaw21_CycleSorts_r41 : List VOp :=
  [⟨(some 137), none, .mov (.tmp 16)⟩,
   ⟨(some 138), none, .bin .neq (.tmp 137) (.const (.int .i64 1))⟩]
@[simp] def ratlinelaw21_CycleSorts_r42 : List VOp :=
  [⟨(some 4), none, .mov (.const (.bool false))⟩]
@[simp] def ratlinelaw21_CycleSorts_r43 : List VOp :=
  [⟨(some 118), none, .mov (.tmp 15)⟩,
   ⟨(some 119), none, .bin .add (.tmp 118) (.const (.int .i64 1))⟩,
   ⟨(some 15), none, .mov (.tmp 119)⟩]
def ratlinelaw21_CycleSorts_l44 : VCode :=
  (.seq (.seq (.reg ratlinelaw21_CycleSorts_r33) (.cond (.tmp 117) .skip (.exit 6))) (.seq (.block 7 (.seq (.reg ratlinelaw21_CycleSorts_r34) (.seq (.seq (.reg ratlinelaw21_CycleSorts_r35) (.block 8 (.loop ratlinelaw21_CycleSorts_l40))) (.seq (.reg ratlinelaw21_CycleSorts_r41) (.cond (.tmp 138) (.seq (.reg ratlinelaw21_CycleSorts_r42) .ret) .skip))))) (.reg ratlinelaw21_CycleSorts_r43)))
@[simp] def ratlinelaw21_CycleSorts_r45 : List VOp :=
  [⟨(some 139), none, .mov (.tmp 0)⟩,
   ⟨(some 140), none, .mov (.tmp 12)⟩,
   ⟨(some 141), none, .call n_cycle_Respects [(.tmp 139), (.tmp 140)]⟩,
   ⟨(some 142), none, .mov (.tmp 141)⟩,
   ⟨(some 143), (some (142, true)), .mov (.tmp 12)⟩,
   ⟨(some 144), (some (142, true)), .len (.tmp 143)⟩,
   ⟨(some 145), (some (142, true)), .mov (.tmp 1)⟩,
   ⟨(some 146), (some (142, true)), .len (.tmp 145)⟩,
   ⟨(some 147), (some (142, true)), .bin .leq (.tmp 144) (.tmp 146)⟩,
   ⟨(some 148), none, .pick (.tmp 142) (.tmp 147) (.const (.bool false))⟩,
   ⟨(some 4), none, .mov (.tmp 148)⟩]
def ratlinelaw21_CycleSorts : VCode := (.seq (.reg ratlinelaw21_CycleSorts_r0) (.seq (.reg ratlinelaw21_CycleSorts_r1) (.seq (.seq (.reg ratlinelaw21_CycleSorts_r2) (.cond (.tmp 20) (.seq (.reg ratlinelaw21_CycleSorts_r3) .ret) .skip)) (.seq (.seq (.reg ratlinelaw21_CycleSorts_r4) (.cond (.tmp 28) (.seq (.reg ratlinelaw21_CycleSorts_r5) .ret) .skip)) (.seq (.reg ratlinelaw21_CycleSorts_r6) (.seq (.seq (.reg ratlinelaw21_CycleSorts_r7) (.block 0 (.loop ratlinelaw21_CycleSorts_l20))) (.seq (.seq (.reg ratlinelaw21_CycleSorts_r21) (.block 4 (.loop ratlinelaw21_CycleSorts_l25))) (.seq (.reg ratlinelaw21_CycleSorts_r26) (.seq (.reg ratlinelaw21_CycleSorts_r27) (.seq (.seq (.reg ratlinelaw21_CycleSorts_r28) (.cond (.tmp 111) (.seq (.reg ratlinelaw21_CycleSorts_r29) .ret) .skip)) (.seq (.seq (.reg ratlinelaw21_CycleSorts_r30) (.cond (.tmp 113) (.seq (.reg ratlinelaw21_CycleSorts_r31) .ret) .skip)) (.seq (.seq (.reg ratlinelaw21_CycleSorts_r32) (.block 6 (.loop ratlinelaw21_CycleSorts_l44))) (.seq (.reg ratlinelaw21_CycleSorts_r45) .ret)))))))))))))
theorem ratlinelaw21_CycleSorts_is : fnV prog n_ratlinelaw21_CycleSorts = some (149, ratlinelaw21_CycleSorts, [.tmp 4]) := by kernel_rfl

/- ratlinelaw21_CycleTurns -/
@[simp] def ratlinelaw21_CycleTurns_r0 : List VOp :=
  [⟨(some 4), none, .mov (.const (.bool false))⟩]
@[simp] def ratlinelaw21_CycleTurns_r1 : List VOp :=
  [⟨(some 17), none, .call n_ratlinelaw21_awake []⟩,
   ⟨(some 5), none, .mov (.tmp 17)⟩]
@[simp] def ratlinelaw21_CycleTurns_r2 : List VOp :=
  [⟨(some 18), none, .mov (.tmp 5)⟩,
   ⟨(some 19), none, .un .not (.tmp 18)⟩]
@[simp] def ratlinelaw21_CycleTurns_r3 : List VOp :=
  [⟨(some 4), none, .mov (.const (.bool false))⟩]
@[simp] def ratlinelaw21_CycleTurns_r4 : List VOp :=
  [⟨(some 20), none, .mov (.tmp 0)⟩,
   ⟨(some 21), none, .len (.tmp 20)⟩,
   ⟨(some 22), none, .bin .gtr (.tmp 21) (.const (.int .i64 40))⟩,
   ⟨(some 23), none, .mov (.tmp 22)⟩,
   ⟨(some 24), (some (23, false)), .mov (.tmp 1)⟩,
   ⟨(some 25), (some (23, false)), .len (.tmp 24)⟩,
   ⟨(some 26), (some (23, false)), .bin .gtr (.tmp 25) (.const (.int .i64 20))⟩,
   ⟨(some 27), none, .pick (.tmp 23) (.const (.bool true)) (.tmp 26)⟩]
@[simp] def ratlinelaw21_CycleTurns_r5 : List VOp :=
  [⟨(some 4), none, .mov (.const (.bool true))⟩]
@[simp] def ratlinelaw21_CycleTurns_r6 : List VOp :=
  [⟨(some 6), none, .nils 8⟩]
@[simp] def ratlinelaw21_CycleTurns_r7 : List VOp :=
  [⟨(some 28), none, .mov (.tmp 0)⟩,
   ⟨(some 29), none, .len (.tmp 28)⟩,
   ⟨(some 30), none, .bin .sub (.tmp 29) (.const (.int .i64 1))⟩,
   ⟨(some 7), none, .mov (.tmp 30)⟩]
@[simp] def ratlinelaw21_CycleTurns_r8 : List VOp :=
  [⟨(some 31), none, .mov (.tmp 7)⟩,
   ⟨(some 32), none, .bin .geq (.tmp 31) (.const (.int .i64 0))⟩]
@[simp] def ratlinelaw21_CycleTurns_r9 : List VOp :=
  [⟨(some 35), none, .mov (.tmp 0)⟩,
   ⟨(some 36), none, .mov (.tmp 7)⟩,
   ⟨(some 37), none, .ia 8 (.tmp 35) (.tmp 36)⟩,
   ⟨(some 38), none, .ld (.tmp 37) (some 8)⟩,
   ⟨(some 8), none, .alloc [.iv (.v (.int .i64 0)), .iv (.v (.int .i64 0)), .iv (.v (.int .i64 0)), .iv (.v (.int .i64 0)), .iv (.v (.bool false)), .iv (.v (.int .i64 0)), .iv (.v (.string ⟨#[]⟩)), .iv (.v (.bool false))]⟩,
   ⟨none, none, .st (.tmp 8) (.tmp 38) 8⟩]
@[simp] def ratlinelaw21_CycleTurns_r10 : List VOp :=
  [⟨(some 39), none, .fa 0 (.tmp 8)⟩,
   ⟨(some 40), none, .ld (.tmp 39) none⟩,
   ⟨(some 9), none, .mov (.tmp 40)⟩]
@[simp] def ratlinelaw21_CycleTurns_r11 : List VOp :=
  [⟨(some 41), none, .fa 1 (.tmp 8)⟩,
   ⟨(some 42), none, .ld (.tmp 41) none⟩,
   ⟨(some 43), none, .fa 0 (.tmp 8)⟩,
   ⟨none, none, .st (.tmp 43) (.tmp 42) 1⟩]
@[simp] def ratlinelaw21_CycleTurns_r12 : List VOp :=
  [⟨(some 44), none, .mov (.tmp 9)⟩,
   ⟨(some 45), none, .fa 1 (.tmp 8)⟩,
   ⟨none, none, .st (.tmp 45) (.tmp 44) 1⟩]
@[simp] def ratlinelaw21_CycleTurns_r13 : List VOp :=
  [⟨(some 46), none, .fa 2 (.tmp 8)⟩,
   ⟨(some 47), none, .ld (.tmp 46) none⟩,
   ⟨(some 48), none, .bin .lss (.tmp 47) (.const (.int .i64 1))⟩,
   ⟨(some 49), none, .mov (.tmp 48)⟩,
   ⟨(some 50), (some (49, false)), .fa 2 (.tmp 8)⟩,
   ⟨(some 51), (some (49, false)), .ld (.tmp 50) none⟩,
   ⟨(some 52), (some (49, false)), .bin .gtr (.tmp 51) (.const (.int .i64 5))⟩,
   ⟨(some 53), none, .pick (.tmp 49) (.const (.bool true)) (.tmp 52)⟩]
@[simp] def ratlinelaw21_CycleTurns_r14 : List VOp :=
  [⟨(some 4), none, .mov (.const (.bool true))⟩]
@[simp] def ratlinelaw21_CycleTurns_r15 : List VOp :=
  [⟨(some 54), none, .mov (.tmp 6)⟩,
   ⟨(some 55), none, .ld (.tmp 8) (some 8)⟩,
   ⟨(some 56), none, .lit 8 1 [(0, (.tmp 55))]⟩,
   ⟨(some 57), none, .app 8 72 (.tmp 54) (.tmp 56)⟩,
   ⟨(some 6), none, .mov (.tmp 57)⟩]
@[simp] def ratlinelaw21_CycleTurns_r16 : List VOp :=
  [⟨(some 33), none, .mov (.tmp 7)⟩,
   ⟨(some 34), none, .bin .sub (.tmp 33) (.const (.int .i64 1))⟩,
   ⟨(some 7), none, .mov (.tmp 34)⟩]
def ratlinelaw21_CycleTurns_l17 : VCode :=
  (.seq (.seq (.reg ratlinelaw21_CycleTurns_r8) (.cond (.tmp 32) .skip (.exit 0))) (.seq (.block 1 (.seq (.reg ratlinelaw21_CycleTurns_r9) (.seq (.reg ratlinelaw21_CycleTurns_r10) (.seq (.reg ratlinelaw21_CycleTurns_r11) (.seq (.reg ratlinelaw21_CycleTurns_r12) (.seq (.seq (.reg ratlinelaw21_CycleTurns_r13) (.cond (.tmp 53) (.seq (.reg ratlinelaw21_CycleTurns_r14) .ret) .skip)) (.reg ratlinelaw21_CycleTurns_r15))))))) (.reg ratlinelaw21_CycleTurns_r16)))
@[simp] def ratlinelaw21_CycleTurns_r18 : List VOp :=
  [⟨(some 58), none, .mov (.tmp 0)⟩,
   ⟨(some 59), none, .call n_ratlinelaw21_all []⟩,
   ⟨(some 60), none, .call n_ratlinelaw21_all []⟩,
   ⟨(some 61), none, .call n_cycle_Find [(.tmp 58), (.tmp 59), (.tmp 60)]⟩,
   ⟨(some 10), none, .mov (.tmp 61)⟩]
@[simp] def ratlinelaw21_CycleTurns_r19 : List VOp :=
  [⟨(some 62), none, .mov (.tmp 6)⟩,
   ⟨(some 63), none, .call n_ratlinelaw21_all []⟩,
   ⟨(some 64), none, .call n_ratlinelaw21_all []⟩,
   ⟨(some 65), none, .call n_cycle_Find [(.tmp 62), (.tmp 63), (.tmp 64)]⟩,
   ⟨(some 11), none, .mov (.tmp 65)⟩]
@[simp] def ratlinelaw21_CycleTurns_r20 : List VOp :=
  [⟨(some 66), none, .mov (.tmp 10)⟩,
   ⟨(some 67), none, .len (.tmp 66)⟩,
   ⟨(some 68), none, .bin .gtr (.tmp 67) (.const (.int .i64 0))⟩,
   ⟨(some 69), none, .mov (.tmp 11)⟩,
   ⟨(some 70), none, .len (.tmp 69)⟩,
   ⟨(some 71), none, .bin .gtr (.tmp 70) (.const (.int .i64 0))⟩,
   ⟨(some 72), none, .beq true (.tmp 68) (.tmp 71)⟩]
@[simp] def ratlinelaw21_CycleTurns_r21 : List VOp :=
  [⟨(some 4), none, .mov (.const (.bool false))⟩]
@[simp] def ratlinelaw21_CycleTurns_r22 : List VOp :=
  [⟨(some 12), none, .nils 8⟩]
@[simp] def ratlinelaw21_CycleTurns_r23 : List VOp :=
  [⟨(some 13), none, .mov (.const (.int .i64 1))⟩]
@[simp] def ratlinelaw21_CycleTurns_r24 : List VOp :=
  [⟨(some 73), none, .mov (.tmp 13)⟩,
   ⟨(some 74), none, .mov (.tmp 1)⟩,
   ⟨(some 75), none, .len (.tmp 74)⟩,
   ⟨(some 76), none, .bin .lss (.tmp 73) (.tmp 75)⟩]
@[simp] def ratlinelaw21_CycleTurns_r25 : List VOp :=
  [⟨(some 14), none, .mov (.const (.int .i64 0))⟩]
@[simp] def ratlinelaw21_CycleTurns_r26 : List VOp :=
  [⟨(some 79), none, .mov (.tmp 14)⟩,
   ⟨(some 80), none, .mov (.tmp 13)⟩,
   ⟨(some 81), none, .bin .lss (.tmp 79) (.tmp 80)⟩]
@[simp] def ratlinelaw21_CycleTurns_t27 : VT :=
  .op ⟨(some 84), none, .mov (.tmp 1)⟩ <|
  .op ⟨(some 85), none, .mov (.tmp 14)⟩ <|
  .op ⟨(some 86), none, .ia 1 (.tmp 84) (.tmp 85)⟩ <|
  .op ⟨(some 87), none, .ld (.tmp 86) none⟩ <|
  .op ⟨(some 88), none, .mov (.tmp 1)⟩ <|
  .op ⟨(some 89), none, .mov (.tmp 13)⟩ <|
  .op ⟨(some 90), none, .ia 1 (.tmp 88) (.tmp 89)⟩ <|
  .op ⟨(some 91), none, .ld (.tmp 90) none⟩ <|
  .op ⟨(some 92), none, .bin .eql (.tmp 87) (.tmp 91)⟩ <|
  .done
@[simp] def ratlinelaw21_CycleTurns_r28 : List VOp :=
  [⟨(some 4), none, .mov (.const (.bool true))⟩]
@[simp] def ratlinelaw21_CycleTurns_r29 : List VOp :=
  [⟨(some 82), none, .mov (.tmp 14)⟩,
   ⟨(some 83), none, .bin .add (.tmp 82) (.const (.int .i64 1))⟩,
   ⟨(some 14), none, .mov (.tmp 83)⟩]
def ratlinelaw21_CycleTurns_l30 : VCode :=
  (.seq (.seq (.reg ratlinelaw21_CycleTurns_r26) (.cond (.tmp 81) .skip (.exit 4))) (.seq (.block 5 (.seq (.any ratlinelaw21_CycleTurns_t27) (.cond (.tmp 92) (.seq (.reg ratlinelaw21_CycleTurns_r28) .ret) .skip))) (.reg ratlinelaw21_CycleTurns_r29)))
@[simp] def ratlinelaw21_CycleTurns_t31 : VT :=
  .op ⟨(some 93), none, .mov (.tmp 12)⟩ <|
  .op ⟨(some 94), none, .mov (.tmp 1)⟩ <|
  .op ⟨(some 95), none, .mov (.tmp 13)⟩ <|
  .op ⟨(some 96), none, .bin .sub (.tmp 95) (.const (.int .i64 1))⟩ <|
  .op ⟨(some 97), none, .ia 1 (.tmp 94) (.tmp 96)⟩ <|
  .op ⟨(some 98), none, .ld (.tmp 97) none⟩ <|
  .op ⟨(some 99), none, .mov (.tmp 1)⟩ <|
  .op ⟨(some 100), none, .mov (.tmp 13)⟩ <|
  .op ⟨(some 101), none, .ia 1 (.tmp 99) (.tmp 100)⟩ <|
  .op ⟨(some 102), none, .ld (.tmp 101) none⟩ <|
  .op ⟨(some 103), none, .build [.iv (.v (.int .i64 0)), .iv (.v (.int .i64 0)), .iv (.v (.int .i64 0)), .iv (.v (.int .i64 0)), .iv (.v (.bool false)), .iv (.v (.int .i64 0)), .iv (.v (.string ⟨#[]⟩)), .iv (.v (.bool false))] [(0, 1, (.tmp 98)), (1, 1, (.tmp 102)), (2, 1, (.const (.int .i64 1)))]⟩ <|
  .op ⟨(some 104), none, .lit 8 1 [(0, (.tmp 103))]⟩ <|
  .op ⟨(some 105), none, .app 8 72 (.tmp 93) (.tmp 104)⟩ <|
  .op ⟨(some 12), none, .mov (.tmp 105)⟩ <|
  .done
@[simp] def ratlinelaw21_CycleTurns_r32 : List VOp :=
  [⟨(some 77), none, .mov (.tmp 13)⟩,
   ⟨(some 78), none, .bin .add (.tmp 77) (.const (.int .i64 1))⟩,
   ⟨(some 13), none, .mov (.tmp 78)⟩]
def ratlinelaw21_CycleTurns_l33 : VCode :=
  (.seq (.seq (.reg ratlinelaw21_CycleTurns_r24) (.cond (.tmp 76) .skip (.exit 2))) (.seq (.block 3 (.seq (.seq (.reg ratlinelaw21_CycleTurns_r25) (.block 4 (.loop ratlinelaw21_CycleTurns_l30))) (.any ratlinelaw21_CycleTurns_t31))) (.reg ratlinelaw21_CycleTurns_r32)))
@[simp] def ratlinelaw21_CycleTurns_r34 : List VOp :=
  [⟨(some 106), none, .mov (.tmp 1)⟩,
   ⟨(some 107), none, .len (.tmp 106)⟩,
   ⟨(some 108), none, .bin .lss (.tmp 107) (.const (.int .i64 2))⟩]
@[simp] def ratlinelaw21_CycleTurns_r35 : List VOp :=
  [⟨(some 4), none, .mov (.const (.bool true))⟩]
@[simp] def ratlinelaw21_CycleTurns_r36 : List VOp :=
  [⟨(some 109), none, .mov (.tmp 12)⟩,
   ⟨(some 110), none, .call n_ratlinelaw21_all []⟩,
   ⟨(some 111), none, .call n_ratlinelaw21_all []⟩,
   ⟨(some 112), none, .call n_cycle_Find [(.tmp 109), (.tmp 110), (.tmp 111)]⟩,
   ⟨(some 15), none, .mov (.tmp 112)⟩]
@[simp] def ratlinelaw21_CycleTurns_t37 : VT :=
  .op ⟨(some 113), none, .mov (.tmp 12)⟩ <|
  .op ⟨(some 114), none, .mov (.tmp 1)⟩ <|
  .op ⟨(some 115), none, .mov (.tmp 1)⟩ <|
  .op ⟨(some 116), none, .len (.tmp 115)⟩ <|
  .op ⟨(some 117), none, .bin .sub (.tmp 116) (.const (.int .i64 1))⟩ <|
  .op ⟨(some 118), none, .ia 1 (.tmp 114) (.tmp 117)⟩ <|
  .op ⟨(some 119), none, .ld (.tmp 118) none⟩ <|
  .op ⟨(some 120), none, .mov (.tmp 1)⟩ <|
  .op ⟨(some 121), none, .ia 1 (.tmp 120) (.const (.int .i64 0))⟩ <|
  .op ⟨(some 122), none, .ld (.tmp 121) none⟩ <|
  .op ⟨(some 123), none, .build [.iv (.v (.int .i64 0)), .iv (.v (.int .i64 0)), .iv (.v (.int .i64 0)), .iv (.v (.int .i64 0)), .iv (.v (.bool false)), .iv (.v (.int .i64 0)), .iv (.v (.string ⟨#[]⟩)), .iv (.v (.bool false))] [(0, 1, (.tmp 119)), (1, 1, (.tmp 122)), (2, 1, (.const (.int .i64 4)))]⟩ <|
  .op ⟨(some 124), none, .lit 8 1 [(0, (.tmp 123))]⟩ <|
  .op ⟨(some 125), none, .app 8 72 (.tmp 113) (.tmp 124)⟩ <|
  .op ⟨(some 12), none, .mov (.tmp 125)⟩ <|
  .done
@[simp] def ratlinelaw21_CycleTurns_r38 : List VOp :=
  [⟨(some 126), none, .mov (.tmp 12)⟩,
   ⟨(some 127), none, .call n_ratlinelaw21_reads []⟩,
   ⟨(some 128), none, .call n_ratlinelaw21_all []⟩,
   ⟨(some 129), none, .call n_cycle_Find [(.tmp 126), (.tmp 127), (.tmp 128)]⟩,
   ⟨(some 16), none, .mov (.tmp 129)⟩]
@[simp] def ratlinelaw21_CycleTurns_r39 : List VOp :=
  [⟨(some 130), none, .mov (.tmp 15)⟩,
   ⟨(some 131), none, .len (.tmp 130)⟩,
   ⟨(some 132), none, .bin .eql (.tmp 131) (.const (.int .i64 0))⟩,
   ⟨(some 133), none, .mov (.tmp 132)⟩,
   ⟨(some 134), (some (133, true)), .mov (.tmp 16)⟩,
   ⟨(some 135), (some (133, true)), .len (.tmp 134)⟩,
   ⟨(some 136), (some (133, true)), .mov (.tmp 1)⟩,
   ⟨(some 137), (some (133, true)), .len (.tmp 136)⟩,
   ⟨(some 138), (some (133, true)), .bin .eql (.tmp 135) (.tmp 137)⟩,
   ⟨(some 139), none, .pick (.tmp 133) (.tmp 138) (.const (.bool false))⟩,
   ⟨(some 140), none, .mov (.tmp 139)⟩,
   ⟨(some 141), (some (140, true)), .mov (.tmp 16)⟩,
   ⟨(some 142), (some (140, true)), .call n_cycle_Valid [(.tmp 141)]⟩,
   ⟨(some 143), none, .pick (.tmp 140) (.tmp 142) (.const (.bool false))⟩,
   ⟨(some 4), none, .mov (.tmp 143)⟩]
def ratlinelaw21_CycleTurns : VCode := (.seq (.reg ratlinelaw21_CycleTurns_r0) (.seq (.reg ratlinelaw21_CycleTurns_r1) (.seq (.seq (.reg ratlinelaw21_CycleTurns_r2) (.cond (.tmp 19) (.seq (.reg ratlinelaw21_CycleTurns_r3) .ret) .skip)) (.seq (.seq (.reg ratlinelaw21_CycleTurns_r4) (.cond (.tmp 27) (.seq (.reg ratlinelaw21_CycleTurns_r5) .ret) .skip)) (.seq (.reg ratlinelaw21_CycleTurns_r6) (.seq (.seq (.reg ratlinelaw21_CycleTurns_r7) (.block 0 (.loop ratlinelaw21_CycleTurns_l17))) (.seq (.reg ratlinelaw21_CycleTurns_r18) (.seq (.reg ratlinelaw21_CycleTurns_r19) (.seq (.seq (.reg ratlinelaw21_CycleTurns_r20) (.cond (.tmp 72) (.seq (.reg ratlinelaw21_CycleTurns_r21) .ret) .skip)) (.seq (.reg ratlinelaw21_CycleTurns_r22) (.seq (.seq (.reg ratlinelaw21_CycleTurns_r23) (.block 2 (.loop ratlinelaw21_CycleTurns_l33))) (.seq (.seq (.reg ratlinelaw21_CycleTurns_r34) (.cond (.tmp 108) (.seq (.reg ratlinelaw21_CycleTurns_r35) .ret) .skip)) (.seq (.reg ratlinelaw21_CycleTurns_r36) (.seq (.any ratlinelaw21_CycleTurns_t37) (.seq (.reg ratlinelaw21_CycleTurns_r38) (.seq (.reg ratlinelaw21_CycleTurns_r39) .ret))))))))))))))))
theorem ratlinelaw21_CycleTurns_is : fnV prog n_ratlinelaw21_CycleTurns = some (144, ratlinelaw21_CycleTurns, [.tmp 4]) := by kernel_rfl

/- ratlinelaw21_awake -/
@[simp] def ratlinelaw21_awake_r0 : List VOp :=
  [⟨(some 0), none, .mov (.const (.bool false))⟩]
@[simp] def ratlinelaw21_awake_r1 : List VOp :=
  [⟨(some 6), none, .build [.iv (.v (.int .i64 0)), .iv (.v (.int .i64 0)), .iv (.v (.int .i64 0)), .iv (.v (.int .i64 0)), .iv (.v (.bool false)), .iv (.v (.int .i64 0)), .iv (.v (.string ⟨#[]⟩)), .iv (.v (.bool false))] [(0, 1, (.const (.int .i64 1))), (1, 1, (.const (.int .i64 2))), (2, 1, (.const (.int .i64 1)))]⟩,
   ⟨(some 7), none, .build [.iv (.v (.int .i64 0)), .iv (.v (.int .i64 0)), .iv (.v (.int .i64 0)), .iv (.v (.int .i64 0)), .iv (.v (.bool false)), .iv (.v (.int .i64 0)), .iv (.v (.string ⟨#[]⟩)), .iv (.v (.bool false))] [(0, 1, (.const (.int .i64 2))), (1, 1, (.const (.int .i64 1))), (2, 1, (.const (.int .i64 4)))]⟩,
   ⟨(some 8), none, .build [.iv (.v (.int .i64 0)), .iv (.v (.int .i64 0)), .iv (.v (.int .i64 0)), .iv (.v (.int .i64 0)), .iv (.v (.bool false)), .iv (.v (.int .i64 0)), .iv (.v (.string ⟨#[]⟩)), .iv (.v (.bool false))] [(0, 1, (.const (.int .i64 2))), (1, 1, (.const (.int .i64 3))), (2, 1, (.const (.int .i64 1)))]⟩,
   ⟨(some 9), none, .lit 8 3 [(0, (.tmp 6)), (1, (.tmp 7)), (2, (.tmp 8))]⟩,
   ⟨(some 1), none, .mov (.tmp 9)⟩]
@[simp] def ratlinelaw21_awake_r2 : List VOp :=
  [⟨(some 10), none, .mov (.tmp 1)⟩,
   ⟨(some 11), none, .call n_ratlinelaw21_all []⟩,
   ⟨(some 12), none, .call n_ratlinelaw21_all []⟩,
   ⟨(some 13), none, .call n_cycle_Find [(.tmp 10), (.tmp 11), (.tmp 12)]⟩,
   ⟨(some 2), none, .mov (.tmp 13)⟩]
@[simp] def ratlinelaw21_awake_r3 : List VOp :=
  [⟨(some 14), none, .mov (.tmp 1)⟩,
   ⟨(some 15), none, .call n_ratlinelaw21_writes []⟩,
   ⟨(some 16), none, .call n_ratlinelaw21_writes []⟩,
   ⟨(some 17), none, .call n_cycle_Find [(.tmp 14), (.tmp 15), (.tmp 16)]⟩,
   ⟨(some 3), none, .mov (.tmp 17)⟩]
@[simp] def ratlinelaw21_awake_r4 : List VOp :=
  [⟨(some 19), none, .build [.iv (.v (.int .i64 0)), .iv (.v (.int .i64 0)), .iv (.v (.int .i64 0)), .iv (.v (.int .i64 0)), .iv (.v (.bool false)), .iv (.v (.int .i64 0)), .iv (.v (.string ⟨#[]⟩)), .iv (.v (.bool false))] [(0, 1, (.const (.int .i64 3))), (1, 1, (.const (.int .i64 1)))]⟩,
   ⟨(some 20), none, .lit 8 1 [(0, (.tmp 19))]⟩,
   ⟨(some 21), none, .lit 1 3 [(0, (.const (.int .i64 1))), (1, (.const (.int .i64 2))), (2, (.const (.int .i64 3)))]⟩,
   ⟨(some 22), none, .call n_cycle_Sorted [(.tmp 20), (.tmp 21)]⟩,
   ⟨(some 18), none, .mov (.tmp 22)⟩,
   ⟨(some 23), none, .ext 0 (.tmp 18)⟩,
   ⟨(some 24), none, .ext 1 (.tmp 18)⟩,
   ⟨(some 4), none, .mov (.tmp 23)⟩,
   ⟨(some 5), none, .mov (.tmp 24)⟩]
@[simp] def ratlinelaw21_awake_r5 : List VOp :=
  [⟨(some 25), none, .mov (.tmp 2)⟩,
   ⟨(some 26), none, .mov (.tmp 1)⟩,
   ⟨(some 27), none, .cut 8 (.tmp 26) none (some (.const (.int .i64 2)))⟩,
   ⟨(some 28), none, .call n_ratlineref20_Same [(.tmp 25), (.tmp 27)]⟩,
   ⟨(some 29), none, .mov (.tmp 28)⟩,
   ⟨(some 30), (some (29, true)), .mov (.tmp 3)⟩,
   ⟨(some 31), (some (29, true)), .len (.tmp 30)⟩,
   ⟨(some 32), (some (29, true)), .bin .eql (.tmp 31) (.const (.int .i64 0))⟩,
   ⟨(some 33), none, .pick (.tmp 29) (.tmp 32) (.const (.bool false))⟩,
   ⟨(some 34), none, .mov (.tmp 33)⟩,
   ⟨(some 35), (some (34, true)), .mov (.tmp 2)⟩,
   ⟨(some 36), (some (34, true)), .call n_cycle_Valid [(.tmp 35)]⟩,
   ⟨(some 37), none, .pick (.tmp 34) (.tmp 36) (.const (.bool false))⟩,
   ⟨(some 38), none, .mov (.tmp 37)⟩,
   ⟨(some 39), (some (38, true)), .mov (.tmp 5)⟩,
   ⟨(some 40), none, .pick (.tmp 38) (.tmp 39) (.const (.bool false))⟩,
   ⟨(some 41), none, .mov (.tmp 40)⟩,
   ⟨(some 42), (some (41, true)), .mov (.tmp 4)⟩,
   ⟨(some 43), (some (41, true)), .lit 1 3 [(0, (.const (.int .i64 2))), (1, (.const (.int .i64 3))), (2, (.const (.int .i64 1)))]⟩,
   ⟨(some 44), (some (41, true)), .call n_ratlineref10_Ints [(.tmp 42), (.tmp 43)]⟩,
   ⟨(some 45), none, .pick (.tmp 41) (.tmp 44) (.const (.bool false))⟩,
   ⟨(some 46), none, .mov (.tmp 45)⟩,
   ⟨(some 47), (some (46, true)), .mov (.tmp 1)⟩,
   ⟨(some 48), (some (46, true)), .cut 8 (.tmp 47) (some (.const (.int .i64 2))) none⟩,
   ⟨(some 49), (some (46, true)), .mov (.tmp 4)⟩,
   ⟨(some 50), (some (46, true)), .call n_cycle_Respects [(.tmp 48), (.tmp 49)]⟩,
   ⟨(some 51), none, .pick (.tmp 46) (.tmp 50) (.const (.bool false))⟩,
   ⟨(some 0), none, .mov (.tmp 51)⟩]
def ratlinelaw21_awake : VCode := (.seq (.reg ratlinelaw21_awake_r0) (.seq (.reg ratlinelaw21_awake_r1) (.seq (.reg ratlinelaw21_awake_r2) (.seq (.reg ratlinelaw21_awake_r3) (.seq (.reg ratlinelaw21_awake_r4) (.seq (.reg ratlinelaw21_awake_r5) .ret))))))
theorem ratlinelaw21_awake_is : fnV prog n_ratlinelaw21_awake = some (52, ratlinelaw21_awake, [.tmp 0]) := by kernel_rfl

/- ratlineref20_Same -/
@[simp] def ratlineref20_Same_r0 : List VOp :=
  [⟨(some 4), none, .mov (.const (.bool false))⟩]
@[simp] def ratlineref20_Same_r1 : List VOp :=
  [⟨(some 6), none, .mov (.tmp 0)⟩,
   ⟨(some 7), none, .len (.tmp 6)⟩,
   ⟨(some 8), none, .mov (.tmp 1)⟩,
   ⟨(some 9), none, .len (.tmp 8)⟩,
   ⟨(some 10), none, .bin .neq (.tmp 7) (.tmp 9)⟩]
@[simp] def ratlineref20_Same_r2 : List VOp :=
  [⟨(some 4), none, .mov (.const (.bool false))⟩]
@[simp] def ratlineref20_Same_r3 : List VOp :=
  [⟨(some 5), none, .mov (.const (.int .i64 0))⟩]
@[simp] def ratlineref20_Same_r4 : List VOp :=
  [⟨(some 11), none, .mov (.tmp 5)⟩,
   ⟨(some 12), none, .mov (.tmp 0)⟩,
   ⟨(some 13), none, .len (.tmp 12)⟩,
   ⟨(some 14), none, .bin .lss (.tmp 11) (.tmp 13)⟩]
@[simp] def ratlineref20_Same_t5 : VT :=
  .op ⟨(some 17), none, .mov (.tmp 0)⟩ <|
  .op ⟨(some 18), none, .mov (.tmp 5)⟩ <|
  .op ⟨(some 19), none, .ia 8 (.tmp 17) (.tmp 18)⟩ <|
  .op ⟨(some 20), none, .ld (.tmp 19) (some 8)⟩ <|
  .op ⟨(some 21), none, .mov (.tmp 1)⟩ <|
  .op ⟨(some 22), none, .mov (.tmp 5)⟩ <|
  .op ⟨(some 23), none, .ia 8 (.tmp 21) (.tmp 22)⟩ <|
  .op ⟨(some 24), none, .ld (.tmp 23) (some 8)⟩ <|
  .op ⟨(some 25), none, .eqs true [.i .i64, .i .i64, .i .i64, .i .i64, .b, .i .i64, .s, .b] (.tmp 20) (.tmp 24)⟩ <|
  .done
@[simp] def ratlineref20_Same_r6 : List VOp :=
  [⟨(some 4), none, .mov (.const (.bool false))⟩]
@[simp] def ratlineref20_Same_r7 : List VOp :=
  [⟨(some 15), none, .mov (.tmp 5)⟩,
   ⟨(some 16), none, .bin .add (.tmp 15) (.const (.int .i64 1))⟩,
   ⟨(some 5), none, .mov (.tmp 16)⟩]
def ratlineref20_Same_l8 : VCode :=
  (.seq (.seq (.reg ratlineref20_Same_r4) (.cond (.tmp 14) .skip (.exit 0))) (.seq (.block 1 (.seq (.any ratlineref20_Same_t5) (.cond (.tmp 25) (.seq (.reg ratlineref20_Same_r6) .ret) .skip))) (.reg ratlineref20_Same_r7)))
@[simp] def ratlineref20_Same_r9 : List VOp :=
  [⟨(some 4), none, .mov (.const (.bool true))⟩]
def ratlineref20_Same : VCode := (.seq (.reg ratlineref20_Same_r0) (.seq (.seq (.reg ratlineref20_Same_r1) (.cond (.tmp 10) (.seq (.reg ratlineref20_Same_r2) .ret) .skip)) (.seq (.seq (.reg ratlineref20_Same_r3) (.block 0 (.loop ratlineref20_Same_l8))) (.seq (.reg ratlineref20_Same_r9) .ret))))
theorem ratlineref20_Same_is : fnV prog n_ratlineref20_Same = some (26, ratlineref20_Same, [.tmp 4]) := by kernel_rfl

/- cycle_Find -/
@[simp] def cycle_Find_r0 : List VOp :=
  [⟨(some 6), none, .nils 8⟩]
@[simp] def cycle_Find_r1 : List VOp :=
  [⟨(some 12), none, .mov (.tmp 1)⟩,
   ⟨(some 13), none, .call n_cycle_of [(.tmp 12)]⟩,
   ⟨(some 7), none, .mov (.tmp 13)⟩]
@[simp] def cycle_Find_r2 : List VOp :=
  [⟨(some 14), none, .mov (.tmp 0)⟩,
   ⟨(some 15), none, .len (.tmp 14)⟩,
   ⟨(some 16), none, .mov (.const (.int .i64 0))⟩]
@[simp] def cycle_Find_r3 : List VOp :=
  [⟨(some 17), none, .bin .lss (.tmp 16) (.tmp 15)⟩]
@[simp] def cycle_Find_r4 : List VOp :=
  [⟨(some 18), none, .ia 8 (.tmp 14) (.tmp 16)⟩,
   ⟨(some 19), none, .ld (.tmp 18) (some 8)⟩,
   ⟨(some 9), none, .alloc [.iv (.v (.int .i64 0)), .iv (.v (.int .i64 0)), .iv (.v (.int .i64 0)), .iv (.v (.int .i64 0)), .iv (.v (.bool false)), .iv (.v (.int .i64 0)), .iv (.v (.string ⟨#[]⟩)), .iv (.v (.bool false))]⟩,
   ⟨none, none, .st (.tmp 9) (.tmp 19) 8⟩]
@[simp] def cycle_Find_r5 : List VOp :=
  [⟨(some 20), none, .mov (.tmp 7)⟩,
   ⟨(some 21), none, .ld (.tmp 9) (some 8)⟩,
   ⟨(some 22), none, .callv (.tmp 20) [(.tmp 21)]⟩,
   ⟨(some 23), none, .un .not (.tmp 22)⟩]
@[simp] def cycle_Find_t6 : VT :=
  .op ⟨(some 25), none, .mov (.tmp 0)⟩ <|
  .op ⟨(some 26), none, .fa 1 (.tmp 9)⟩ <|
  .op ⟨(some 28), none, .fa 0 (.tmp 9)⟩ <|
  .op ⟨(some 30), none, .mov (.tmp 2)⟩ <|
  .alt (
   .op ⟨(some 27), none, .ld (.tmp 26) none⟩ <|
   .alt (
    .op ⟨(some 29), none, .ld (.tmp 28) none⟩ <|
    .op ⟨(some 31), none, .call n_cycle_of [(.tmp 30)]⟩ <|
    .op ⟨(some 32), none, .call n_cycle_back [(.tmp 25), (.tmp 27), (.tmp 29), (.tmp 31)]⟩ <|
    .op ⟨(some 24), none, .mov (.tmp 32)⟩ <|
    .op ⟨(some 33), none, .ext 0 (.tmp 24)⟩ <|
    .op ⟨(some 34), none, .ext 1 (.tmp 24)⟩ <|
    .op ⟨(some 10), none, .mov (.tmp 33)⟩ <|
    .op ⟨(some 11), none, .mov (.tmp 34)⟩ <|
    .done) (
    .op ⟨(some 31), none, .call n_cycle_of [(.tmp 30)]⟩ <|
    .op ⟨(some 29), none, .ld (.tmp 28) none⟩ <|
    .op ⟨(some 32), none, .call n_cycle_back [(.tmp 25), (.tmp 27), (.tmp 29), (.tmp 31)]⟩ <|
    .op ⟨(some 24), none, .mov (.tmp 32)⟩ <|
    .op ⟨(some 33), none, .ext 0 (.tmp 24)⟩ <|
    .op ⟨(some 34), none, .ext 1 (.tmp 24)⟩ <|
    .op ⟨(some 10), none, .mov (.tmp 33)⟩ <|
    .op ⟨(some 11), none, .mov (.tmp 34)⟩ <|
    .done)) (
   .alt (
    .op ⟨(some 29), none, .ld (.tmp 28) none⟩ <|
    .alt (
     .op ⟨(some 27), none, .ld (.tmp 26) none⟩ <|
     .op ⟨(some 31), none, .call n_cycle_of [(.tmp 30)]⟩ <|
     .op ⟨(some 32), none, .call n_cycle_back [(.tmp 25), (.tmp 27), (.tmp 29), (.tmp 31)]⟩ <|
     .op ⟨(some 24), none, .mov (.tmp 32)⟩ <|
     .op ⟨(some 33), none, .ext 0 (.tmp 24)⟩ <|
     .op ⟨(some 34), none, .ext 1 (.tmp 24)⟩ <|
     .op ⟨(some 10), none, .mov (.tmp 33)⟩ <|
     .op ⟨(some 11), none, .mov (.tmp 34)⟩ <|
     .done) (
     .op ⟨(some 31), none, .call n_cycle_of [(.tmp 30)]⟩ <|
     .op ⟨(some 27), none, .ld (.tmp 26) none⟩ <|
     .op ⟨(some 32), none, .call n_cycle_back [(.tmp 25), (.tmp 27), (.tmp 29), (.tmp 31)]⟩ <|
     .op ⟨(some 24), none, .mov (.tmp 32)⟩ <|
     .op ⟨(some 33), none, .ext 0 (.tmp 24)⟩ <|
     .op ⟨(some 34), none, .ext 1 (.tmp 24)⟩ <|
     .op ⟨(some 10), none, .mov (.tmp 33)⟩ <|
     .op ⟨(some 11), none, .mov (.tmp 34)⟩ <|
     .done)) (
    .op ⟨(some 31), none, .call n_cycle_of [(.tmp 30)]⟩ <|
    .op ⟨(some 27), none, .ld (.tmp 26) none⟩ <|
    .op ⟨(some 29), none, .ld (.tmp 28) none⟩ <|
    .op ⟨(some 32), none, .call n_cycle_back [(.tmp 25), (.tmp 27), (.tmp 29), (.tmp 31)]⟩ <|
    .op ⟨(some 24), none, .mov (.tmp 32)⟩ <|
    .op ⟨(some 33), none, .ext 0 (.tmp 24)⟩ <|
    .op ⟨(some 34), none, .ext 1 (.tmp 24)⟩ <|
    .op ⟨(some 10), none, .mov (.tmp 33)⟩ <|
    .op ⟨(some 11), none, .mov (.tmp 34)⟩ <|
    .done))
@[simp] def cycle_Find_r7 : List VOp :=
  [⟨(some 35), none, .mov (.tmp 11)⟩]
@[simp] def cycle_Find_r8 : List VOp :=
  [⟨(some 36), none, .ld (.tmp 9) (some 8)⟩,
   ⟨(some 37), none, .lit 8 1 [(0, (.tmp 36))]⟩,
   ⟨(some 38), none, .mov (.tmp 10)⟩,
   ⟨(some 39), none, .app 8 72 (.tmp 37) (.tmp 38)⟩,
   ⟨(some 6), none, .mov (.tmp 39)⟩]
@[simp] def cycle_Find_r9 : List VOp :=
  [⟨(some 40), none, .bin .add (.tmp 16) (.const (.int .i64 1))⟩,
   ⟨(some 16), none, .mov (.tmp 40)⟩]
def cycle_Find_l10 : VCode :=
  (.seq (.reg cycle_Find_r3) (.seq (.cond (.tmp 17) .skip (.exit 0)) (.seq (.block 1 (.seq (.reg cycle_Find_r4) (.seq (.seq (.reg cycle_Find_r5) (.cond (.tmp 23) (.exit 1) .skip)) (.seq (.any cycle_Find_t6) (.seq (.reg cycle_Find_r7) (.cond (.tmp 35) (.seq (.reg cycle_Find_r8) .ret) .skip)))))) (.reg cycle_Find_r9))))
@[simp] def cycle_Find_r11 : List VOp :=
  [⟨(some 6), none, .nils 8⟩]
def cycle_Find : VCode := (.seq (.reg cycle_Find_r0) (.seq (.reg cycle_Find_r1) (.seq (.seq (.reg cycle_Find_r2) (.block 0 (.loop cycle_Find_l10))) (.seq (.reg cycle_Find_r11) .ret))))
theorem cycle_Find_is : fnV prog n_cycle_Find = some (41, cycle_Find, [.tmp 6]) := by kernel_rfl

/- ratlinelaw21_all -/
@[simp] def ratlinelaw21_all_r0 : List VOp :=
  [⟨(some 0), none, .nils 1⟩]
@[simp] def ratlinelaw21_all_r1 : List VOp :=
  [⟨(some 1), none, .lit 1 5 [(0, (.const (.int .i64 1))), (1, (.const (.int .i64 2))), (2, (.const (.int .i64 3))), (3, (.const (.int .i64 4))), (4, (.const (.int .i64 5)))]⟩,
   ⟨(some 0), none, .mov (.tmp 1)⟩]
def ratlinelaw21_all : VCode := (.seq (.reg ratlinelaw21_all_r0) (.seq (.reg ratlinelaw21_all_r1) .ret))
theorem ratlinelaw21_all_is : fnV prog n_ratlinelaw21_all = some (2, ratlinelaw21_all, [.tmp 0]) := by kernel_rfl

/- ratlineref21_Find -/
@[simp] def ratlineref21_Find_r0 : List VOp :=
  [⟨(some 4), none, .box (.tmp 1)⟩,
   ⟨(some 5), none, .box (.tmp 2)⟩,
   ⟨(some 6), none, .nils 8⟩]
@[simp] def ratlineref21_Find_r1 : List VOp :=
  [⟨(some 7), none, .mov (.const (.int .i64 0))⟩]
@[simp] def ratlineref21_Find_r2 : List VOp :=
  [⟨(some 11), none, .mov (.tmp 7)⟩,
   ⟨(some 12), none, .mov (.tmp 0)⟩,
   ⟨(some 13), none, .len (.tmp 12)⟩,
   ⟨(some 14), none, .bin .lss (.tmp 11) (.tmp 13)⟩]
@[simp] def ratlineref21_Find_t3 : VT :=
  .op ⟨(some 17), none, .ld (.tmp 4) (some 7)⟩ <|
  .op ⟨(some 18), none, .mov (.tmp 0)⟩ <|
  .op ⟨(some 19), none, .mov (.tmp 7)⟩ <|
  .op ⟨(some 20), none, .ia 8 (.tmp 18) (.tmp 19)⟩ <|
  .op ⟨(some 21), none, .ld (.tmp 20) (some 8)⟩ <|
  .op ⟨(some 22), none, .call n_ratlineref21_Kinds_Is [(.tmp 17), (.tmp 21)]⟩ <|
  .op ⟨(some 8), none, .mov (.tmp 22)⟩ <|
  .done
@[simp] def ratlineref21_Find_r4 : List VOp :=
  [⟨(some 23), none, .mov (.tmp 8)⟩,
   ⟨(some 24), none, .un .not (.tmp 23)⟩]
@[simp] def ratlineref21_Find_r5 : List VOp :=
  [⟨(some 9), none, .mov (.const (.int .i64 0))⟩]
@[simp] def ratlineref21_Find_r6 : List VOp :=
  [⟨(some 25), none, .mov (.tmp 9)⟩,
   ⟨(some 26), none, .mov (.tmp 0)⟩,
   ⟨(some 27), none, .len (.tmp 26)⟩,
   ⟨(some 28), none, .bin .leq (.tmp 25) (.tmp 27)⟩]
@[simp] def ratlineref21_Find_t7 : VT :=
  .op ⟨(some 31), none, .mov (.tmp 0)⟩ <|
  .op ⟨(some 32), none, .mov (.tmp 0)⟩ <|
  .op ⟨(some 33), none, .mov (.tmp 7)⟩ <|
  .op ⟨(some 34), none, .ia 8 (.tmp 32) (.tmp 33)⟩ <|
  .op ⟨(some 35), none, .ld (.tmp 34) (some 8)⟩ <|
  .op ⟨(some 37), none, .ld (.tmp 5) (some 7)⟩ <|
  .op ⟨(some 38), none, .mov (.tmp 9)⟩ <|
  .op ⟨(some 36), none, .lit 8 1 [(0, (.tmp 35))]⟩ <|
  .op ⟨(some 39), none, .call n_ratlineref21_way [(.tmp 31), (.tmp 36), (.tmp 37), (.tmp 38)]⟩ <|
  .op ⟨(some 10), none, .mov (.tmp 39)⟩ <|
  .done
@[simp] def ratlineref21_Find_r8 : List VOp :=
  [⟨(some 40), none, .mov (.tmp 10)⟩,
   ⟨(some 41), none, .len (.tmp 40)⟩,
   ⟨(some 42), none, .bin .gtr (.tmp 41) (.const (.int .i64 0))⟩]
@[simp] def ratlineref21_Find_r9 : List VOp :=
  [⟨(some 43), none, .mov (.tmp 10)⟩,
   ⟨(some 6), none, .mov (.tmp 43)⟩]
@[simp] def ratlineref21_Find_r10 : List VOp :=
  [⟨(some 29), none, .mov (.tmp 9)⟩,
   ⟨(some 30), none, .bin .add (.tmp 29) (.const (.int .i64 1))⟩,
   ⟨(some 9), none, .mov (.tmp 30)⟩]
def ratlineref21_Find_l11 : VCode :=
  (.seq (.seq (.reg ratlineref21_Find_r6) (.cond (.tmp 28) .skip (.exit 2))) (.seq (.block 3 (.seq (.any ratlineref21_Find_t7) (.seq (.reg ratlineref21_Find_r8) (.cond (.tmp 42) (.seq (.reg ratlineref21_Find_r9) .ret) .skip)))) (.reg ratlineref21_Find_r10)))
@[simp] def ratlineref21_Find_r12 : List VOp :=
  [⟨(some 15), none, .mov (.tmp 7)⟩,
   ⟨(some 16), none, .bin .add (.tmp 15) (.const (.int .i64 1))⟩,
   ⟨(some 7), none, .mov (.tmp 16)⟩]
def ratlineref21_Find_l13 : VCode :=
  (.seq (.seq (.reg ratlineref21_Find_r2) (.cond (.tmp 14) .skip (.exit 0))) (.seq (.block 1 (.seq (.any ratlineref21_Find_t3) (.seq (.seq (.reg ratlineref21_Find_r4) (.cond (.tmp 24) (.exit 1) .skip)) (.seq (.reg ratlineref21_Find_r5) (.block 2 (.loop ratlineref21_Find_l11)))))) (.reg ratlineref21_Find_r12)))
@[simp] def ratlineref21_Find_r14 : List VOp :=
  [⟨(some 6), none, .nils 8⟩]
def ratlineref21_Find : VCode := (.seq (.reg ratlineref21_Find_r0) (.seq (.seq (.reg ratlineref21_Find_r1) (.block 0 (.loop ratlineref21_Find_l13))) (.seq (.reg ratlineref21_Find_r14) .ret)))
theorem ratlineref21_Find_is : fnV prog n_ratlineref21_Find = some (44, ratlineref21_Find, [.tmp 6]) := by kernel_rfl

/- ratlinelaw21_writes -/
@[simp] def ratlinelaw21_writes_r0 : List VOp :=
  [⟨(some 0), none, .nils 1⟩]
@[simp] def ratlinelaw21_writes_r1 : List VOp :=
  [⟨(some 1), none, .lit 1 1 [(0, (.const (.int .i64 1)))]⟩,
   ⟨(some 0), none, .mov (.tmp 1)⟩]
def ratlinelaw21_writes : VCode := (.seq (.reg ratlinelaw21_writes_r0) (.seq (.reg ratlinelaw21_writes_r1) .ret))
theorem ratlinelaw21_writes_is : fnV prog n_ratlinelaw21_writes = some (2, ratlinelaw21_writes, [.tmp 0]) := by kernel_rfl

/- ratlinelaw21_reads -/
@[simp] def ratlinelaw21_reads_r0 : List VOp :=
  [⟨(some 0), none, .nils 1⟩]
@[simp] def ratlinelaw21_reads_r1 : List VOp :=
  [⟨(some 1), none, .lit 1 1 [(0, (.const (.int .i64 4)))]⟩,
   ⟨(some 0), none, .mov (.tmp 1)⟩]
def ratlinelaw21_reads : VCode := (.seq (.reg ratlinelaw21_reads_r0) (.seq (.reg ratlinelaw21_reads_r1) .ret))
theorem ratlinelaw21_reads_is : fnV prog n_ratlinelaw21_reads = some (2, ratlinelaw21_reads, [.tmp 0]) := by kernel_rfl

/- cycle_Sorted -/
@[simp] def cycle_Sorted_r0 : List VOp :=
  [⟨(some 4), none, .nils 1⟩,
   ⟨(some 5), none, .mov (.const (.bool false))⟩]
@[simp] def cycle_Sorted_r1 : List VOp :=
  [⟨(some 15), none, .mov (.tmp 1)⟩,
   ⟨(some 16), none, .call n_slices_Clone_int_int [(.tmp 15)]⟩,
   ⟨(some 6), none, .mov (.tmp 16)⟩]
@[simp] def cycle_Sorted_r2 : List VOp :=
  [⟨(some 17), none, .mov (.tmp 6)⟩,
   ⟨(some 18), none, .call n_slices_Sort_int_int [(.tmp 17)]⟩]
@[simp] def cycle_Sorted_r3 : List VOp :=
  [⟨(some 19), none, .mov (.tmp 6)⟩,
   ⟨(some 20), none, .call n_slices_Compact_int_int [(.tmp 19)]⟩,
   ⟨(some 6), none, .mov (.tmp 20)⟩]
@[simp] def cycle_Sorted_r4 : List VOp :=
  [⟨(some 21), none, .mkmap (false, [.i .i64], false)⟩,
   ⟨(some 7), none, .alloc [.iv (.v (.map none))]⟩,
   ⟨none, none, .st (.tmp 7) (.tmp 21) 1⟩]
@[simp] def cycle_Sorted_r5 : List VOp :=
  [⟨(some 22), none, .mov (.tmp 0)⟩,
   ⟨(some 23), none, .len (.tmp 22)⟩,
   ⟨(some 24), none, .mov (.const (.int .i64 0))⟩]
@[simp] def cycle_Sorted_r6 : List VOp :=
  [⟨(some 25), none, .bin .lss (.tmp 24) (.tmp 23)⟩]
@[simp] def cycle_Sorted_r7 : List VOp :=
  [⟨(some 26), none, .ia 8 (.tmp 22) (.tmp 24)⟩,
   ⟨(some 27), none, .ld (.tmp 26) (some 8)⟩,
   ⟨(some 9), none, .alloc [.iv (.v (.int .i64 0)), .iv (.v (.int .i64 0)), .iv (.v (.int .i64 0)), .iv (.v (.int .i64 0)), .iv (.v (.bool false)), .iv (.v (.int .i64 0)), .iv (.v (.string ⟨#[]⟩)), .iv (.v (.bool false))]⟩,
   ⟨none, none, .st (.tmp 9) (.tmp 27) 8⟩]
@[simp] def cycle_Sorted_r8 : List VOp :=
  [⟨(some 28), none, .mov (.tmp 6)⟩,
   ⟨(some 29), none, .fa 0 (.tmp 9)⟩,
   ⟨(some 30), none, .ld (.tmp 29) none⟩,
   ⟨(some 31), none, .call n_slices_Contains_int_int [(.tmp 28), (.tmp 30)]⟩]
@[simp] def cycle_Sorted_r9 : List VOp :=
  [⟨(some 32), none, .ld (.tmp 7) none⟩,
   ⟨(some 33), none, .fa 1 (.tmp 9)⟩,
   ⟨(some 34), none, .ld (.tmp 33) none⟩,
   ⟨(some 35), none, .lkp (false, [.i .i64], false) [.iv (.v (.int .i64 0))] (.tmp 32) (.tmp 34) false⟩,
   ⟨(some 36), none, .bin .add (.tmp 35) (.const (.int .i64 1))⟩,
   ⟨none, none, .mset (false, [.i .i64], false) (.tmp 32) (.tmp 34) (.tmp 36)⟩]
@[simp] def cycle_Sorted_r10 : List VOp :=
  [⟨(some 37), none, .bin .add (.tmp 24) (.const (.int .i64 1))⟩,
   ⟨(some 24), none, .mov (.tmp 37)⟩]
def cycle_Sorted_l11 : VCode :=
  (.seq (.reg cycle_Sorted_r6) (.seq (.cond (.tmp 25) .skip (.exit 0)) (.seq (.block 1 (.seq (.reg cycle_Sorted_r7) (.seq (.reg cycle_Sorted_r8) (.cond (.tmp 31) (.reg cycle_Sorted_r9) .skip)))) (.reg cycle_Sorted_r10))))
@[simp] def cycle_Sorted_r12 : List VOp :=
  [⟨(some 10), none, .nils 1⟩]
@[simp] def cycle_Sorted_r13 : List VOp :=
  [⟨(some 38), none, .mov (.tmp 6)⟩,
   ⟨(some 39), none, .len (.tmp 38)⟩,
   ⟨(some 40), none, .bin .gtr (.tmp 39) (.const (.int .i64 0))⟩]
@[simp] def cycle_Sorted_r14 : List VOp :=
  [⟨(some 41), none, .mov (.tmp 6)⟩,
   ⟨(some 42), none, .mkfn n_cycle_Sorted_1 [] [(.tmp 7)]⟩,
   ⟨(some 43), none, .call n_slices_IndexFunc_int_int [(.tmp 41), (.tmp 42)]⟩,
   ⟨(some 11), none, .mov (.tmp 43)⟩]
@[simp] def cycle_Sorted_r15 : List VOp :=
  [⟨(some 44), none, .mov (.tmp 11)⟩,
   ⟨(some 45), none, .bin .lss (.tmp 44) (.const (.int .i64 0))⟩]
@[simp] def cycle_Sorted_r16 : List VOp :=
  [⟨(some 4), none, .nils 1⟩,
   ⟨(some 5), none, .mov (.const (.bool false))⟩]
@[simp] def cycle_Sorted_r17 : List VOp :=
  [⟨(some 46), none, .mov (.tmp 6)⟩,
   ⟨(some 47), none, .mov (.tmp 11)⟩,
   ⟨(some 48), none, .ia 1 (.tmp 46) (.tmp 47)⟩,
   ⟨(some 49), none, .ld (.tmp 48) none⟩,
   ⟨(some 12), none, .mov (.tmp 49)⟩]
@[simp] def cycle_Sorted_r18 : List VOp :=
  [⟨(some 50), none, .mov (.tmp 10)⟩,
   ⟨(some 51), none, .mov (.tmp 12)⟩,
   ⟨(some 52), none, .lit 1 1 [(0, (.tmp 51))]⟩,
   ⟨(some 53), none, .app 1 8 (.tmp 50) (.tmp 52)⟩,
   ⟨(some 10), none, .mov (.tmp 53)⟩]
@[simp] def cycle_Sorted_r19 : List VOp :=
  [⟨(some 54), none, .mov (.tmp 6)⟩,
   ⟨(some 55), none, .mov (.tmp 11)⟩,
   ⟨(some 56), none, .mov (.tmp 11)⟩,
   ⟨(some 57), none, .bin .add (.tmp 56) (.const (.int .i64 1))⟩,
   ⟨(some 58), none, .call n_slices_Delete_int_int [(.tmp 54), (.tmp 55), (.tmp 57)]⟩,
   ⟨(some 6), none, .mov (.tmp 58)⟩]
@[simp] def cycle_Sorted_r20 : List VOp :=
  [⟨(some 59), none, .mov (.tmp 0)⟩,
   ⟨(some 60), none, .len (.tmp 59)⟩,
   ⟨(some 61), none, .mov (.const (.int .i64 0))⟩]
@[simp] def cycle_Sorted_r21 : List VOp :=
  [⟨(some 62), none, .bin .lss (.tmp 61) (.tmp 60)⟩]
@[simp] def cycle_Sorted_r22 : List VOp :=
  [⟨(some 63), none, .ia 8 (.tmp 59) (.tmp 61)⟩,
   ⟨(some 64), none, .ld (.tmp 63) (some 8)⟩,
   ⟨(some 14), none, .alloc [.iv (.v (.int .i64 0)), .iv (.v (.int .i64 0)), .iv (.v (.int .i64 0)), .iv (.v (.int .i64 0)), .iv (.v (.bool false)), .iv (.v (.int .i64 0)), .iv (.v (.string ⟨#[]⟩)), .iv (.v (.bool false))]⟩,
   ⟨none, none, .st (.tmp 14) (.tmp 64) 8⟩]
@[simp] def cycle_Sorted_r23 : List VOp :=
  [⟨(some 65), none, .fa 0 (.tmp 14)⟩,
   ⟨(some 66), none, .ld (.tmp 65) none⟩,
   ⟨(some 67), none, .mov (.tmp 12)⟩,
   ⟨(some 68), none, .bin .eql (.tmp 66) (.tmp 67)⟩]
@[simp] def cycle_Sorted_r24 : List VOp :=
  [⟨(some 69), none, .ld (.tmp 7) none⟩,
   ⟨(some 70), none, .fa 1 (.tmp 14)⟩,
   ⟨(some 71), none, .ld (.tmp 70) none⟩,
   ⟨(some 72), none, .lkp (false, [.i .i64], false) [.iv (.v (.int .i64 0))] (.tmp 69) (.tmp 71) false⟩,
   ⟨(some 73), none, .bin .sub (.tmp 72) (.const (.int .i64 1))⟩,
   ⟨none, none, .mset (false, [.i .i64], false) (.tmp 69) (.tmp 71) (.tmp 73)⟩]
@[simp] def cycle_Sorted_r25 : List VOp :=
  [⟨(some 74), none, .bin .add (.tmp 61) (.const (.int .i64 1))⟩,
   ⟨(some 61), none, .mov (.tmp 74)⟩]
def cycle_Sorted_l26 : VCode :=
  (.seq (.reg cycle_Sorted_r21) (.seq (.cond (.tmp 62) .skip (.exit 4)) (.seq (.block 5 (.seq (.reg cycle_Sorted_r22) (.seq (.reg cycle_Sorted_r23) (.cond (.tmp 68) (.reg cycle_Sorted_r24) .skip)))) (.reg cycle_Sorted_r25))))
def cycle_Sorted_l27 : VCode :=
  (.seq (.seq (.reg cycle_Sorted_r13) (.cond (.tmp 40) .skip (.exit 2))) (.block 3 (.seq (.reg cycle_Sorted_r14) (.seq (.seq (.reg cycle_Sorted_r15) (.cond (.tmp 45) (.seq (.reg cycle_Sorted_r16) .ret) .skip)) (.seq (.reg cycle_Sorted_r17) (.seq (.reg cycle_Sorted_r18) (.seq (.reg cycle_Sorted_r19) (.seq (.reg cycle_Sorted_r20) (.block 4 (.loop cycle_Sorted_l26))))))))))
@[simp] def cycle_Sorted_r28 : List VOp :=
  [⟨(some 75), none, .mov (.tmp 10)⟩,
   ⟨(some 4), none, .mov (.tmp 75)⟩,
   ⟨(some 5), none, .mov (.const (.bool true))⟩]
def cycle_Sorted : VCode := (.seq (.reg cycle_Sorted_r0) (.seq (.reg cycle_Sorted_r1) (.seq (.reg cycle_Sorted_r2) (.seq (.reg cycle_Sorted_r3) (.seq (.reg cycle_Sorted_r4) (.seq (.seq (.reg cycle_Sorted_r5) (.block 0 (.loop cycle_Sorted_l11))) (.seq (.reg cycle_Sorted_r12) (.seq (.block 2 (.loop cycle_Sorted_l27)) (.seq (.reg cycle_Sorted_r28) .ret)))))))))
theorem cycle_Sorted_is : fnV prog n_cycle_Sorted = some (76, cycle_Sorted, [.tmp 4, .tmp 5]) := by kernel_rfl

/- ratlineref21_Sorted -/
@[simp] def ratlineref21_Sorted_r0 : List VOp :=
  [⟨(some 4), none, .nils 1⟩,
   ⟨(some 5), none, .mov (.const (.bool false))⟩]
@[simp] def ratlineref21_Sorted_r1 : List VOp :=
  [⟨(some 6), none, .nils 1⟩]
@[simp] def ratlineref21_Sorted_r2 : List VOp :=
  [⟨(some 7), none, .mov (.const (.int .i64 0))⟩]
@[simp] def ratlineref21_Sorted_r3 : List VOp :=
  [⟨(some 14), none, .mov (.tmp 7)⟩,
   ⟨(some 15), none, .mov (.tmp 1)⟩,
   ⟨(some 16), none, .len (.tmp 15)⟩,
   ⟨(some 17), none, .bin .lss (.tmp 14) (.tmp 16)⟩]
@[simp] def ratlineref21_Sorted_r4 : List VOp :=
  [⟨(some 20), none, .mov (.tmp 6)⟩,
   ⟨(some 21), none, .mov (.tmp 1)⟩,
   ⟨(some 22), none, .mov (.tmp 7)⟩,
   ⟨(some 23), none, .ia 1 (.tmp 21) (.tmp 22)⟩,
   ⟨(some 24), none, .ld (.tmp 23) none⟩,
   ⟨(some 25), none, .call n_ratlineref21_place [(.tmp 20), (.tmp 24)]⟩,
   ⟨(some 26), none, .bin .lss (.tmp 25) (.const (.int .i64 0))⟩]
@[simp] def ratlineref21_Sorted_r5 : List VOp :=
  [⟨(some 27), none, .mov (.tmp 6)⟩,
   ⟨(some 28), none, .mov (.tmp 1)⟩,
   ⟨(some 29), none, .mov (.tmp 7)⟩,
   ⟨(some 30), none, .ia 1 (.tmp 28) (.tmp 29)⟩,
   ⟨(some 31), none, .ld (.tmp 30) none⟩,
   ⟨(some 32), none, .lit 1 1 [(0, (.tmp 31))]⟩,
   ⟨(some 33), none, .app 1 8 (.tmp 27) (.tmp 32)⟩,
   ⟨(some 6), none, .mov (.tmp 33)⟩]
@[simp] def ratlineref21_Sorted_r6 : List VOp :=
  [⟨(some 18), none, .mov (.tmp 7)⟩,
   ⟨(some 19), none, .bin .add (.tmp 18) (.const (.int .i64 1))⟩,
   ⟨(some 7), none, .mov (.tmp 19)⟩]
def ratlineref21_Sorted_l7 : VCode :=
  (.seq (.seq (.reg ratlineref21_Sorted_r3) (.cond (.tmp 17) .skip (.exit 0))) (.seq (.block 1 (.seq (.reg ratlineref21_Sorted_r4) (.cond (.tmp 26) (.reg ratlineref21_Sorted_r5) .skip))) (.reg ratlineref21_Sorted_r6)))
@[simp] def ratlineref21_Sorted_r8 : List VOp :=
  [⟨(some 8), none, .nils 1⟩]
@[simp] def ratlineref21_Sorted_r9 : List VOp :=
  [⟨(some 34), none, .mov (.tmp 6)⟩,
   ⟨(some 35), none, .len (.tmp 34)⟩,
   ⟨(some 36), none, .bin .gtr (.tmp 35) (.const (.int .i64 0))⟩]
@[simp] def ratlineref21_Sorted_r10 : List VOp :=
  [⟨(some 9), none, .mov (.const (.int .i64 (-1)))⟩]
@[simp] def ratlineref21_Sorted_r11 : List VOp :=
  [⟨(some 10), none, .mov (.const (.int .i64 0))⟩]
@[simp] def ratlineref21_Sorted_r12 : List VOp :=
  [⟨(some 37), none, .mov (.tmp 10)⟩,
   ⟨(some 38), none, .mov (.tmp 6)⟩,
   ⟨(some 39), none, .len (.tmp 38)⟩,
   ⟨(some 40), none, .bin .lss (.tmp 37) (.tmp 39)⟩]
@[simp] def ratlineref21_Sorted_r13 : List VOp :=
  [⟨(some 11), none, .mov (.const (.bool true))⟩]
@[simp] def ratlineref21_Sorted_r14 : List VOp :=
  [⟨(some 12), none, .mov (.const (.int .i64 0))⟩]
@[simp] def ratlineref21_Sorted_r15 : List VOp :=
  [⟨(some 43), none, .mov (.tmp 12)⟩,
   ⟨(some 44), none, .mov (.tmp 0)⟩,
   ⟨(some 45), none, .len (.tmp 44)⟩,
   ⟨(some 46), none, .bin .lss (.tmp 43) (.tmp 45)⟩]
@[simp] def ratlineref21_Sorted_t16 : VT :=
  .op ⟨(some 49), none, .mov (.tmp 0)⟩ <|
  .op ⟨(some 50), none, .mov (.tmp 12)⟩ <|
  .op ⟨(some 51), none, .ia 8 (.tmp 49) (.tmp 50)⟩ <|
  .op ⟨(some 52), none, .fa 1 (.tmp 51)⟩ <|
  .op ⟨(some 53), none, .ld (.tmp 52) none⟩ <|
  .op ⟨(some 54), none, .mov (.tmp 6)⟩ <|
  .op ⟨(some 55), none, .mov (.tmp 10)⟩ <|
  .op ⟨(some 56), none, .ia 1 (.tmp 54) (.tmp 55)⟩ <|
  .op ⟨(some 57), none, .ld (.tmp 56) none⟩ <|
  .op ⟨(some 58), none, .bin .eql (.tmp 53) (.tmp 57)⟩ <|
  .op ⟨(some 59), none, .mov (.tmp 58)⟩ <|
  .op ⟨(some 60), (some (59, true)), .mov (.tmp 6)⟩ <|
  .op ⟨(some 61), (some (59, true)), .mov (.tmp 0)⟩ <|
  .op ⟨(some 62), (some (59, true)), .mov (.tmp 12)⟩ <|
  .op ⟨(some 63), (some (59, true)), .ia 8 (.tmp 61) (.tmp 62)⟩ <|
  .op ⟨(some 64), (some (59, true)), .fa 0 (.tmp 63)⟩ <|
  .op ⟨(some 65), (some (59, true)), .ld (.tmp 64) none⟩ <|
  .op ⟨(some 66), (some (59, true)), .call n_ratlineref21_place [(.tmp 60), (.tmp 65)]⟩ <|
  .op ⟨(some 67), (some (59, true)), .bin .geq (.tmp 66) (.const (.int .i64 0))⟩ <|
  .op ⟨(some 68), none, .pick (.tmp 59) (.tmp 67) (.const (.bool false))⟩ <|
  .done
@[simp] def ratlineref21_Sorted_r17 : List VOp :=
  [⟨(some 11), none, .mov (.const (.bool false))⟩]
@[simp] def ratlineref21_Sorted_r18 : List VOp :=
  [⟨(some 47), none, .mov (.tmp 12)⟩,
   ⟨(some 48), none, .bin .add (.tmp 47) (.const (.int .i64 1))⟩,
   ⟨(some 12), none, .mov (.tmp 48)⟩]
def ratlineref21_Sorted_l19 : VCode :=
  (.seq (.seq (.reg ratlineref21_Sorted_r15) (.cond (.tmp 46) .skip (.exit 6))) (.seq (.block 7 (.seq (.any ratlineref21_Sorted_t16) (.cond (.tmp 68) (.reg ratlineref21_Sorted_r17) .skip))) (.reg ratlineref21_Sorted_r18)))
@[simp] def ratlineref21_Sorted_t20 : VT :=
  .op ⟨(some 69), none, .mov (.tmp 11)⟩ <|
  .op ⟨(some 70), none, .mov (.tmp 69)⟩ <|
  .op ⟨(some 71), (some (70, true)), .mov (.tmp 9)⟩ <|
  .op ⟨(some 72), (some (70, true)), .bin .lss (.tmp 71) (.const (.int .i64 0))⟩ <|
  .op ⟨(some 73), (some (70, true)), .mov (.tmp 72)⟩ <|
  .op ⟨(some 74), (some (73, false)), .mov (.tmp 6)⟩ <|
  .op ⟨(some 75), (some (73, false)), .mov (.tmp 10)⟩ <|
  .op ⟨(some 76), (some (73, false)), .ia 1 (.tmp 74) (.tmp 75)⟩ <|
  .op ⟨(some 77), (some (73, false)), .ld (.tmp 76) none⟩ <|
  .op ⟨(some 78), (some (73, false)), .mov (.tmp 6)⟩ <|
  .op ⟨(some 79), (some (73, false)), .mov (.tmp 9)⟩ <|
  .op ⟨(some 80), (some (73, false)), .ia 1 (.tmp 78) (.tmp 79)⟩ <|
  .op ⟨(some 81), (some (73, false)), .ld (.tmp 80) none⟩ <|
  .op ⟨(some 82), (some (73, false)), .bin .lss (.tmp 77) (.tmp 81)⟩ <|
  .op ⟨(some 83), (some (70, true)), .pick (.tmp 73) (.const (.bool true)) (.tmp 82)⟩ <|
  .op ⟨(some 84), none, .pick (.tmp 70) (.tmp 83) (.const (.bool false))⟩ <|
  .done
@[simp] def ratlineref21_Sorted_r21 : List VOp :=
  [⟨(some 85), none, .mov (.tmp 10)⟩,
   ⟨(some 9), none, .mov (.tmp 85)⟩]
@[simp] def ratlineref21_Sorted_r22 : List VOp :=
  [⟨(some 41), none, .mov (.tmp 10)⟩,
   ⟨(some 42), none, .bin .add (.tmp 41) (.const (.int .i64 1))⟩,
   ⟨(some 10), none, .mov (.tmp 42)⟩]
def ratlineref21_Sorted_l23 : VCode :=
  (.seq (.seq (.reg ratlineref21_Sorted_r12) (.cond (.tmp 40) .skip (.exit 4))) (.seq (.block 5 (.seq (.reg ratlineref21_Sorted_r13) (.seq (.seq (.reg ratlineref21_Sorted_r14) (.block 6 (.loop ratlineref21_Sorted_l19))) (.seq (.any ratlineref21_Sorted_t20) (.cond (.tmp 84) (.reg ratlineref21_Sorted_r21) .skip))))) (.reg ratlineref21_Sorted_r22)))
@[simp] def ratlineref21_Sorted_r24 : List VOp :=
  [⟨(some 86), none, .mov (.tmp 9)⟩,
   ⟨(some 87), none, .bin .lss (.tmp 86) (.const (.int .i64 0))⟩]
@[simp] def ratlineref21_Sorted_r25 : List VOp :=
  [⟨(some 4), none, .nils 1⟩,
   ⟨(some 5), none, .mov (.const (.bool false))⟩]
@[simp] def ratlineref21_Sorted_r26 : List VOp :=
  [⟨(some 88), none, .mov (.tmp 8)⟩,
   ⟨(some 89), none, .mov (.tmp 6)⟩,
   ⟨(some 90), none, .mov (.tmp 9)⟩,
   ⟨(some 91), none, .ia 1 (.tmp 89) (.tmp 90)⟩,
   ⟨(some 92), none, .ld (.tmp 91) none⟩,
   ⟨(some 93), none, .lit 1 1 [(0, (.tmp 92))]⟩,
   ⟨(some 94), none, .app 1 8 (.tmp 88) (.tmp 93)⟩,
   ⟨(some 8), none, .mov (.tmp 94)⟩]
@[simp] def ratlineref21_Sorted_r27 : List VOp :=
  [⟨(some 13), none, .nils 1⟩]
@[simp] def ratlineref21_Sorted_r28 : List VOp :=
  [⟨(some 95), none, .mov (.tmp 13)⟩,
   ⟨(some 96), none, .mov (.tmp 6)⟩,
   ⟨(some 97), none, .mov (.tmp 9)⟩,
   ⟨(some 98), none, .cut 1 (.tmp 96) none (some (.tmp 97))⟩,
   ⟨(some 99), none, .app 1 8 (.tmp 95) (.tmp 98)⟩,
   ⟨(some 13), none, .mov (.tmp 99)⟩]
@[simp] def ratlineref21_Sorted_r29 : List VOp :=
  [⟨(some 100), none, .mov (.tmp 13)⟩,
   ⟨(some 101), none, .mov (.tmp 6)⟩,
   ⟨(some 102), none, .mov (.tmp 9)⟩,
   ⟨(some 103), none, .bin .add (.tmp 102) (.const (.int .i64 1))⟩,
   ⟨(some 104), none, .cut 1 (.tmp 101) (some (.tmp 103)) none⟩,
   ⟨(some 105), none, .app 1 8 (.tmp 100) (.tmp 104)⟩,
   ⟨(some 13), none, .mov (.tmp 105)⟩]
@[simp] def ratlineref21_Sorted_r30 : List VOp :=
  [⟨(some 106), none, .mov (.tmp 13)⟩,
   ⟨(some 6), none, .mov (.tmp 106)⟩]
def ratlineref21_Sorted_l31 : VCode :=
  (.seq (.seq (.reg ratlineref21_Sorted_r9) (.cond (.tmp 36) .skip (.exit 2))) (.block 3 (.seq (.reg ratlineref21_Sorted_r10) (.seq (.seq (.reg ratlineref21_Sorted_r11) (.block 4 (.loop ratlineref21_Sorted_l23))) (.seq (.seq (.reg ratlineref21_Sorted_r24) (.cond (.tmp 87) (.seq (.reg ratlineref21_Sorted_r25) .ret) .skip)) (.seq (.reg ratlineref21_Sorted_r26) (.seq (.reg ratlineref21_Sorted_r27) (.seq (.reg ratlineref21_Sorted_r28) (.seq (.reg ratlineref21_Sorted_r29) (.reg ratlineref21_Sorted_r30))))))))))
@[simp] def ratlineref21_Sorted_r32 : List VOp :=
  [⟨(some 107), none, .mov (.tmp 8)⟩,
   ⟨(some 4), none, .mov (.tmp 107)⟩,
   ⟨(some 5), none, .mov (.const (.bool true))⟩]
def ratlineref21_Sorted : VCode := (.seq (.reg ratlineref21_Sorted_r0) (.seq (.reg ratlineref21_Sorted_r1) (.seq (.seq (.reg ratlineref21_Sorted_r2) (.block 0 (.loop ratlineref21_Sorted_l7))) (.seq (.reg ratlineref21_Sorted_r8) (.seq (.block 2 (.loop ratlineref21_Sorted_l31)) (.seq (.reg ratlineref21_Sorted_r32) .ret))))))
theorem ratlineref21_Sorted_is : fnV prog n_ratlineref21_Sorted = some (108, ratlineref21_Sorted, [.tmp 4, .tmp 5]) := by kernel_rfl

/- cycle_Valid -/
@[simp] def cycle_Valid_r0 : List VOp :=
  [⟨(some 2), none, .mov (.const (.bool false))⟩]
@[simp] def cycle_Valid_r1 : List VOp :=
  [⟨(some 6), none, .mkmap (false, [.i .i64], false)⟩,
   ⟨(some 3), none, .mov (.tmp 6)⟩]
@[simp] def cycle_Valid_r2 : List VOp :=
  [⟨(some 7), none, .mov (.tmp 0)⟩,
   ⟨(some 8), none, .len (.tmp 7)⟩,
   ⟨(some 9), none, .mov (.const (.int .i64 0))⟩]
@[simp] def cycle_Valid_r3 : List VOp :=
  [⟨(some 10), none, .bin .lss (.tmp 9) (.tmp 8)⟩]
@[simp] def cycle_Valid_r4 : List VOp :=
  [⟨(some 11), none, .mov (.tmp 9)⟩,
   ⟨(some 12), none, .ia 8 (.tmp 7) (.tmp 9)⟩,
   ⟨(some 13), none, .ld (.tmp 12) (some 8)⟩,
   ⟨(some 5), none, .alloc [.iv (.v (.int .i64 0)), .iv (.v (.int .i64 0)), .iv (.v (.int .i64 0)), .iv (.v (.int .i64 0)), .iv (.v (.bool false)), .iv (.v (.int .i64 0)), .iv (.v (.string ⟨#[]⟩)), .iv (.v (.bool false))]⟩,
   ⟨(some 4), none, .mov (.tmp 11)⟩,
   ⟨none, none, .st (.tmp 5) (.tmp 13) 8⟩]
@[simp] def cycle_Valid_t5 : VT :=
  .op ⟨(some 14), none, .fa 1 (.tmp 5)⟩ <|
  .op ⟨(some 15), none, .ld (.tmp 14) none⟩ <|
  .op ⟨(some 16), none, .mov (.tmp 0)⟩ <|
  .op ⟨(some 17), none, .mov (.tmp 4)⟩ <|
  .op ⟨(some 18), none, .bin .add (.tmp 17) (.const (.int .i64 1))⟩ <|
  .op ⟨(some 19), none, .mov (.tmp 0)⟩ <|
  .op ⟨(some 20), none, .len (.tmp 19)⟩ <|
  .op ⟨(some 21), none, .bin .rem (.tmp 18) (.tmp 20)⟩ <|
  .op ⟨(some 22), none, .ia 8 (.tmp 16) (.tmp 21)⟩ <|
  .op ⟨(some 23), none, .fa 0 (.tmp 22)⟩ <|
  .op ⟨(some 24), none, .ld (.tmp 23) none⟩ <|
  .op ⟨(some 25), none, .bin .neq (.tmp 15) (.tmp 24)⟩ <|
  .op ⟨(some 26), none, .mov (.tmp 25)⟩ <|
  .op ⟨(some 27), (some (26, false)), .mov (.tmp 3)⟩ <|
  .op ⟨(some 28), (some (26, false)), .fa 1 (.tmp 5)⟩ <|
  .op ⟨(some 29), (some (26, false)), .ld (.tmp 28) none⟩ <|
  .op ⟨(some 30), (some (26, false)), .lkp (false, [.i .i64], false) [.iv (.v (.int .i64 0))] (.tmp 27) (.tmp 29) false⟩ <|
  .op ⟨(some 31), (some (26, false)), .bin .gtr (.tmp 30) (.const (.int .i64 0))⟩ <|
  .op ⟨(some 32), none, .pick (.tmp 26) (.const (.bool true)) (.tmp 31)⟩ <|
  .done
@[simp] def cycle_Valid_r6 : List VOp :=
  [⟨(some 2), none, .mov (.const (.bool false))⟩]
@[simp] def cycle_Valid_r7 : List VOp :=
  [⟨(some 33), none, .mov (.tmp 3)⟩,
   ⟨(some 34), none, .fa 1 (.tmp 5)⟩,
   ⟨(some 35), none, .ld (.tmp 34) none⟩,
   ⟨(some 36), none, .lkp (false, [.i .i64], false) [.iv (.v (.int .i64 0))] (.tmp 33) (.tmp 35) false⟩,
   ⟨(some 37), none, .bin .add (.tmp 36) (.const (.int .i64 1))⟩,
   ⟨none, none, .mset (false, [.i .i64], false) (.tmp 33) (.tmp 35) (.tmp 37)⟩]
@[simp] def cycle_Valid_r8 : List VOp :=
  [⟨(some 38), none, .bin .add (.tmp 9) (.const (.int .i64 1))⟩,
   ⟨(some 9), none, .mov (.tmp 38)⟩]
def cycle_Valid_l9 : VCode :=
  (.seq (.reg cycle_Valid_r3) (.seq (.cond (.tmp 10) .skip (.exit 0)) (.seq (.block 1 (.seq (.reg cycle_Valid_r4) (.seq (.seq (.any cycle_Valid_t5) (.cond (.tmp 32) (.seq (.reg cycle_Valid_r6) .ret) .skip)) (.reg cycle_Valid_r7)))) (.reg cycle_Valid_r8))))
@[simp] def cycle_Valid_r10 : List VOp :=
  [⟨(some 39), none, .mov (.tmp 0)⟩,
   ⟨(some 40), none, .len (.tmp 39)⟩,
   ⟨(some 41), none, .bin .gtr (.tmp 40) (.const (.int .i64 0))⟩,
   ⟨(some 2), none, .mov (.tmp 41)⟩]
def cycle_Valid : VCode := (.seq (.reg cycle_Valid_r0) (.seq (.reg cycle_Valid_r1) (.seq (.seq (.reg cycle_Valid_r2) (.block 0 (.loop cycle_Valid_l9))) (.seq (.reg cycle_Valid_r10) .ret))))
theorem cycle_Valid_is : fnV prog n_cycle_Valid = some (42, cycle_Valid, [.tmp 2]) := by kernel_rfl

/- ratlineref21_Valid -/
@[simp] def ratlineref21_Valid_r0 : List VOp :=
  [⟨(some 2), none, .mov (.const (.bool false))⟩]
@[simp] def ratlineref21_Valid_r1 : List VOp :=
  [⟨(some 5), none, .mov (.tmp 0)⟩,
   ⟨(some 6), none, .len (.tmp 5)⟩,
   ⟨(some 7), none, .bin .eql (.tmp 6) (.const (.int .i64 0))⟩]
@[simp] def ratlineref21_Valid_r2 : List VOp :=
  [⟨(some 2), none, .mov (.const (.bool false))⟩]
@[simp] def ratlineref21_Valid_r3 : List VOp :=
  [⟨(some 3), none, .mov (.const (.int .i64 0))⟩]
@[simp] def ratlineref21_Valid_r4 : List VOp :=
  [⟨(some 8), none, .mov (.tmp 3)⟩,
   ⟨(some 9), none, .mov (.tmp 0)⟩,
   ⟨(some 10), none, .len (.tmp 9)⟩,
   ⟨(some 11), none, .bin .lss (.tmp 8) (.tmp 10)⟩]
@[simp] def ratlineref21_Valid_r5 : List VOp :=
  [⟨(some 14), none, .mov (.tmp 0)⟩,
   ⟨(some 15), none, .mov (.tmp 3)⟩,
   ⟨(some 16), none, .bin .add (.tmp 15) (.const (.int .i64 1))⟩,
   ⟨(some 17), none, .mov (.tmp 0)⟩,
   ⟨(some 18), none, .len (.tmp 17)⟩,
   ⟨(some 19), none, .bin .rem (.tmp 16) (.tmp 18)⟩,
   ⟨(some 20), none, .ia 8 (.tmp 14) (.tmp 19)⟩,
   ⟨(some 21), none, .ld (.tmp 20) (some 8)⟩,
   ⟨(some 4), none, .alloc [.iv (.v (.int .i64 0)), .iv (.v (.int .i64 0)), .iv (.v (.int .i64 0)), .iv (.v (.int .i64 0)), .iv (.v (.bool false)), .iv (.v (.int .i64 0)), .iv (.v (.string ⟨#[]⟩)), .iv (.v (.bool false))]⟩,
   ⟨none, none, .st (.tmp 4) (.tmp 21) 8⟩]
@[simp] def ratlineref21_Valid_t6 : VT :=
  .op ⟨(some 22), none, .mov (.tmp 0)⟩ <|
  .op ⟨(some 23), none, .mov (.tmp 3)⟩ <|
  .op ⟨(some 24), none, .ia 8 (.tmp 22) (.tmp 23)⟩ <|
  .op ⟨(some 25), none, .fa 1 (.tmp 24)⟩ <|
  .op ⟨(some 26), none, .ld (.tmp 25) none⟩ <|
  .op ⟨(some 27), none, .fa 0 (.tmp 4)⟩ <|
  .op ⟨(some 28), none, .ld (.tmp 27) none⟩ <|
  .op ⟨(some 29), none, .bin .neq (.tmp 26) (.tmp 28)⟩ <|
  .op ⟨(some 30), none, .mov (.tmp 29)⟩ <|
  .op ⟨(some 31), (some (30, false)), .mov (.tmp 0)⟩ <|
  .op ⟨(some 32), (some (30, false)), .mov (.tmp 3)⟩ <|
  .op ⟨(some 33), (some (30, false)), .cut 8 (.tmp 31) none (some (.tmp 32))⟩ <|
  .op ⟨(some 34), (some (30, false)), .mov (.tmp 0)⟩ <|
  .op ⟨(some 35), (some (30, false)), .mov (.tmp 3)⟩ <|
  .op ⟨(some 36), (some (30, false)), .ia 8 (.tmp 34) (.tmp 35)⟩ <|
  .op ⟨(some 37), (some (30, false)), .fa 1 (.tmp 36)⟩ <|
  .op ⟨(some 38), (some (30, false)), .ld (.tmp 37) none⟩ <|
  .op ⟨(some 39), (some (30, false)), .call n_ratlineref21_met [(.tmp 33), (.tmp 38)]⟩ <|
  .op ⟨(some 40), none, .pick (.tmp 30) (.const (.bool true)) (.tmp 39)⟩ <|
  .done
@[simp] def ratlineref21_Valid_r7 : List VOp :=
  [⟨(some 2), none, .mov (.const (.bool false))⟩]
@[simp] def ratlineref21_Valid_r8 : List VOp :=
  [⟨(some 12), none, .mov (.tmp 3)⟩,
   ⟨(some 13), none, .bin .add (.tmp 12) (.const (.int .i64 1))⟩,
   ⟨(some 3), none, .mov (.tmp 13)⟩]
def ratlineref21_Valid_l9 : VCode :=
  (.seq (.seq (.reg ratlineref21_Valid_r4) (.cond (.tmp 11) .skip (.exit 0))) (.seq (.block 1 (.seq (.reg ratlineref21_Valid_r5) (.seq (.any ratlineref21_Valid_t6) (.cond (.tmp 40) (.seq (.reg ratlineref21_Valid_r7) .ret) .skip)))) (.reg ratlineref21_Valid_r8)))
@[simp] def ratlineref21_Valid_r10 : List VOp :=
  [⟨(some 2), none, .mov (.const (.bool true))⟩]
def ratlineref21_Valid : VCode := (.seq (.reg ratlineref21_Valid_r0) (.seq (.seq (.reg ratlineref21_Valid_r1) (.cond (.tmp 7) (.seq (.reg ratlineref21_Valid_r2) .ret) .skip)) (.seq (.seq (.reg ratlineref21_Valid_r3) (.block 0 (.loop ratlineref21_Valid_l9))) (.seq (.reg ratlineref21_Valid_r10) .ret))))
theorem ratlineref21_Valid_is : fnV prog n_ratlineref21_Valid = some (41, ratlineref21_Valid, [.tmp 2]) := by kernel_rfl

/- cycle_Respects -/
@[simp] def cycle_Respects_r0 : List VOp :=
  [⟨(some 3), none, .box (.tmp 1)⟩,
   ⟨(some 4), none, .mov (.const (.bool false))⟩]
@[simp] def cycle_Respects_r1 : List VOp :=
  [⟨(some 6), none, .mkfn n_cycle_Respects_1 [] [(.tmp 3)]⟩,
   ⟨(some 5), none, .alloc [.iv (.v .nilFunc)]⟩,
   ⟨none, none, .st (.tmp 5) (.tmp 6) 1⟩]
@[simp] def cycle_Respects_r2 : List VOp :=
  [⟨(some 7), none, .mov (.tmp 0)⟩,
   ⟨(some 8), none, .mkfn n_cycle_Respects_2 [] [(.tmp 5)]⟩,
   ⟨(some 9), none, .call n_slices_ContainsFunc_api_Edge_api_Edge [(.tmp 7), (.tmp 8)]⟩,
   ⟨(some 10), none, .un .not (.tmp 9)⟩,
   ⟨(some 4), none, .mov (.tmp 10)⟩]
def cycle_Respects : VCode := (.seq (.reg cycle_Respects_r0) (.seq (.reg cycle_Respects_r1) (.seq (.reg cycle_Respects_r2) .ret)))
theorem cycle_Respects_is : fnV prog n_cycle_Respects = some (11, cycle_Respects, [.tmp 4]) := by kernel_rfl

/- ratlineref21_Respects -/
@[simp] def ratlineref21_Respects_r0 : List VOp :=
  [⟨(some 4), none, .mov (.const (.bool false))⟩]
@[simp] def ratlineref21_Respects_r1 : List VOp :=
  [⟨(some 5), none, .mov (.const (.int .i64 0))⟩]
@[simp] def ratlineref21_Respects_r2 : List VOp :=
  [⟨(some 8), none, .mov (.tmp 5)⟩,
   ⟨(some 9), none, .mov (.tmp 0)⟩,
   ⟨(some 10), none, .len (.tmp 9)⟩,
   ⟨(some 11), none, .bin .lss (.tmp 8) (.tmp 10)⟩]
@[simp] def ratlineref21_Respects_r3 : List VOp :=
  [⟨(some 14), none, .mov (.tmp 1)⟩,
   ⟨(some 15), none, .mov (.tmp 0)⟩,
   ⟨(some 16), none, .mov (.tmp 5)⟩,
   ⟨(some 17), none, .ia 8 (.tmp 15) (.tmp 16)⟩,
   ⟨(some 18), none, .fa 0 (.tmp 17)⟩,
   ⟨(some 19), none, .ld (.tmp 18) none⟩,
   ⟨(some 20), none, .call n_ratlineref21_place [(.tmp 14), (.tmp 19)]⟩,
   ⟨(some 6), none, .mov (.tmp 20)⟩]
@[simp] def ratlineref21_Respects_r4 : List VOp :=
  [⟨(some 21), none, .mov (.tmp 1)⟩,
   ⟨(some 22), none, .mov (.tmp 0)⟩,
   ⟨(some 23), none, .mov (.tmp 5)⟩,
   ⟨(some 24), none, .ia 8 (.tmp 22) (.tmp 23)⟩,
   ⟨(some 25), none, .fa 1 (.tmp 24)⟩,
   ⟨(some 26), none, .ld (.tmp 25) none⟩,
   ⟨(some 27), none, .call n_ratlineref21_place [(.tmp 21), (.tmp 26)]⟩,
   ⟨(some 7), none, .mov (.tmp 27)⟩]
@[simp] def ratlineref21_Respects_r5 : List VOp :=
  [⟨(some 28), none, .mov (.tmp 6)⟩,
   ⟨(some 29), none, .bin .geq (.tmp 28) (.const (.int .i64 0))⟩,
   ⟨(some 30), none, .mov (.tmp 29)⟩,
   ⟨(some 31), (some (30, true)), .mov (.tmp 7)⟩,
   ⟨(some 32), (some (30, true)), .bin .geq (.tmp 31) (.const (.int .i64 0))⟩,
   ⟨(some 33), none, .pick (.tmp 30) (.tmp 32) (.const (.bool false))⟩,
   ⟨(some 34), none, .mov (.tmp 33)⟩,
   ⟨(some 35), (some (34, true)), .mov (.tmp 6)⟩,
   ⟨(some 36), (some (34, true)), .mov (.tmp 7)⟩,
   ⟨(some 37), (some (34, true)), .bin .geq (.tmp 35) (.tmp 36)⟩,
   ⟨(some 38), none, .pick (.tmp 34) (.tmp 37) (.const (.bool false))⟩]
@[simp] def ratlineref21_Respects_r6 : List VOp :=
  [⟨(some 4), none, .mov (.const (.bool false))⟩]
@[simp] def ratlineref21_Respects_r7 : List VOp :=
  [⟨(some 12), none, .mov (.tmp 5)⟩,
   ⟨(some 13), none, .bin .add (.tmp 12) (.const (.int .i64 1))⟩,
   ⟨(some 5), none, .mov (.tmp 13)⟩]
def ratlineref21_Respects_l8 : VCode :=
  (.seq (.seq (.reg ratlineref21_Respects_r2) (.cond (.tmp 11) .skip (.exit 0))) (.seq (.block 1 (.seq (.reg ratlineref21_Respects_r3) (.seq (.reg ratlineref21_Respects_r4) (.seq (.reg ratlineref21_Respects_r5) (.cond (.tmp 38) (.seq (.reg ratlineref21_Respects_r6) .ret) .skip))))) (.reg ratlineref21_Respects_r7)))
@[simp] def ratlineref21_Respects_r9 : List VOp :=
  [⟨(some 4), none, .mov (.const (.bool true))⟩]
def ratlineref21_Respects : VCode := (.seq (.reg ratlineref21_Respects_r0) (.seq (.seq (.reg ratlineref21_Respects_r1) (.block 0 (.loop ratlineref21_Respects_l8))) (.seq (.reg ratlineref21_Respects_r9) .ret)))
theorem ratlineref21_Respects_is : fnV prog n_ratlineref21_Respects = some (39, ratlineref21_Respects, [.tmp 4]) := by kernel_rfl

/- ratlineref10_Ints -/
@[simp] def ratlineref10_Ints_r0 : List VOp :=
  [⟨(some 4), none, .mov (.const (.bool false))⟩]
@[simp] def ratlineref10_Ints_r1 : List VOp :=
  [⟨(some 6), none, .mov (.tmp 0)⟩,
   ⟨(some 7), none, .len (.tmp 6)⟩,
   ⟨(some 8), none, .mov (.tmp 1)⟩,
   ⟨(some 9), none, .len (.tmp 8)⟩,
   ⟨(some 10), none, .bin .neq (.tmp 7) (.tmp 9)⟩]
@[simp] def ratlineref10_Ints_r2 : List VOp :=
  [⟨(some 4), none, .mov (.const (.bool false))⟩]
@[simp] def ratlineref10_Ints_r3 : List VOp :=
  [⟨(some 5), none, .mov (.const (.int .i64 0))⟩]
@[simp] def ratlineref10_Ints_r4 : List VOp :=
  [⟨(some 11), none, .mov (.tmp 5)⟩,
   ⟨(some 12), none, .mov (.tmp 0)⟩,
   ⟨(some 13), none, .len (.tmp 12)⟩,
   ⟨(some 14), none, .bin .lss (.tmp 11) (.tmp 13)⟩]
@[simp] def ratlineref10_Ints_t5 : VT :=
  .op ⟨(some 17), none, .mov (.tmp 0)⟩ <|
  .op ⟨(some 18), none, .mov (.tmp 5)⟩ <|
  .op ⟨(some 19), none, .ia 1 (.tmp 17) (.tmp 18)⟩ <|
  .op ⟨(some 20), none, .ld (.tmp 19) none⟩ <|
  .op ⟨(some 21), none, .mov (.tmp 1)⟩ <|
  .op ⟨(some 22), none, .mov (.tmp 5)⟩ <|
  .op ⟨(some 23), none, .ia 1 (.tmp 21) (.tmp 22)⟩ <|
  .op ⟨(some 24), none, .ld (.tmp 23) none⟩ <|
  .op ⟨(some 25), none, .bin .neq (.tmp 20) (.tmp 24)⟩ <|
  .done
@[simp] def ratlineref10_Ints_r6 : List VOp :=
  [⟨(some 4), none, .mov (.const (.bool false))⟩]
@[simp] def ratlineref10_Ints_r7 : List VOp :=
  [⟨(some 15), none, .mov (.tmp 5)⟩,
   ⟨(some 16), none, .bin .add (.tmp 15) (.const (.int .i64 1))⟩,
   ⟨(some 5), none, .mov (.tmp 16)⟩]
def ratlineref10_Ints_l8 : VCode :=
  (.seq (.seq (.reg ratlineref10_Ints_r4) (.cond (.tmp 14) .skip (.exit 0))) (.seq (.block 1 (.seq (.any ratlineref10_Ints_t5) (.cond (.tmp 25) (.seq (.reg ratlineref10_Ints_r6) .ret) .skip))) (.reg ratlineref10_Ints_r7)))
@[simp] def ratlineref10_Ints_r9 : List VOp :=
  [⟨(some 4), none, .mov (.const (.bool true))⟩]
def ratlineref10_Ints : VCode := (.seq (.reg ratlineref10_Ints_r0) (.seq (.seq (.reg ratlineref10_Ints_r1) (.cond (.tmp 10) (.seq (.reg ratlineref10_Ints_r2) .ret) .skip)) (.seq (.seq (.reg ratlineref10_Ints_r3) (.block 0 (.loop ratlineref10_Ints_l8))) (.seq (.reg ratlineref10_Ints_r9) .ret))))
theorem ratlineref10_Ints_is : fnV prog n_ratlineref10_Ints = some (26, ratlineref10_Ints, [.tmp 4]) := by kernel_rfl

/- ratlinelaw21_in -/
@[simp] def ratlinelaw21_in_r0 : List VOp :=
  [⟨(some 3), none, .box (.tmp 1)⟩,
   ⟨(some 4), none, .mov (.const (.bool false))⟩]
@[simp] def ratlinelaw21_in_r1 : List VOp :=
  [⟨(some 5), none, .mov (.const (.int .i64 0))⟩]
@[simp] def ratlinelaw21_in_r2 : List VOp :=
  [⟨(some 6), none, .mov (.tmp 5)⟩,
   ⟨(some 7), none, .mov (.tmp 0)⟩,
   ⟨(some 8), none, .len (.tmp 7)⟩,
   ⟨(some 9), none, .bin .lss (.tmp 6) (.tmp 8)⟩]
@[simp] def ratlinelaw21_in_t3 : VT :=
  .op ⟨(some 12), none, .mov (.tmp 0)⟩ <|
  .op ⟨(some 13), none, .mov (.tmp 5)⟩ <|
  .op ⟨(some 14), none, .ia 8 (.tmp 12) (.tmp 13)⟩ <|
  .op ⟨(some 15), none, .ld (.tmp 14) (some 8)⟩ <|
  .op ⟨(some 16), none, .ld (.tmp 3) (some 8)⟩ <|
  .op ⟨(some 17), none, .eqs false [.i .i64, .i .i64, .i .i64, .i .i64, .b, .i .i64, .s, .b] (.tmp 15) (.tmp 16)⟩ <|
  .done
@[simp] def ratlinelaw21_in_r4 : List VOp :=
  [⟨(some 4), none, .mov (.const (.bool true))⟩]
@[simp] def ratlinelaw21_in_r5 : List VOp :=
  [⟨(some 10), none, .mov (.tmp 5)⟩,
   ⟨(some 11), none, .bin .add (.tmp 10) (.const (.int .i64 1))⟩,
   ⟨(some 5), none, .mov (.tmp 11)⟩]
def ratlinelaw21_in_l6 : VCode :=
  (.seq (.seq (.reg ratlinelaw21_in_r2) (.cond (.tmp 9) .skip (.exit 0))) (.seq (.block 1 (.seq (.any ratlinelaw21_in_t3) (.cond (.tmp 17) (.seq (.reg ratlinelaw21_in_r4) .ret) .skip))) (.reg ratlinelaw21_in_r5)))
@[simp] def ratlinelaw21_in_r7 : List VOp :=
  [⟨(some 4), none, .mov (.const (.bool false))⟩]
def ratlinelaw21_in : VCode := (.seq (.reg ratlinelaw21_in_r0) (.seq (.seq (.reg ratlinelaw21_in_r1) (.block 0 (.loop ratlinelaw21_in_l6))) (.seq (.reg ratlinelaw21_in_r7) .ret)))
theorem ratlinelaw21_in_is : fnV prog n_ratlinelaw21_in = some (18, ratlinelaw21_in, [.tmp 4]) := by kernel_rfl

/- cycle_of -/
@[simp] def cycle_of_r0 : List VOp :=
  [⟨(some 1), none, .box (.tmp 0)⟩,
   ⟨(some 2), none, .mov (.const .nilFunc)⟩]
@[simp] def cycle_of_r1 : List VOp :=
  [⟨(some 3), none, .mkfn n_cycle_of_1 [] [(.tmp 1)]⟩,
   ⟨(some 2), none, .mov (.tmp 3)⟩]
def cycle_of : VCode := (.seq (.reg cycle_of_r0) (.seq (.reg cycle_of_r1) .ret))
theorem cycle_of_is : fnV prog n_cycle_of = some (4, cycle_of, [.tmp 2]) := by kernel_rfl

/- cycle_back -/
@[simp] def cycle_back_r0 : List VOp :=
  [⟨(some 8), none, .nils 8⟩,
   ⟨(some 9), none, .mov (.const (.bool false))⟩]
@[simp] def cycle_back_r1 : List VOp :=
  [⟨(some 22), none, .mkmap (false, [.i .i64], false)⟩,
   ⟨(some 23), none, .mov (.tmp 1)⟩,
   ⟨none, none, .mset (false, [.i .i64], false) (.tmp 22) (.tmp 23) (.const (.int .i64 (-1)))⟩,
   ⟨(some 24), none, .mov (.tmp 22)⟩,
   ⟨(some 10), none, .mov (.tmp 24)⟩]
@[simp] def cycle_back_r2 : List VOp :=
  [⟨(some 25), none, .mov (.tmp 1)⟩,
   ⟨(some 26), none, .lit 1 1 [(0, (.tmp 25))]⟩,
   ⟨(some 11), none, .mov (.tmp 26)⟩]
@[simp] def cycle_back_r3 : List VOp :=
  [⟨(some 27), none, .mov (.tmp 1)⟩,
   ⟨(some 28), none, .mov (.tmp 2)⟩,
   ⟨(some 29), none, .bin .eql (.tmp 27) (.tmp 28)⟩,
   ⟨(some 12), none, .mov (.tmp 29)⟩]
@[simp] def cycle_back_r4 : List VOp :=
  [⟨(some 30), none, .mov (.tmp 11)⟩,
   ⟨(some 31), none, .len (.tmp 30)⟩,
   ⟨(some 32), none, .bin .gtr (.tmp 31) (.const (.int .i64 0))⟩,
   ⟨(some 33), none, .mov (.tmp 32)⟩,
   ⟨(some 34), (some (33, true)), .mov (.tmp 12)⟩,
   ⟨(some 35), (some (33, true)), .un .not (.tmp 34)⟩,
   ⟨(some 36), none, .pick (.tmp 33) (.tmp 35) (.const (.bool false))⟩]
@[simp] def cycle_back_r5 : List VOp :=
  [⟨(some 13), none, .nils 1⟩]
@[simp] def cycle_back_r6 : List VOp :=
  [⟨(some 37), none, .mov (.tmp 11)⟩,
   ⟨(some 38), none, .len (.tmp 37)⟩,
   ⟨(some 39), none, .mov (.const (.int .i64 0))⟩]
@[simp] def cycle_back_r7 : List VOp :=
  [⟨(some 40), none, .bin .lss (.tmp 39) (.tmp 38)⟩]
@[simp] def cycle_back_r8 : List VOp :=
  [⟨(some 41), none, .ia 1 (.tmp 37) (.tmp 39)⟩,
   ⟨(some 42), none, .ld (.tmp 41) none⟩,
   ⟨(some 15), none, .mov (.tmp 42)⟩]
@[simp] def cycle_back_r9 : List VOp :=
  [⟨(some 43), none, .mov (.tmp 0)⟩,
   ⟨(some 44), none, .len (.tmp 43)⟩,
   ⟨(some 45), none, .mov (.const (.int .i64 0))⟩]
@[simp] def cycle_back_r10 : List VOp :=
  [⟨(some 46), none, .bin .lss (.tmp 45) (.tmp 44)⟩]
@[simp] def cycle_back_r11 : List VOp :=
  [⟨(some 47), none, .mov (.tmp 45)⟩,
   ⟨(some 48), none, .ia 8 (.tmp 43) (.tmp 45)⟩,
   ⟨(some 49), none, .ld (.tmp 48) (some 8)⟩,
   ⟨(some 17), none, .alloc [.iv (.v (.int .i64 0)), .iv (.v (.int .i64 0)), .iv (.v (.int .i64 0)), .iv (.v (.int .i64 0)), .iv (.v (.bool false)), .iv (.v (.int .i64 0)), .iv (.v (.string ⟨#[]⟩)), .iv (.v (.bool false))]⟩,
   ⟨(some 16), none, .mov (.tmp 47)⟩,
   ⟨none, none, .st (.tmp 17) (.tmp 49) 8⟩]
@[simp] def cycle_back_r12 : List VOp :=
  [⟨(some 50), none, .fa 0 (.tmp 17)⟩,
   ⟨(some 51), none, .ld (.tmp 50) none⟩,
   ⟨(some 52), none, .mov (.tmp 15)⟩,
   ⟨(some 53), none, .bin .neq (.tmp 51) (.tmp 52)⟩,
   ⟨(some 54), none, .mov (.tmp 53)⟩,
   ⟨(some 55), (some (54, false)), .mov (.tmp 3)⟩,
   ⟨(some 56), (some (54, false)), .ld (.tmp 17) (some 8)⟩,
   ⟨(some 57), (some (54, false)), .callv (.tmp 55) [(.tmp 56)]⟩,
   ⟨(some 58), (some (54, false)), .un .not (.tmp 57)⟩,
   ⟨(some 59), none, .pick (.tmp 54) (.const (.bool true)) (.tmp 58)⟩]
@[simp] def cycle_back_r13 : List VOp :=
  [⟨(some 61), none, .mov (.tmp 10)⟩,
   ⟨(some 62), none, .fa 1 (.tmp 17)⟩,
   ⟨(some 63), none, .ld (.tmp 62) none⟩,
   ⟨(some 64), none, .lkp (false, [.i .i64], false) [.iv (.v (.int .i64 0))] (.tmp 61) (.tmp 63) true⟩,
   ⟨(some 60), none, .mov (.tmp 64)⟩,
   ⟨(some 65), none, .ext 0 (.tmp 60)⟩,
   ⟨(some 66), none, .ext 1 (.tmp 60)⟩,
   ⟨(some 18), none, .mov (.tmp 65)⟩,
   ⟨(some 19), none, .mov (.tmp 66)⟩]
@[simp] def cycle_back_r14 : List VOp :=
  [⟨(some 67), none, .mov (.tmp 19)⟩]
@[simp] def cycle_back_r15 : List VOp :=
  [⟨(some 68), none, .mov (.tmp 10)⟩,
   ⟨(some 69), none, .fa 1 (.tmp 17)⟩,
   ⟨(some 70), none, .ld (.tmp 69) none⟩,
   ⟨(some 71), none, .mov (.tmp 16)⟩,
   ⟨none, none, .mset (false, [.i .i64], false) (.tmp 68) (.tmp 70) (.tmp 71)⟩]
@[simp] def cycle_back_r16 : List VOp :=
  [⟨(some 72), none, .fa 1 (.tmp 17)⟩,
   ⟨(some 73), none, .ld (.tmp 72) none⟩,
   ⟨(some 74), none, .mov (.tmp 2)⟩,
   ⟨(some 75), none, .bin .eql (.tmp 73) (.tmp 74)⟩]
@[simp] def cycle_back_r17 : List VOp :=
  [⟨(some 12), none, .mov (.const (.bool true))⟩]
@[simp] def cycle_back_r18 : List VOp :=
  [⟨(some 76), none, .mov (.tmp 13)⟩,
   ⟨(some 77), none, .fa 1 (.tmp 17)⟩,
   ⟨(some 78), none, .ld (.tmp 77) none⟩,
   ⟨(some 79), none, .lit 1 1 [(0, (.tmp 78))]⟩,
   ⟨(some 80), none, .app 1 8 (.tmp 76) (.tmp 79)⟩,
   ⟨(some 13), none, .mov (.tmp 80)⟩]
@[simp] def cycle_back_r19 : List VOp :=
  [⟨(some 81), none, .bin .add (.tmp 45) (.const (.int .i64 1))⟩,
   ⟨(some 45), none, .mov (.tmp 81)⟩]
def cycle_back_l20 : VCode :=
  (.seq (.reg cycle_back_r10) (.seq (.cond (.tmp 46) .skip (.exit 4)) (.seq (.block 5 (.seq (.reg cycle_back_r11) (.seq (.seq (.reg cycle_back_r12) (.cond (.tmp 59) (.exit 5) .skip)) (.seq (.seq (.reg cycle_back_r13) (.seq (.reg cycle_back_r14) (.cond (.tmp 67) (.exit 5) .skip))) (.seq (.reg cycle_back_r15) (.seq (.seq (.reg cycle_back_r16) (.cond (.tmp 75) (.seq (.reg cycle_back_r17) (.exit 0)) .skip)) (.reg cycle_back_r18))))))) (.reg cycle_back_r19))))
@[simp] def cycle_back_r21 : List VOp :=
  [⟨(some 82), none, .bin .add (.tmp 39) (.const (.int .i64 1))⟩,
   ⟨(some 39), none, .mov (.tmp 82)⟩]
def cycle_back_l22 : VCode :=
  (.seq (.reg cycle_back_r7) (.seq (.cond (.tmp 40) .skip (.exit 2)) (.seq (.block 3 (.seq (.reg cycle_back_r8) (.seq (.reg cycle_back_r9) (.block 4 (.loop cycle_back_l20))))) (.reg cycle_back_r21))))
@[simp] def cycle_back_r23 : List VOp :=
  [⟨(some 83), none, .mov (.tmp 13)⟩,
   ⟨(some 11), none, .mov (.tmp 83)⟩]
def cycle_back_l24 : VCode :=
  (.seq (.seq (.reg cycle_back_r4) (.cond (.tmp 36) .skip (.exit 0))) (.block 1 (.seq (.reg cycle_back_r5) (.seq (.seq (.reg cycle_back_r6) (.block 2 (.loop cycle_back_l22))) (.reg cycle_back_r23)))))
@[simp] def cycle_back_r25 : List VOp :=
  [⟨(some 20), none, .nils 8⟩]
@[simp] def cycle_back_r26 : List VOp :=
  [⟨(some 84), none, .mov (.tmp 2)⟩,
   ⟨(some 21), none, .mov (.tmp 84)⟩]
@[simp] def cycle_back_r27 : List VOp :=
  [⟨(some 85), none, .mov (.tmp 12)⟩,
   ⟨(some 86), none, .mov (.tmp 85)⟩,
   ⟨(some 87), (some (86, true)), .mov (.tmp 10)⟩,
   ⟨(some 88), (some (86, true)), .mov (.tmp 21)⟩,
   ⟨(some 89), (some (86, true)), .lkp (false, [.i .i64], false) [.iv (.v (.int .i64 0))] (.tmp 87) (.tmp 88) false⟩,
   ⟨(some 90), (some (86, true)), .bin .geq (.tmp 89) (.const (.int .i64 0))⟩,
   ⟨(some 91), none, .pick (.tmp 86) (.tmp 90) (.const (.bool false))⟩]
@[simp] def cycle_back_r28 : List VOp :=
  [⟨(some 99), none, .mov (.tmp 20)⟩,
   ⟨(some 100), none, .mov (.tmp 0)⟩,
   ⟨(some 101), none, .mov (.tmp 10)⟩,
   ⟨(some 102), none, .mov (.tmp 21)⟩,
   ⟨(some 103), none, .lkp (false, [.i .i64], false) [.iv (.v (.int .i64 0))] (.tmp 101) (.tmp 102) false⟩,
   ⟨(some 104), none, .ia 8 (.tmp 100) (.tmp 103)⟩,
   ⟨(some 105), none, .ld (.tmp 104) (some 8)⟩,
   ⟨(some 106), none, .lit 8 1 [(0, (.tmp 105))]⟩,
   ⟨(some 107), none, .app 8 72 (.tmp 99) (.tmp 106)⟩,
   ⟨(some 20), none, .mov (.tmp 107)⟩]
@[simp] def cycle_back_r29 : List VOp :=
  [⟨(some 92), none, .mov (.tmp 0)⟩,
   ⟨(some 93), none, .mov (.tmp 10)⟩,
   ⟨(some 94), none, .mov (.tmp 21)⟩,
   ⟨(some 95), none, .lkp (false, [.i .i64], false) [.iv (.v (.int .i64 0))] (.tmp 93) (.tmp 94) false⟩,
   ⟨(some 96), none, .ia 8 (.tmp 92) (.tmp 95)⟩,
   ⟨(some 97), none, .fa 0 (.tmp 96)⟩,
   ⟨(some 98), none, .ld (.tmp 97) none⟩,
   ⟨(some 21), none, .mov (.tmp 98)⟩]
def cycle_back_l30 : VCode :=
  (.seq (.seq (.reg cycle_back_r27) (.cond (.tmp 91) .skip (.exit 6))) (.seq (.block 7 (.reg cycle_back_r28)) (.reg cycle_back_r29)))
@[simp] def cycle_back_r31 : List VOp :=
  [⟨(some 108), none, .mov (.tmp 20)⟩,
   ⟨(some 109), none, .call n_slices_Reverse_api_Edge_api_Edge [(.tmp 108)]⟩]
@[simp] def cycle_back_r32 : List VOp :=
  [⟨(some 110), none, .mov (.tmp 20)⟩,
   ⟨(some 111), none, .mov (.tmp 12)⟩,
   ⟨(some 8), none, .mov (.tmp 110)⟩,
   ⟨(some 9), none, .mov (.tmp 111)⟩]
def cycle_back : VCode := (.seq (.reg cycle_back_r0) (.scope (.seq (.reg cycle_back_r1) (.seq (.reg cycle_back_r2) (.seq (.reg cycle_back_r3) (.seq .skip (.seq (.block 0 (.loop cycle_back_l24)) (.seq (.reg cycle_back_r25) (.seq (.seq (.reg cycle_back_r26) (.block 6 (.loop cycle_back_l30))) (.seq (.reg cycle_back_r31) (.seq (.reg cycle_back_r32) .ret)))))))))))
theorem cycle_back_is : fnV prog n_cycle_back = some (112, cycle_back, [.tmp 8, .tmp 9]) := by kernel_rfl

/- ratlineref21_Kinds_Is -/
@[simp] def ratlineref21_Kinds_Is_r0 : List VOp :=
  [⟨(some 2), none, .box (.tmp 0)⟩,
   ⟨(some 3), none, .box (.tmp 1)⟩,
   ⟨(some 4), none, .mov (.const (.bool false))⟩]
@[simp] def ratlineref21_Kinds_Is_r1 : List VOp :=
  [⟨(some 5), none, .fa 2 (.tmp 3)⟩,
   ⟨(some 6), none, .ld (.tmp 5) none⟩,
   ⟨(some 7), none, .bin .lss (.tmp 6) (.const (.int .i64 1))⟩,
   ⟨(some 8), none, .mov (.tmp 7)⟩,
   ⟨(some 9), (some (8, false)), .fa 2 (.tmp 3)⟩,
   ⟨(some 10), (some (8, false)), .ld (.tmp 9) none⟩,
   ⟨(some 11), (some (8, false)), .bin .gtr (.tmp 10) (.const (.int .i64 5))⟩,
   ⟨(some 12), none, .pick (.tmp 8) (.const (.bool true)) (.tmp 11)⟩]
@[simp] def ratlineref21_Kinds_Is_r2 : List VOp :=
  [⟨(some 4), none, .mov (.const (.bool false))⟩]
@[simp] def ratlineref21_Kinds_Is_r3 : List VOp :=
  [⟨(some 13), none, .fa 0 (.tmp 2)⟩,
   ⟨(some 14), none, .ld (.tmp 13) none⟩,
   ⟨(some 15), none, .fa 2 (.tmp 3)⟩,
   ⟨(some 16), none, .ld (.tmp 15) none⟩,
   ⟨(some 17), none, .cvt .u64 (.tmp 16)⟩,
   ⟨(some 18), none, .bin .shr (.tmp 14) (.tmp 17)⟩,
   ⟨(some 19), none, .bin .and (.tmp 18) (.const (.int .i64 1))⟩,
   ⟨(some 20), none, .bin .eql (.tmp 19) (.const (.int .i64 1))⟩,
   ⟨(some 21), none, .mov (.tmp 20)⟩,
   ⟨(some 22), (some (21, true)), .fa 1 (.tmp 2)⟩,
   ⟨(some 23), (some (21, true)), .ld (.tmp 22) none⟩,
   ⟨(some 24), (some (21, true)), .un .not (.tmp 23)⟩,
   ⟨(some 25), (some (21, true)), .mov (.tmp 24)⟩,
   ⟨(some 26), (some (25, false)), .fa 3 (.tmp 3)⟩,
   ⟨(some 27), (some (25, false)), .ld (.tmp 26) none⟩,
   ⟨(some 28), (some (25, false)), .fa 2 (.tmp 2)⟩,
   ⟨(some 29), (some (25, false)), .ld (.tmp 28) none⟩,
   ⟨(some 30), (some (25, false)), .bin .eql (.tmp 27) (.tmp 29)⟩,
   ⟨(some 31), (some (25, false)), .mov (.tmp 30)⟩,
   ⟨(some 32), (some (31, true)), .fa 4 (.tmp 3)⟩,
   ⟨(some 33), (some (31, true)), .ld (.tmp 32) (some 3)⟩,
   ⟨(some 34), (some (31, true)), .fa 3 (.tmp 2)⟩,
   ⟨(some 35), (some (31, true)), .ld (.tmp 34) (some 3)⟩,
   ⟨(some 36), (some (31, true)), .eqs false [.b, .i .i64, .s] (.tmp 33) (.tmp 35)⟩,
   ⟨(some 37), (some (25, false)), .pick (.tmp 31) (.tmp 36) (.const (.bool false))⟩,
   ⟨(some 38), (some (21, true)), .pick (.tmp 25) (.const (.bool true)) (.tmp 37)⟩,
   ⟨(some 39), none, .pick (.tmp 21) (.tmp 38) (.const (.bool false))⟩,
   ⟨(some 40), none, .mov (.tmp 39)⟩,
   ⟨(some 41), (some (40, true)), .fa 6 (.tmp 2)⟩,
   ⟨(some 42), (some (40, true)), .ld (.tmp 41) none⟩,
   ⟨(some 43), (some (40, true)), .un .not (.tmp 42)⟩,
   ⟨(some 44), (some (40, true)), .mov (.tmp 43)⟩,
   ⟨(some 45), (some (44, false)), .fa 7 (.tmp 3)⟩,
   ⟨(some 46), (some (44, false)), .ld (.tmp 45) none⟩,
   ⟨(some 47), (some (40, true)), .pick (.tmp 44) (.const (.bool true)) (.tmp 46)⟩,
   ⟨(some 48), none, .pick (.tmp 40) (.tmp 47) (.const (.bool false))⟩,
   ⟨(some 4), none, .mov (.tmp 48)⟩]
def ratlineref21_Kinds_Is : VCode := (.seq (.reg ratlineref21_Kinds_Is_r0) (.seq (.seq (.reg ratlineref21_Kinds_Is_r1) (.cond (.tmp 12) (.seq (.reg ratlineref21_Kinds_Is_r2) .ret) .skip)) (.seq (.reg ratlineref21_Kinds_Is_r3) .ret)))
theorem ratlineref21_Kinds_Is_is : fnV prog n_ratlineref21_Kinds_Is = some (49, ratlineref21_Kinds_Is, [.tmp 4]) := by kernel_rfl

/- ratlineref21_way -/
@[simp] def ratlineref21_way_r0 : List VOp :=
  [⟨(some 6), none, .box (.tmp 2)⟩,
   ⟨(some 8), none, .nils 8⟩]
@[simp] def ratlineref21_way_r1 : List VOp :=
  [⟨(some 15), none, .mov (.tmp 1)⟩,
   ⟨(some 16), none, .mov (.tmp 1)⟩,
   ⟨(some 17), none, .len (.tmp 16)⟩,
   ⟨(some 18), none, .bin .sub (.tmp 17) (.const (.int .i64 1))⟩,
   ⟨(some 19), none, .ia 8 (.tmp 15) (.tmp 18)⟩,
   ⟨(some 20), none, .ld (.tmp 19) (some 8)⟩,
   ⟨(some 9), none, .alloc [.iv (.v (.int .i64 0)), .iv (.v (.int .i64 0)), .iv (.v (.int .i64 0)), .iv (.v (.int .i64 0)), .iv (.v (.bool false)), .iv (.v (.int .i64 0)), .iv (.v (.string ⟨#[]⟩)), .iv (.v (.bool false))]⟩,
   ⟨none, none, .st (.tmp 9) (.tmp 20) 8⟩]
@[simp] def ratlineref21_way_r2 : List VOp :=
  [⟨(some 21), none, .mov (.tmp 3)⟩,
   ⟨(some 22), none, .bin .eql (.tmp 21) (.const (.int .i64 0))⟩]
@[simp] def ratlineref21_way_t3 : VT :=
  .op ⟨(some 23), none, .fa 1 (.tmp 9)⟩ <|
  .op ⟨(some 24), none, .ld (.tmp 23) none⟩ <|
  .op ⟨(some 25), none, .mov (.tmp 1)⟩ <|
  .op ⟨(some 26), none, .ia 8 (.tmp 25) (.const (.int .i64 0))⟩ <|
  .op ⟨(some 27), none, .fa 0 (.tmp 26)⟩ <|
  .op ⟨(some 28), none, .ld (.tmp 27) none⟩ <|
  .op ⟨(some 29), none, .bin .eql (.tmp 24) (.tmp 28)⟩ <|
  .done
@[simp] def ratlineref21_way_r4 : List VOp :=
  [⟨(some 30), none, .mov (.tmp 1)⟩,
   ⟨(some 8), none, .mov (.tmp 30)⟩]
@[simp] def ratlineref21_way_r5 : List VOp :=
  [⟨(some 8), none, .nils 8⟩]
@[simp] def ratlineref21_way_r6 : List VOp :=
  [⟨(some 10), none, .mov (.const (.int .i64 0))⟩]
@[simp] def ratlineref21_way_r7 : List VOp :=
  [⟨(some 31), none, .mov (.tmp 10)⟩,
   ⟨(some 32), none, .mov (.tmp 0)⟩,
   ⟨(some 33), none, .len (.tmp 32)⟩,
   ⟨(some 34), none, .bin .lss (.tmp 31) (.tmp 33)⟩]
@[simp] def ratlineref21_way_r8 : List VOp :=
  [⟨(some 37), none, .mov (.tmp 0)⟩,
   ⟨(some 38), none, .mov (.tmp 10)⟩,
   ⟨(some 39), none, .ia 8 (.tmp 37) (.tmp 38)⟩,
   ⟨(some 40), none, .ld (.tmp 39) (some 8)⟩,
   ⟨(some 11), none, .alloc [.iv (.v (.int .i64 0)), .iv (.v (.int .i64 0)), .iv (.v (.int .i64 0)), .iv (.v (.int .i64 0)), .iv (.v (.bool false)), .iv (.v (.int .i64 0)), .iv (.v (.string ⟨#[]⟩)), .iv (.v (.bool false))]⟩,
   ⟨none, none, .st (.tmp 11) (.tmp 40) 8⟩]
@[simp] def ratlineref21_way_r9 : List VOp :=
  [⟨(some 41), none, .ld (.tmp 6) (some 7)⟩,
   ⟨(some 42), none, .ld (.tmp 11) (some 8)⟩,
   ⟨(some 43), none, .call n_ratlineref21_Kinds_Is [(.tmp 41), (.tmp 42)]⟩,
   ⟨(some 12), none, .mov (.tmp 43)⟩]
@[simp] def ratlineref21_way_r10 : List VOp :=
  [⟨(some 44), none, .mov (.tmp 12)⟩,
   ⟨(some 45), none, .un .not (.tmp 44)⟩,
   ⟨(some 46), none, .mov (.tmp 45)⟩,
   ⟨(some 47), (some (46, false)), .fa 0 (.tmp 11)⟩,
   ⟨(some 48), (some (46, false)), .ld (.tmp 47) none⟩,
   ⟨(some 49), (some (46, false)), .fa 1 (.tmp 9)⟩,
   ⟨(some 50), (some (46, false)), .ld (.tmp 49) none⟩,
   ⟨(some 51), (some (46, false)), .bin .neq (.tmp 48) (.tmp 50)⟩,
   ⟨(some 52), none, .pick (.tmp 46) (.const (.bool true)) (.tmp 51)⟩,
   ⟨(some 53), none, .mov (.tmp 52)⟩,
   ⟨(some 54), (some (53, false)), .mov (.tmp 1)⟩,
   ⟨(some 55), (some (53, false)), .fa 1 (.tmp 11)⟩,
   ⟨(some 56), (some (53, false)), .ld (.tmp 55) none⟩,
   ⟨(some 57), (some (53, false)), .call n_ratlineref21_met [(.tmp 54), (.tmp 56)]⟩,
   ⟨(some 58), none, .pick (.tmp 53) (.const (.bool true)) (.tmp 57)⟩]
@[simp] def ratlineref21_way_r11 : List VOp :=
  [⟨(some 13), none, .nils 8⟩]
@[simp] def ratlineref21_way_r12 : List VOp :=
  [⟨(some 59), none, .mov (.tmp 13)⟩,
   ⟨(some 60), none, .mov (.tmp 1)⟩,
   ⟨(some 61), none, .app 8 72 (.tmp 59) (.tmp 60)⟩,
   ⟨(some 13), none, .mov (.tmp 61)⟩]
@[simp] def ratlineref21_way_r13 : List VOp :=
  [⟨(some 62), none, .mov (.tmp 13)⟩,
   ⟨(some 63), none, .ld (.tmp 11) (some 8)⟩,
   ⟨(some 64), none, .lit 8 1 [(0, (.tmp 63))]⟩,
   ⟨(some 65), none, .app 8 72 (.tmp 62) (.tmp 64)⟩,
   ⟨(some 13), none, .mov (.tmp 65)⟩]
@[simp] def ratlineref21_way_r14 : List VOp :=
  [⟨(some 66), none, .mov (.tmp 0)⟩,
   ⟨(some 67), none, .mov (.tmp 13)⟩,
   ⟨(some 68), none, .ld (.tmp 6) (some 7)⟩,
   ⟨(some 69), none, .mov (.tmp 3)⟩,
   ⟨(some 70), none, .bin .sub (.tmp 69) (.const (.int .i64 1))⟩,
   ⟨(some 71), none, .call n_ratlineref21_way [(.tmp 66), (.tmp 67), (.tmp 68), (.tmp 70)]⟩,
   ⟨(some 14), none, .mov (.tmp 71)⟩]
@[simp] def ratlineref21_way_r15 : List VOp :=
  [⟨(some 72), none, .mov (.tmp 14)⟩,
   ⟨(some 73), none, .len (.tmp 72)⟩,
   ⟨(some 74), none, .bin .gtr (.tmp 73) (.const (.int .i64 0))⟩]
@[simp] def ratlineref21_way_r16 : List VOp :=
  [⟨(some 75), none, .mov (.tmp 14)⟩,
   ⟨(some 8), none, .mov (.tmp 75)⟩]
@[simp] def ratlineref21_way_r17 : List VOp :=
  [⟨(some 35), none, .mov (.tmp 10)⟩,
   ⟨(some 36), none, .bin .add (.tmp 35) (.const (.int .i64 1))⟩,
   ⟨(some 10), none, .mov (.tmp 36)⟩]
def ratlineref21_way_l18 : VCode :=
  (.seq (.seq (.reg ratlineref21_way_r7) (.cond (.tmp 34) .skip (.exit 0))) (.seq (.block 1 (.seq (.reg ratlineref21_way_r8) (.seq (.reg ratlineref21_way_r9) (.seq (.seq (.reg ratlineref21_way_r10) (.cond (.tmp 58) (.exit 1) .skip)) (.seq (.reg ratlineref21_way_r11) (.seq (.reg ratlineref21_way_r12) (.seq (.reg ratlineref21_way_r13) (.seq (.reg ratlineref21_way_r14) (.seq (.reg ratlineref21_way_r15) (.cond (.tmp 74) (.seq (.reg ratlineref21_way_r16) .ret) .skip)))))))))) (.reg ratlineref21_way_r17)))
@[simp] def ratlineref21_way_r19 : List VOp :=
  [⟨(some 8), none, .nils 8⟩]
def ratlineref21_way : VCode := (.seq (.reg ratlineref21_way_r0) (.seq (.reg ratlineref21_way_r1) (.seq (.seq (.reg ratlineref21_way_r2) (.cond (.tmp 22) (.seq (.seq (.any ratlineref21_way_t3) (.cond (.tmp 29) (.seq (.reg ratlineref21_way_r4) .ret) .skip)) (.seq (.reg ratlineref21_way_r5) .ret)) .skip)) (.seq (.seq (.reg ratlineref21_way_r6) (.block 0 (.loop ratlineref21_way_l18))) (.seq (.reg ratlineref21_way_r19) .ret)))))
theorem ratlineref21_way_is : fnV prog n_ratlineref21_way = some (76, ratlineref21_way, [.tmp 8]) := by kernel_rfl

/- slices_Clone_int_int -/
@[simp] def slices_Clone_int_int_r0 : List VOp :=
  [⟨(some 2), none, .nils 1⟩]
@[simp] def slices_Clone_int_int_r1 : List VOp :=
  [⟨(some 3), none, .mov (.tmp 0)⟩,
   ⟨(some 4), none, .snil false (.tmp 3)⟩]
@[simp] def slices_Clone_int_int_r2 : List VOp :=
  [⟨(some 2), none, .nils 1⟩]
@[simp] def slices_Clone_int_int_r3 : List VOp :=
  [⟨(some 5), none, .lit 1 0 []⟩,
   ⟨(some 6), none, .mov (.tmp 0)⟩,
   ⟨(some 7), none, .app 1 8 (.tmp 5) (.tmp 6)⟩,
   ⟨(some 2), none, .mov (.tmp 7)⟩]
def slices_Clone_int_int : VCode := (.seq (.reg slices_Clone_int_int_r0) (.seq (.seq (.reg slices_Clone_int_int_r1) (.cond (.tmp 4) (.seq (.reg slices_Clone_int_int_r2) .ret) .skip)) (.seq (.reg slices_Clone_int_int_r3) .ret)))
theorem slices_Clone_int_int_is : fnV prog n_slices_Clone_int_int = some (8, slices_Clone_int_int, [.tmp 2]) := by kernel_rfl

/- slices_Contains_int_int -/
@[simp] def slices_Contains_int_int_r0 : List VOp :=
  [⟨(some 4), none, .mov (.const (.bool false))⟩]
@[simp] def slices_Contains_int_int_r1 : List VOp :=
  [⟨(some 5), none, .mov (.tmp 0)⟩,
   ⟨(some 6), none, .mov (.tmp 1)⟩,
   ⟨(some 7), none, .call n_slices_Index_int_int [(.tmp 5), (.tmp 6)]⟩,
   ⟨(some 8), none, .bin .geq (.tmp 7) (.const (.int .i64 0))⟩,
   ⟨(some 4), none, .mov (.tmp 8)⟩]
def slices_Contains_int_int : VCode := (.seq (.reg slices_Contains_int_int_r0) (.seq (.reg slices_Contains_int_int_r1) .ret))
theorem slices_Contains_int_int_is : fnV prog n_slices_Contains_int_int = some (9, slices_Contains_int_int, [.tmp 4]) := by kernel_rfl

/- slices_IndexFunc_int_int -/
@[simp] def slices_IndexFunc_int_int_r0 : List VOp :=
  [⟨(some 4), none, .mov (.const (.int .i64 0))⟩]
@[simp] def slices_IndexFunc_int_int_r1 : List VOp :=
  [⟨(some 6), none, .mov (.tmp 0)⟩,
   ⟨(some 7), none, .len (.tmp 6)⟩,
   ⟨(some 8), none, .mov (.const (.int .i64 0))⟩]
@[simp] def slices_IndexFunc_int_int_r2 : List VOp :=
  [⟨(some 9), none, .bin .lss (.tmp 8) (.tmp 7)⟩]
@[simp] def slices_IndexFunc_int_int_r3 : List VOp :=
  [⟨(some 10), none, .mov (.tmp 8)⟩,
   ⟨(some 5), none, .mov (.tmp 10)⟩]
@[simp] def slices_IndexFunc_int_int_r4 : List VOp :=
  [⟨(some 11), none, .mov (.tmp 1)⟩,
   ⟨(some 12), none, .mov (.tmp 0)⟩,
   ⟨(some 13), none, .mov (.tmp 5)⟩,
   ⟨(some 14), none, .ia 1 (.tmp 12) (.tmp 13)⟩,
   ⟨(some 15), none, .ld (.tmp 14) none⟩,
   ⟨(some 16), none, .callv (.tmp 11) [(.tmp 15)]⟩]
@[simp] def slices_IndexFunc_int_int_r5 : List VOp :=
  [⟨(some 17), none, .mov (.tmp 5)⟩,
   ⟨(some 4), none, .mov (.tmp 17)⟩]
@[simp] def slices_IndexFunc_int_int_r6 : List VOp :=
  [⟨(some 18), none, .bin .add (.tmp 8) (.const (.int .i64 1))⟩,
   ⟨(some 8), none, .mov (.tmp 18)⟩]
def slices_IndexFunc_int_int_l7 : VCode :=
  (.seq (.reg slices_IndexFunc_int_int_r2) (.seq (.cond (.tmp 9) .skip (.exit 0)) (.seq (.block 1 (.seq (.reg slices_IndexFunc_int_int_r3) (.seq (.reg slices_IndexFunc_int_int_r4) (.cond (.tmp 16) (.seq (.reg slices_IndexFunc_int_int_r5) .ret) .skip)))) (.reg slices_IndexFunc_int_int_r6))))
@[simp] def slices_IndexFunc_int_int_r8 : List VOp :=
  [⟨(some 4), none, .mov (.const (.int .i64 (-1)))⟩]
def slices_IndexFunc_int_int : VCode := (.seq (.reg slices_IndexFunc_int_int_r0) (.seq (.seq (.reg slices_IndexFunc_int_int_r1) (.block 0 (.loop slices_IndexFunc_int_int_l7))) (.seq (.reg slices_IndexFunc_int_int_r8) .ret)))
theorem slices_IndexFunc_int_int_is : fnV prog n_slices_IndexFunc_int_int = some (19, slices_IndexFunc_int_int, [.tmp 4]) := by kernel_rfl

/- cycle_Sorted_1 -/
@[simp] def cycle_Sorted_1_r0 : List VOp :=
  [⟨(some 3), none, .mov (.const (.bool false))⟩]
@[simp] def cycle_Sorted_1_r1 : List VOp :=
  [⟨(some 4), none, .ld (.tmp 1) none⟩,
   ⟨(some 5), none, .mov (.tmp 0)⟩,
   ⟨(some 6), none, .lkp (false, [.i .i64], false) [.iv (.v (.int .i64 0))] (.tmp 4) (.tmp 5) false⟩,
   ⟨(some 7), none, .bin .eql (.tmp 6) (.const (.int .i64 0))⟩,
   ⟨(some 3), none, .mov (.tmp 7)⟩]
def cycle_Sorted_1 : VCode := (.seq (.reg cycle_Sorted_1_r0) (.seq (.reg cycle_Sorted_1_r1) .ret))
theorem cycle_Sorted_1_is : fnV prog n_cycle_Sorted_1 = some (8, cycle_Sorted_1, [.tmp 3]) := by kernel_rfl

/- ratlineref21_place -/
@[simp] def ratlineref21_place_r0 : List VOp :=
  [⟨(some 4), none, .mov (.const (.int .i64 0))⟩]
@[simp] def ratlineref21_place_r1 : List VOp :=
  [⟨(some 5), none, .mov (.const (.int .i64 0))⟩]
@[simp] def ratlineref21_place_r2 : List VOp :=
  [⟨(some 6), none, .mov (.tmp 5)⟩,
   ⟨(some 7), none, .mov (.tmp 0)⟩,
   ⟨(some 8), none, .len (.tmp 7)⟩,
   ⟨(some 9), none, .bin .lss (.tmp 6) (.tmp 8)⟩]
@[simp] def ratlineref21_place_r3 : List VOp :=
  [⟨(some 12), none, .mov (.tmp 0)⟩,
   ⟨(some 13), none, .mov (.tmp 5)⟩,
   ⟨(some 14), none, .ia 1 (.tmp 12) (.tmp 13)⟩,
   ⟨(some 15), none, .ld (.tmp 14) none⟩,
   ⟨(some 16), none, .mov (.tmp 1)⟩,
   ⟨(some 17), none, .bin .eql (.tmp 15) (.tmp 16)⟩]
@[simp] def ratlineref21_place_r4 : List VOp :=
  [⟨(some 18), none, .mov (.tmp 5)⟩,
   ⟨(some 4), none, .mov (.tmp 18)⟩]
@[simp] def ratlineref21_place_r5 : List VOp :=
  [⟨(some 10), none, .mov (.tmp 5)⟩,
   ⟨(some 11), none, .bin .add (.tmp 10) (.const (.int .i64 1))⟩,
   ⟨(some 5), none, .mov (.tmp 11)⟩]
def ratlineref21_place_l6 : VCode :=
  (.seq (.seq (.reg ratlineref21_place_r2) (.cond (.tmp 9) .skip (.exit 0))) (.seq (.block 1 (.seq (.reg ratlineref21_place_r3) (.cond (.tmp 17) (.seq (.reg ratlineref21_place_r4) .ret) .skip))) (.reg ratlineref21_place_r5)))
@[simp] def ratlineref21_place_r7 : List VOp :=
  [⟨(some 4), none, .mov (.const (.int .i64 (-1)))⟩]
def ratlineref21_place : VCode := (.seq (.reg ratlineref21_place_r0) (.seq (.seq (.reg ratlineref21_place_r1) (.block 0 (.loop ratlineref21_place_l6))) (.seq (.reg ratlineref21_place_r7) .ret)))
theorem ratlineref21_place_is : fnV prog n_ratlineref21_place = some (19, ratlineref21_place, [.tmp 4]) := by kernel_rfl

/- ratlineref21_met -/
@[simp] def ratlineref21_met_r0 : List VOp :=
  [⟨(some 4), none, .mov (.const (.bool false))⟩]
@[simp] def ratlineref21_met_r1 : List VOp :=
  [⟨(some 5), none, .mov (.const (.int .i64 0))⟩]
@[simp] def ratlineref21_met_r2 : List VOp :=
  [⟨(some 6), none, .mov (.tmp 5)⟩,
   ⟨(some 7), none, .mov (.tmp 0)⟩,
   ⟨(some 8), none, .len (.tmp 7)⟩,
   ⟨(some 9), none, .bin .lss (.tmp 6) (.tmp 8)⟩]
@[simp] def ratlineref21_met_r3 : List VOp :=
  [⟨(some 12), none, .mov (.tmp 0)⟩,
   ⟨(some 13), none, .mov (.tmp 5)⟩,
   ⟨(some 14), none, .ia 8 (.tmp 12) (.tmp 13)⟩,
   ⟨(some 15), none, .fa 1 (.tmp 14)⟩,
   ⟨(some 16), none, .ld (.tmp 15) none⟩,
   ⟨(some 17), none, .mov (.tmp 1)⟩,
   ⟨(some 18), none, .bin .eql (.tmp 16) (.tmp 17)⟩]
@[simp] def ratlineref21_met_r4 : List VOp :=
  [⟨(some 4), none, .mov (.const (.bool true))⟩]
@[simp] def ratlineref21_met_r5 : List VOp :=
  [⟨(some 10), none, .mov (.tmp 5)⟩,
   ⟨(some 11), none, .bin .add (.tmp 10) (.const (.int .i64 1))⟩,
   ⟨(some 5), none, .mov (.tmp 11)⟩]
def ratlineref21_met_l6 : VCode :=
  (.seq (.seq (.reg ratlineref21_met_r2) (.cond (.tmp 9) .skip (.exit 0))) (.seq (.block 1 (.seq (.reg ratlineref21_met_r3) (.cond (.tmp 18) (.seq (.reg ratlineref21_met_r4) .ret) .skip))) (.reg ratlineref21_met_r5)))
@[simp] def ratlineref21_met_r7 : List VOp :=
  [⟨(some 4), none, .mov (.const (.bool false))⟩]
def ratlineref21_met : VCode := (.seq (.reg ratlineref21_met_r0) (.seq (.seq (.reg ratlineref21_met_r1) (.block 0 (.loop ratlineref21_met_l6))) (.seq (.reg ratlineref21_met_r7) .ret)))
theorem ratlineref21_met_is : fnV prog n_ratlineref21_met = some (19, ratlineref21_met, [.tmp 4]) := by kernel_rfl

/- cycle_Respects_1 -/
@[simp] def cycle_Respects_1_r0 : List VOp :=
  [⟨(some 2), none, .box (.tmp 0)⟩,
   ⟨(some 3), none, .mov (.const (.bool false))⟩]
@[simp] def cycle_Respects_1_t1 : VT :=
  .op ⟨(some 6), none, .ld (.tmp 1) none⟩ <|
  .op ⟨(some 7), none, .fa 0 (.tmp 2)⟩ <|
  .op ⟨(some 8), none, .ld (.tmp 7) none⟩ <|
  .op ⟨(some 11), none, .fa 1 (.tmp 2)⟩ <|
  .alt (
   .op ⟨(some 9), none, .call n_slices_Index_int_int [(.tmp 6), (.tmp 8)]⟩ <|
   .op ⟨(some 10), none, .ld (.tmp 1) none⟩ <|
   .op ⟨(some 12), none, .ld (.tmp 11) none⟩ <|
   .op ⟨(some 13), none, .call n_slices_Index_int_int [(.tmp 10), (.tmp 12)]⟩ <|
   .op ⟨(some 4), none, .mov (.tmp 9)⟩ <|
   .op ⟨(some 5), none, .mov (.tmp 13)⟩ <|
   .done) (
   .alt (
    .op ⟨(some 10), none, .ld (.tmp 1) none⟩ <|
    .alt (
     .op ⟨(some 9), none, .call n_slices_Index_int_int [(.tmp 6), (.tmp 8)]⟩ <|
     .op ⟨(some 12), none, .ld (.tmp 11) none⟩ <|
     .op ⟨(some 13), none, .call n_slices_Index_int_int [(.tmp 10), (.tmp 12)]⟩ <|
     .op ⟨(some 4), none, .mov (.tmp 9)⟩ <|
     .op ⟨(some 5), none, .mov (.tmp 13)⟩ <|
     .done) (
     .op ⟨(some 12), none, .ld (.tmp 11) none⟩ <|
     .op ⟨(some 9), none, .call n_slices_Index_int_int [(.tmp 6), (.tmp 8)]⟩ <|
     .op ⟨(some 13), none, .call n_slices_Index_int_int [(.tmp 10), (.tmp 12)]⟩ <|
     .op ⟨(some 4), none, .mov (.tmp 9)⟩ <|
     .op ⟨(some 5), none, .mov (.tmp 13)⟩ <|
     .done)) (
    .op ⟨(some 12), none, .ld (.tmp 11) none⟩ <|
    .alt (
     .op ⟨(some 9), none, .call n_slices_Index_int_int [(.tmp 6), (.tmp 8)]⟩ <|
     .op ⟨(some 10), none, .ld (.tmp 1) none⟩ <|
     .op ⟨(some 13), none, .call n_slices_Index_int_int [(.tmp 10), (.tmp 12)]⟩ <|
     .op ⟨(some 4), none, .mov (.tmp 9)⟩ <|
     .op ⟨(some 5), none, .mov (.tmp 13)⟩ <|
     .done) (
     .op ⟨(some 10), none, .ld (.tmp 1) none⟩ <|
     .op ⟨(some 9), none, .call n_slices_Index_int_int [(.tmp 6), (.tmp 8)]⟩ <|
     .op ⟨(some 13), none, .call n_slices_Index_int_int [(.tmp 10), (.tmp 12)]⟩ <|
     .op ⟨(some 4), none, .mov (.tmp 9)⟩ <|
     .op ⟨(some 5), none, .mov (.tmp 13)⟩ <|
     .done)))
@[simp] def cycle_Respects_1_r2 : List VOp :=
  [⟨(some 14), none, .mov (.tmp 4)⟩,
   ⟨(some 15), none, .bin .lss (.tmp 14) (.const (.int .i64 0))⟩,
   ⟨(some 16), none, .mov (.tmp 15)⟩,
   ⟨(some 17), (some (16, false)), .mov (.tmp 5)⟩,
   ⟨(some 18), (some (16, false)), .bin .lss (.tmp 17) (.const (.int .i64 0))⟩,
   ⟨(some 19), none, .pick (.tmp 16) (.const (.bool true)) (.tmp 18)⟩,
   ⟨(some 20), none, .mov (.tmp 19)⟩,
   ⟨(some 21), (some (20, false)), .mov (.tmp 4)⟩,
   ⟨(some 22), (some (20, false)), .mov (.tmp 5)⟩,
   ⟨(some 23), (some (20, false)), .bin .lss (.tmp 21) (.tmp 22)⟩,
   ⟨(some 24), none, .pick (.tmp 20) (.const (.bool true)) (.tmp 23)⟩,
   ⟨(some 3), none, .mov (.tmp 24)⟩]
def cycle_Respects_1 : VCode := (.seq (.reg cycle_Respects_1_r0) (.seq (.any cycle_Respects_1_t1) (.seq (.reg cycle_Respects_1_r2) .ret)))
theorem cycle_Respects_1_is : fnV prog n_cycle_Respects_1 = some (25, cycle_Respects_1, [.tmp 3]) := by kernel_rfl

/- slices_Index_int_int -/
@[simp] def slices_Index_int_int_r0 : List VOp :=
  [⟨(some 4), none, .mov (.const (.int .i64 0))⟩]
@[simp] def slices_Index_int_int_r1 : List VOp :=
  [⟨(some 6), none, .mov (.tmp 0)⟩,
   ⟨(some 7), none, .len (.tmp 6)⟩,
   ⟨(some 8), none, .mov (.const (.int .i64 0))⟩]
@[simp] def slices_Index_int_int_r2 : List VOp :=
  [⟨(some 9), none, .bin .lss (.tmp 8) (.tmp 7)⟩]
@[simp] def slices_Index_int_int_r3 : List VOp :=
  [⟨(some 10), none, .mov (.tmp 8)⟩,
   ⟨(some 5), none, .mov (.tmp 10)⟩]
@[simp] def slices_Index_int_int_r4 : List VOp :=
  [⟨(some 11), none, .mov (.tmp 1)⟩,
   ⟨(some 12), none, .mov (.tmp 0)⟩,
   ⟨(some 13), none, .mov (.tmp 5)⟩,
   ⟨(some 14), none, .ia 1 (.tmp 12) (.tmp 13)⟩,
   ⟨(some 15), none, .ld (.tmp 14) none⟩,
   ⟨(some 16), none, .bin .eql (.tmp 11) (.tmp 15)⟩]
@[simp] def slices_Index_int_int_r5 : List VOp :=
  [⟨(some 17), none, .mov (.tmp 5)⟩,
   ⟨(some 4), none, .mov (.tmp 17)⟩]
@[simp] def slices_Index_int_int_r6 : List VOp :=
  [⟨(some 18), none, .bin .add (.tmp 8) (.const (.int .i64 1))⟩,
   ⟨(some 8), none, .mov (.tmp 18)⟩]
def slices_Index_int_int_l7 : VCode :=
  (.seq (.reg slices_Index_int_int_r2) (.seq (.cond (.tmp 9) .skip (.exit 0)) (.seq (.block 1 (.seq (.reg slices_Index_int_int_r3) (.seq (.reg slices_Index_int_int_r4) (.cond (.tmp 16) (.seq (.reg slices_Index_int_int_r5) .ret) .skip)))) (.reg slices_Index_int_int_r6))))
@[simp] def slices_Index_int_int_r8 : List VOp :=
  [⟨(some 4), none, .mov (.const (.int .i64 (-1)))⟩]
def slices_Index_int_int : VCode := (.seq (.reg slices_Index_int_int_r0) (.seq (.seq (.reg slices_Index_int_int_r1) (.block 0 (.loop slices_Index_int_int_l7))) (.seq (.reg slices_Index_int_int_r8) .ret)))
theorem slices_Index_int_int_is : fnV prog n_slices_Index_int_int = some (19, slices_Index_int_int, [.tmp 4]) := by kernel_rfl

/- slices_ContainsFunc_api_Edge_api_Edge -/
@[simp] def slices_ContainsFunc_api_Edge_api_Edge_r0 : List VOp :=
  [⟨(some 4), none, .mov (.const (.bool false))⟩]
@[simp] def slices_ContainsFunc_api_Edge_api_Edge_r1 : List VOp :=
  [⟨(some 5), none, .mov (.tmp 0)⟩,
   ⟨(some 6), none, .mov (.tmp 1)⟩,
   ⟨(some 7), none, .call n_slices_IndexFunc_api_Edge_api_Edge [(.tmp 5), (.tmp 6)]⟩,
   ⟨(some 8), none, .bin .geq (.tmp 7) (.const (.int .i64 0))⟩,
   ⟨(some 4), none, .mov (.tmp 8)⟩]
def slices_ContainsFunc_api_Edge_api_Edge : VCode := (.seq (.reg slices_ContainsFunc_api_Edge_api_Edge_r0) (.seq (.reg slices_ContainsFunc_api_Edge_api_Edge_r1) .ret))
theorem slices_ContainsFunc_api_Edge_api_Edge_is : fnV prog n_slices_ContainsFunc_api_Edge_api_Edge = some (9, slices_ContainsFunc_api_Edge_api_Edge, [.tmp 4]) := by kernel_rfl

/- cycle_Respects_2 -/
@[simp] def cycle_Respects_2_r0 : List VOp :=
  [⟨(some 2), none, .box (.tmp 0)⟩,
   ⟨(some 3), none, .mov (.const (.bool false))⟩]
@[simp] def cycle_Respects_2_r1 : List VOp :=
  [⟨(some 4), none, .ld (.tmp 1) none⟩,
   ⟨(some 5), none, .ld (.tmp 2) (some 8)⟩,
   ⟨(some 6), none, .callv (.tmp 4) [(.tmp 5)]⟩,
   ⟨(some 7), none, .un .not (.tmp 6)⟩,
   ⟨(some 3), none, .mov (.tmp 7)⟩]
def cycle_Respects_2 : VCode := (.seq (.reg cycle_Respects_2_r0) (.seq (.reg cycle_Respects_2_r1) .ret))
theorem cycle_Respects_2_is : fnV prog n_cycle_Respects_2 = some (8, cycle_Respects_2, [.tmp 3]) := by kernel_rfl

/- cycle_of_1 -/
@[simp] def cycle_of_1_r0 : List VOp :=
  [⟨(some 2), none, .box (.tmp 0)⟩,
   ⟨(some 3), none, .mov (.const (.bool false))⟩]
@[simp] def cycle_of_1_r1 : List VOp :=
  [⟨(some 4), none, .ld (.tmp 1) none⟩,
   ⟨(some 5), none, .fa 2 (.tmp 2)⟩,
   ⟨(some 6), none, .ld (.tmp 5) none⟩,
   ⟨(some 7), none, .call n_slices_Contains_int_int [(.tmp 4), (.tmp 6)]⟩,
   ⟨(some 3), none, .mov (.tmp 7)⟩]
def cycle_of_1 : VCode := (.seq (.reg cycle_of_1_r0) (.seq (.reg cycle_of_1_r1) .ret))
theorem cycle_of_1_is : fnV prog n_cycle_of_1 = some (8, cycle_of_1, [.tmp 3]) := by kernel_rfl

/- slices_Reverse_api_Edge_api_Edge -/
@[simp] def slices_Reverse_api_Edge_api_Edge_r0 : List VOp :=
  [⟨(some 4), none, .mov (.tmp 0)⟩,
   ⟨(some 5), none, .len (.tmp 4)⟩,
   ⟨(some 6), none, .bin .sub (.tmp 5) (.const (.int .i64 1))⟩,
   ⟨(some 2), none, .mov (.const (.int .i64 0))⟩,
   ⟨(some 3), none, .mov (.tmp 6)⟩]
@[simp] def slices_Reverse_api_Edge_api_Edge_r1 : List VOp :=
  [⟨(some 7), none, .mov (.tmp 2)⟩,
   ⟨(some 8), none, .mov (.tmp 3)⟩,
   ⟨(some 9), none, .bin .lss (.tmp 7) (.tmp 8)⟩]
@[simp] def slices_Reverse_api_Edge_api_Edge_t2 : VT :=
  .op ⟨(some 14), none, .mov (.tmp 0)⟩ <|
  .op ⟨(some 15), none, .mov (.tmp 2)⟩ <|
  .op ⟨(some 16), none, .mov (.tmp 0)⟩ <|
  .op ⟨(some 17), none, .mov (.tmp 3)⟩ <|
  .op ⟨(some 18), none, .mov (.tmp 0)⟩ <|
  .op ⟨(some 19), none, .mov (.tmp 3)⟩ <|
  .op ⟨(some 20), none, .ia 8 (.tmp 18) (.tmp 19)⟩ <|
  .op ⟨(some 21), none, .ld (.tmp 20) (some 8)⟩ <|
  .op ⟨(some 22), none, .mov (.tmp 0)⟩ <|
  .op ⟨(some 23), none, .mov (.tmp 2)⟩ <|
  .op ⟨(some 24), none, .ia 8 (.tmp 22) (.tmp 23)⟩ <|
  .op ⟨(some 25), none, .ld (.tmp 24) (some 8)⟩ <|
  .op ⟨(some 26), none, .ia 8 (.tmp 14) (.tmp 15)⟩ <|
  .op ⟨none, none, .st (.tmp 26) (.tmp 21) 8⟩ <|
  .op ⟨(some 27), none, .ia 8 (.tmp 16) (.tmp 17)⟩ <|
  .op ⟨none, none, .st (.tmp 27) (.tmp 25) 8⟩ <|
  .done
@[simp] def slices_Reverse_api_Edge_api_Edge_r3 : List VOp :=
  [⟨(some 10), none, .mov (.tmp 2)⟩,
   ⟨(some 11), none, .bin .add (.tmp 10) (.const (.int .i64 1))⟩,
   ⟨(some 12), none, .mov (.tmp 3)⟩,
   ⟨(some 13), none, .bin .sub (.tmp 12) (.const (.int .i64 1))⟩,
   ⟨(some 2), none, .mov (.tmp 11)⟩,
   ⟨(some 3), none, .mov (.tmp 13)⟩]
def slices_Reverse_api_Edge_api_Edge_l4 : VCode :=
  (.seq (.seq (.reg slices_Reverse_api_Edge_api_Edge_r1) (.cond (.tmp 9) .skip (.exit 0))) (.seq (.block 1 (.any slices_Reverse_api_Edge_api_Edge_t2)) (.reg slices_Reverse_api_Edge_api_Edge_r3)))
def slices_Reverse_api_Edge_api_Edge : VCode := (.seq (.reg slices_Reverse_api_Edge_api_Edge_r0) (.block 0 (.loop slices_Reverse_api_Edge_api_Edge_l4)))
theorem slices_Reverse_api_Edge_api_Edge_is : fnV prog n_slices_Reverse_api_Edge_api_Edge = some (28, slices_Reverse_api_Edge_api_Edge, []) := by kernel_rfl

/- slices_IndexFunc_api_Edge_api_Edge -/
@[simp] def slices_IndexFunc_api_Edge_api_Edge_r0 : List VOp :=
  [⟨(some 4), none, .mov (.const (.int .i64 0))⟩]
@[simp] def slices_IndexFunc_api_Edge_api_Edge_r1 : List VOp :=
  [⟨(some 6), none, .mov (.tmp 0)⟩,
   ⟨(some 7), none, .len (.tmp 6)⟩,
   ⟨(some 8), none, .mov (.const (.int .i64 0))⟩]
@[simp] def slices_IndexFunc_api_Edge_api_Edge_r2 : List VOp :=
  [⟨(some 9), none, .bin .lss (.tmp 8) (.tmp 7)⟩]
@[simp] def slices_IndexFunc_api_Edge_api_Edge_r3 : List VOp :=
  [⟨(some 10), none, .mov (.tmp 8)⟩,
   ⟨(some 5), none, .mov (.tmp 10)⟩]
@[simp] def slices_IndexFunc_api_Edge_api_Edge_r4 : List VOp :=
  [⟨(some 11), none, .mov (.tmp 1)⟩,
   ⟨(some 12), none, .mov (.tmp 0)⟩,
   ⟨(some 13), none, .mov (.tmp 5)⟩,
   ⟨(some 14), none, .ia 8 (.tmp 12) (.tmp 13)⟩,
   ⟨(some 15), none, .ld (.tmp 14) (some 8)⟩,
   ⟨(some 16), none, .callv (.tmp 11) [(.tmp 15)]⟩]
@[simp] def slices_IndexFunc_api_Edge_api_Edge_r5 : List VOp :=
  [⟨(some 17), none, .mov (.tmp 5)⟩,
   ⟨(some 4), none, .mov (.tmp 17)⟩]
@[simp] def slices_IndexFunc_api_Edge_api_Edge_r6 : List VOp :=
  [⟨(some 18), none, .bin .add (.tmp 8) (.const (.int .i64 1))⟩,
   ⟨(some 8), none, .mov (.tmp 18)⟩]
def slices_IndexFunc_api_Edge_api_Edge_l7 : VCode :=
  (.seq (.reg slices_IndexFunc_api_Edge_api_Edge_r2) (.seq (.cond (.tmp 9) .skip (.exit 0)) (.seq (.block 1 (.seq (.reg slices_IndexFunc_api_Edge_api_Edge_r3) (.seq (.reg slices_IndexFunc_api_Edge_api_Edge_r4) (.cond (.tmp 16) (.seq (.reg slices_IndexFunc_api_Edge_api_Edge_r5) .ret) .skip)))) (.reg slices_IndexFunc_api_Edge_api_Edge_r6))))
@[simp] def slices_IndexFunc_api_Edge_api_Edge_r8 : List VOp :=
  [⟨(some 4), none, .mov (.const (.int .i64 (-1)))⟩]
def slices_IndexFunc_api_Edge_api_Edge : VCode := (.seq (.reg slices_IndexFunc_api_Edge_api_Edge_r0) (.seq (.seq (.reg slices_IndexFunc_api_Edge_api_Edge_r1) (.block 0 (.loop slices_IndexFunc_api_Edge_api_Edge_l7))) (.seq (.reg slices_IndexFunc_api_Edge_api_Edge_r8) .ret)))
theorem slices_IndexFunc_api_Edge_api_Edge_is : fnV prog n_slices_IndexFunc_api_Edge_api_Edge = some (19, slices_IndexFunc_api_Edge_api_Edge, [.tmp 4]) := by kernel_rfl

end Go.Rt
end
