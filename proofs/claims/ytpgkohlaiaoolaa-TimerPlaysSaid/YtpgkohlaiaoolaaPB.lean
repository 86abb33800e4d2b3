/- Functions of the program as the abstract machine has them. Conditions: none. -/
import Derived.Test.YtpgkohlaiaoolaaMD
import Derived.Test.YtpgkohlaiaoolaaProg

set_option linter.unusedVariables false
set_option linter.unusedSimpArgs false

/- The numbers of the functions. -/
section
namespace Go.Rt
@[reducible] noncomputable def prog : Program := Go.Proofs.Try.prog
@[reducible] def n_ratlinelaw13_TimerPlays : FuncId := 3
@[reducible] def n_ratlinelaw13_TimerDue : FuncId := 4
@[reducible] def n_ratlinelaw13_TimerNone : FuncId := 5
@[reducible] def n_ratlinelaw13_TimerApart : FuncId := 6
@[reducible] def n_ratlinelaw13_TimerOrders : FuncId := 7
@[reducible] def n_ratlinelaw13_awake : FuncId := 8
@[reducible] def n_timer_New : FuncId := 9
@[reducible] def n_timer_Timer_Pass : FuncId := 10
@[reducible] def n_ratlineref13_Timer_Pass : FuncId := 11
@[reducible] def n_timer_Timer_Start : FuncId := 12
@[reducible] def n_ratlineref13_Timer_Start : FuncId := 13
@[reducible] def n_timer_Timer_Stop : FuncId := 14
@[reducible] def n_ratlineref13_Timer_Stop : FuncId := 15
@[reducible] def n_timer_Timer_Since : FuncId := 16
@[reducible] def n_ratlineref13_Timer_Since : FuncId := 17
@[reducible] def n_timer_Timer_Now : FuncId := 18
@[reducible] def n_ratlineref10_Ints : FuncId := 19
@[reducible] def n_timer_Timer_Due : FuncId := 20
@[reducible] def n_ratlineref13_Timer_Due : FuncId := 21
@[reducible] def n_timer_Timer_waiting : FuncId := 22
@[reducible] def n_timer_Timer_waiting_1 : FuncId := 23
@[reducible] def n_slices_Sorted_int : FuncId := 24
@[reducible] def n_maps_Keys_map_int_int_int_int : FuncId := 25
@[reducible] def n_slices_Collect_int : FuncId := 26
@[reducible] def n_slices_Sort_int_int : FuncId := 27
@[reducible] def n_maps_Keys_map_int_int_int_int_1 : FuncId := 28
@[reducible] def n_slices_AppendSeq_int_int : FuncId := 29
@[reducible] def n_slices_pdqsortOrdered_int : FuncId := 30
@[reducible] def n_math_bits_Len : FuncId := 31
@[reducible] def n_slices_insertionSortOrdered_int : FuncId := 32
@[reducible] def n_slices_heapSortOrdered_int : FuncId := 33
@[reducible] def n_slices_breakPatternsOrdered_int : FuncId := 34
@[reducible] def n_slices_choosePivotOrdered_int : FuncId := 35
@[reducible] def n_slices_reverseRangeOrdered_int : FuncId := 36
@[reducible] def n_slices_partialInsertionSortOrdered_int : FuncId := 37
@[reducible] def n_cmp_Less_int : FuncId := 38
@[reducible] def n_slices_partitionEqualOrdered_int : FuncId := 39
@[reducible] def n_slices_partitionOrdered_int : FuncId := 40
@[reducible] def n_math_bits_Len32 : FuncId := 41
@[reducible] def n_math_bits_Len64 : FuncId := 42
@[reducible] def n_slices_siftDownOrdered_int : FuncId := 43
@[reducible] def n_slices_nextPowerOfTwo : FuncId := 44
@[reducible] def n_slices_xorshift_Next : FuncId := 45
@[reducible] def n_slices_medianAdjacentOrdered_int : FuncId := 46
@[reducible] def n_slices_medianOrdered_int : FuncId := 47
@[reducible] def n_cmp_isNaN_int : FuncId := 48
@[reducible] def n_slices_order2Ordered_int : FuncId := 49
end Go.Rt
end

/- Functions as the abstract machine has them (printed by GenV.lean). -/
section
namespace Go.Rt
open Go.Vm
/- ratlinelaw13_TimerPlays -/
@[simp] def ratlinelaw13_TimerPlays_r0 : List VOp :=
  [⟨(some 4), none, .mov (.const (.bool false))⟩]
@[simp] def ratlinelaw13_TimerPlays_r1 : List VOp :=
  [⟨(some 14), none, .call n_ratlinelaw13_awake []⟩,
   ⟨(some 5), none, .mov (.tmp 14)⟩]
@[simp] def ratlinelaw13_TimerPlays_r2 : List VOp :=
  [⟨(some 15), none, .mov (.tmp 5)⟩,
   ⟨(some 16), none, .un .not (.tmp 15)⟩]
@[simp] def ratlinelaw13_TimerPlays_r3 : List VOp :=
  [⟨(some 4), none, .mov (.const (.bool false))⟩]
@[simp] def ratlinelaw13_TimerPlays_r4 : List VOp :=
  [⟨(some 17), none, .call n_timer_New []⟩,
   ⟨(some 6), none, .mov (.tmp 17)⟩]
@[simp] def ratlinelaw13_TimerPlays_r5 : List VOp :=
  [⟨(some 7), none, .alloc [.iv (.v (.int .i64 0)), .nil 2]⟩]
@[simp] def ratlinelaw13_TimerPlays_r6 : List VOp :=
  [⟨(some 8), none, .mov (.const (.int .i64 0))⟩]
@[simp] def ratlinelaw13_TimerPlays_r7 : List VOp :=
  [⟨(some 18), none, .mov (.tmp 8)⟩,
   ⟨(some 19), none, .mov (.tmp 0)⟩,
   ⟨(some 20), none, .len (.tmp 19)⟩,
   ⟨(some 21), none, .bin .lss (.tmp 18) (.tmp 20)⟩,
   ⟨(some 22), none, .mov (.tmp 21)⟩,
   ⟨(some 23), (some (22, true)), .mov (.tmp 8)⟩,
   ⟨(some 24), (some (22, true)), .bin .lss (.tmp 23) (.const (.int .i64 100))⟩,
   ⟨(some 25), none, .pick (.tmp 22) (.tmp 24) (.const (.bool false))⟩]
@[simp] def ratlinelaw13_TimerPlays_r8 : List VOp :=
  [⟨(some 28), none, .mov (.tmp 0)⟩,
   ⟨(some 29), none, .mov (.tmp 8)⟩,
   ⟨(some 30), none, .ia 3 (.tmp 28) (.tmp 29)⟩,
   ⟨(some 31), none, .ld (.tmp 30) (some 3)⟩,
   ⟨(some 9), none, .alloc [.iv (.v (.int .i64 0)), .iv (.v (.int .i64 0)), .iv (.v (.int .i64 0))]⟩,
   ⟨none, none, .st (.tmp 9) (.tmp 31) 3⟩]
@[simp] def ratlinelaw13_TimerPlays_r9 : List VOp :=
  [⟨(some 32), none, .fa 0 (.tmp 9)⟩,
   ⟨(some 33), none, .ld (.tmp 32) none⟩,
   ⟨(some 34), none, .bin .and (.tmp 33) (.const (.int .i64 3))⟩]
@[simp] def ratlinelaw13_TimerPlays_r10 : List VOp :=
  [⟨(some 44), none, .bin .eql (.tmp 34) (.const (.int .i64 0))⟩,
   ⟨(some 43), none, .mov (.tmp 44)⟩]
@[simp] def ratlinelaw13_TimerPlays_r11 : List VOp :=
  [⟨(some 45), none, .mov (.tmp 6)⟩,
   ⟨(some 46), none, .fa 2 (.tmp 9)⟩,
   ⟨(some 47), none, .ld (.tmp 46) none⟩,
   ⟨(some 48), none, .call n_timer_Timer_Pass [(.tmp 45), (.tmp 47)]⟩]
@[simp] def ratlinelaw13_TimerPlays_r12 : List VOp :=
  [⟨(some 49), none, .ld (.tmp 7) (some 2)⟩,
   ⟨(some 50), none, .fa 2 (.tmp 9)⟩,
   ⟨(some 51), none, .ld (.tmp 50) none⟩,
   ⟨(some 52), none, .call n_ratlineref13_Timer_Pass [(.tmp 49), (.tmp 51)]⟩,
   ⟨none, none, .st (.tmp 7) (.tmp 52) 2⟩]
@[simp] def ratlinelaw13_TimerPlays_r13 : List VOp :=
  [⟨(some 54), none, .bin .eql (.tmp 34) (.const (.int .i64 1))⟩,
   ⟨(some 53), none, .mov (.tmp 54)⟩]
@[simp] def ratlinelaw13_TimerPlays_r14 : List VOp :=
  [⟨(some 55), none, .bin .eql (.tmp 34) (.const (.int .i64 2))⟩,
   ⟨(some 53), none, .mov (.tmp 55)⟩]
@[simp] def ratlinelaw13_TimerPlays_r15 : List VOp :=
  [⟨(some 56), none, .mov (.tmp 6)⟩,
   ⟨(some 57), none, .fa 1 (.tmp 9)⟩,
   ⟨(some 58), none, .ld (.tmp 57) none⟩,
   ⟨(some 59), none, .call n_timer_Timer_Start [(.tmp 56), (.tmp 58)]⟩]
@[simp] def ratlinelaw13_TimerPlays_r16 : List VOp :=
  [⟨(some 60), none, .ld (.tmp 7) (some 2)⟩,
   ⟨(some 61), none, .fa 1 (.tmp 9)⟩,
   ⟨(some 62), none, .ld (.tmp 61) none⟩,
   ⟨(some 63), none, .call n_ratlineref13_Timer_Start [(.tmp 60), (.tmp 62)]⟩,
   ⟨none, none, .st (.tmp 7) (.tmp 63) 2⟩]
@[simp] def ratlinelaw13_TimerPlays_r17 : List VOp :=
  [⟨(some 35), none, .mov (.tmp 6)⟩,
   ⟨(some 36), none, .fa 1 (.tmp 9)⟩,
   ⟨(some 37), none, .ld (.tmp 36) none⟩,
   ⟨(some 38), none, .call n_timer_Timer_Stop [(.tmp 35), (.tmp 37)]⟩]
@[simp] def ratlinelaw13_TimerPlays_r18 : List VOp :=
  [⟨(some 39), none, .ld (.tmp 7) (some 2)⟩,
   ⟨(some 40), none, .fa 1 (.tmp 9)⟩,
   ⟨(some 41), none, .ld (.tmp 40) none⟩,
   ⟨(some 42), none, .call n_ratlineref13_Timer_Stop [(.tmp 39), (.tmp 41)]⟩,
   ⟨none, none, .st (.tmp 7) (.tmp 42) 2⟩]
@[simp] def ratlinelaw13_TimerPlays_r19 : List VOp :=
  [⟨(some 65), none, .mov (.tmp 6)⟩,
   ⟨(some 66), none, .fa 1 (.tmp 9)⟩,
   ⟨(some 67), none, .ld (.tmp 66) none⟩,
   ⟨(some 68), none, .call n_timer_Timer_Since [(.tmp 65), (.tmp 67)]⟩,
   ⟨(some 64), none, .mov (.tmp 68)⟩,
   ⟨(some 69), none, .ext 0 (.tmp 64)⟩,
   ⟨(some 70), none, .ext 1 (.tmp 64)⟩,
   ⟨(some 10), none, .mov (.tmp 69)⟩,
   ⟨(some 11), none, .mov (.tmp 70)⟩]
@[simp] def ratlinelaw13_TimerPlays_r20 : List VOp :=
  [⟨(some 72), none, .ld (.tmp 7) (some 2)⟩,
   ⟨(some 73), none, .fa 1 (.tmp 9)⟩,
   ⟨(some 74), none, .ld (.tmp 73) none⟩,
   ⟨(some 75), none, .call n_ratlineref13_Timer_Since [(.tmp 72), (.tmp 74)]⟩,
   ⟨(some 71), none, .mov (.tmp 75)⟩,
   ⟨(some 76), none, .ext 0 (.tmp 71)⟩,
   ⟨(some 77), none, .ext 1 (.tmp 71)⟩,
   ⟨(some 12), none, .mov (.tmp 76)⟩,
   ⟨(some 13), none, .mov (.tmp 77)⟩]
@[simp] def ratlinelaw13_TimerPlays_t21 : VT :=
  .op ⟨(some 78), none, .mov (.tmp 6)⟩ <|
  .op ⟨(some 80), none, .fa 0 (.tmp 7)⟩ <|
  .alt (
   .op ⟨(some 79), none, .call n_timer_Timer_Now [(.tmp 78)]⟩ <|
   .op ⟨(some 81), none, .ld (.tmp 80) none⟩ <|
   .op ⟨(some 82), none, .bin .neq (.tmp 79) (.tmp 81)⟩ <|
   .op ⟨(some 83), none, .mov (.tmp 82)⟩ <|
   .op ⟨(some 84), (some (83, false)), .mov (.tmp 10)⟩ <|
   .op ⟨(some 85), (some (83, false)), .mov (.tmp 12)⟩ <|
   .op ⟨(some 86), (some (83, false)), .bin .neq (.tmp 84) (.tmp 85)⟩ <|
   .op ⟨(some 87), none, .pick (.tmp 83) (.const (.bool true)) (.tmp 86)⟩ <|
   .op ⟨(some 88), none, .mov (.tmp 87)⟩ <|
   .op ⟨(some 89), (some (88, false)), .mov (.tmp 11)⟩ <|
   .op ⟨(some 90), (some (88, false)), .mov (.tmp 13)⟩ <|
   .op ⟨(some 91), (some (88, false)), .beq true (.tmp 89) (.tmp 90)⟩ <|
   .op ⟨(some 92), none, .pick (.tmp 88) (.const (.bool true)) (.tmp 91)⟩ <|
   .op ⟨(some 93), none, .mov (.tmp 92)⟩ <|
   .op ⟨(some 94), (some (93, false)), .mov (.tmp 6)⟩ <|
   .op ⟨(some 95), (some (93, false)), .mov (.tmp 1)⟩ <|
   .op ⟨(some 98), (some (93, false)), .mov (.tmp 1)⟩ <|
   .alt (
    .op ⟨(some 96), (some (93, false)), .call n_timer_Timer_Due [(.tmp 94), (.tmp 95)]⟩ <|
    .op ⟨(some 97), (some (93, false)), .ld (.tmp 7) (some 2)⟩ <|
    .op ⟨(some 99), (some (93, false)), .call n_ratlineref13_Timer_Due [(.tmp 97), (.tmp 98)]⟩ <|
    .op ⟨(some 100), (some (93, false)), .call n_ratlineref10_Ints [(.tmp 96), (.tmp 99)]⟩ <|
    .op ⟨(some 101), (some (93, false)), .un .not (.tmp 100)⟩ <|
    .op ⟨(some 102), none, .pick (.tmp 93) (.const (.bool true)) (.tmp 101)⟩ <|
    .op ⟨(some 103), none, .mov (.tmp 102)⟩ <|
    .op ⟨(some 104), (some (103, false)), .mov (.tmp 6)⟩ <|
    .alt (
     .op ⟨(some 105), (some (103, false)), .call n_timer_Timer_Due [(.tmp 104), (.const (.int .i64 0))]⟩ <|
     .op ⟨(some 106), (some (103, false)), .ld (.tmp 7) (some 2)⟩ <|
     .op ⟨(some 107), (some (103, false)), .call n_ratlineref13_Timer_Due [(.tmp 106), (.const (.int .i64 0))]⟩ <|
     .op ⟨(some 108), (some (103, false)), .call n_ratlineref10_Ints [(.tmp 105), (.tmp 107)]⟩ <|
     .op ⟨(some 109), (some (103, false)), .un .not (.tmp 108)⟩ <|
     .op ⟨(some 110), none, .pick (.tmp 103) (.const (.bool true)) (.tmp 109)⟩ <|
     .done) (
     .op ⟨(some 106), (some (103, false)), .ld (.tmp 7) (some 2)⟩ <|
     .op ⟨(some 105), (some (103, false)), .call n_timer_Timer_Due [(.tmp 104), (.const (.int .i64 0))]⟩ <|
     .op ⟨(some 107), (some (103, false)), .call n_ratlineref13_Timer_Due [(.tmp 106), (.const (.int .i64 0))]⟩ <|
     .op ⟨(some 108), (some (103, false)), .call n_ratlineref10_Ints [(.tmp 105), (.tmp 107)]⟩ <|
     .op ⟨(some 109), (some (103, false)), .un .not (.tmp 108)⟩ <|
     .op ⟨(some 110), none, .pick (.tmp 103) (.const (.bool true)) (.tmp 109)⟩ <|
     .done)) (
    .op ⟨(some 97), (some (93, false)), .ld (.tmp 7) (some 2)⟩ <|
    .op ⟨(some 96), (some (93, false)), .call n_timer_Timer_Due [(.tmp 94), (.tmp 95)]⟩ <|
    .op ⟨(some 99), (some (93, false)), .call n_ratlineref13_Timer_Due [(.tmp 97), (.tmp 98)]⟩ <|
    .op ⟨(some 100), (some (93, false)), .call n_ratlineref10_Ints [(.tmp 96), (.tmp 99)]⟩ <|
    .op ⟨(some 101), (some (93, false)), .un .not (.tmp 100)⟩ <|
    .op ⟨(some 102), none, .pick (.tmp 93) (.const (.bool true)) (.tmp 101)⟩ <|
    .op ⟨(some 103), none, .mov (.tmp 102)⟩ <|
    .op ⟨(some 104), (some (103, false)), .mov (.tmp 6)⟩ <|
    .alt (
     .op ⟨(some 105), (some (103, false)), .call n_timer_Timer_Due [(.tmp 104), (.const (.int .i64 0))]⟩ <|
     .op ⟨(some 106), (some (103, false)), .ld (.tmp 7) (some 2)⟩ <|
     .op ⟨(some 107), (some (103, false)), .call n_ratlineref13_Timer_Due [(.tmp 106), (.const (.int .i64 0))]⟩ <|
     .op ⟨(some 108), (some (103, false)), .call n_ratlineref10_Ints [(.tmp 105), (.tmp 107)]⟩ <|
     .op ⟨(some 109), (some (103, false)), .un .not (.tmp 108)⟩ <|
     .op ⟨(some 110), none, .pick (.tmp 103) (.const (.bool true)) (.tmp 109)⟩ <|
     .done) (
     .op ⟨(some 106), (some (103, false)), .ld (.tmp 7) (some 2)⟩ <|
     .op ⟨(some 105), (some (103, false)), .call n_timer_Timer_Due [(.tmp 104), (.const (.int .i64 0))]⟩ <|
     .op ⟨(some 107), (some (103, false)), .call n_ratlineref13_Timer_Due [(.tmp 106), (.const (.int .i64 0))]⟩ <|
     .op ⟨(some 108), (some (103, false)), .call n_ratlineref10_Ints [(.tmp 105), (.tmp 107)]⟩ <|
     .op ⟨(some 109), (some (103, false)), .un .not (.tmp 108)⟩ <|
     .op ⟨(some 110), none, .pick (.tmp 103) (.const (.bool true)) (.tmp 109)⟩ <|
     .done))) (
   .op ⟨(some 81), none, .ld (.tmp 80) none⟩ <|
   .op ⟨(some 79), none, .call n_timer_Timer_Now [(.tmp 78)]⟩ <|
   .op ⟨(some 82), none, .bin .neq (.tmp 79) (.tmp 81)⟩ <|
   .op ⟨(some 83), none, .mov (.tmp 82)⟩ <|
   .op ⟨(some 84), (some (83, false)), .mov (.tmp 10)⟩ <|
   .op ⟨(some 85), (some (83, false)), .mov (.tmp 12)⟩ <|
   .op ⟨(some 86), (some (83, false)), .bin .neq (.tmp 84) (.tmp 85)⟩ <|
   .op ⟨(some 87), none, .pick (.tmp 83) (.const (.bool true)) (.tmp 86)⟩ <|
   .op ⟨(some 88), none, .mov (.tmp 87)⟩ <|
   .op ⟨(some 89), (some (88, false)), .mov (.tmp 11)⟩ <|
   .op ⟨(some 90), (some (88, false)), .mov (.tmp 13)⟩ <|
   .op ⟨(some 91), (some (88, false)), .beq true (.tmp 89) (.tmp 90)⟩ <|
   .op ⟨(some 92), none, .pick (.tmp 88) (.const (.bool true)) (.tmp 91)⟩ <|
   .op ⟨(some 93), none, .mov (.tmp 92)⟩ <|
   .op ⟨(some 94), (some (93, false)), .mov (.tmp 6)⟩ <|
   .op ⟨(some 95), (some (93, false)), .mov (.tmp 1)⟩ <|
   .op ⟨(some 98), (some (93, false)), .mov (.tmp 1)⟩ <|
   .alt (
    .op ⟨(some 96), (some (93, false)), .call n_timer_Timer_Due [(.tmp 94), (.tmp 95)]⟩ <|
    .op ⟨(some 97), (some (93, false)), .ld (.tmp 7) (some 2)⟩ <|
    .op ⟨(some 99), (some (93, false)), .call n_ratlineref13_Timer_Due [(.tmp 97), (.tmp 98)]⟩ <|
    .op ⟨(some 100), (some (93, false)), .call n_ratlineref10_Ints [(.tmp 96), (.tmp 99)]⟩ <|
    .op ⟨(some 101), (some (93, false)), .un .not (.tmp 100)⟩ <|
    .op ⟨(some 102), none, .pick (.tmp 93) (.const (.bool true)) (.tmp 101)⟩ <|
    .op ⟨(some 103), none, .mov (.tmp 102)⟩ <|
    .op ⟨(some 104), (some (103, false)), .mov (.tmp 6)⟩ <|
    .alt (
     .op ⟨(some 105), (some (103, false)), .call n_timer_Timer_Due [(.tmp 104), (.const (.int .i64 0))]⟩ <|
     .op ⟨(some 106), (some (103, false)), .ld (.tmp 7) (some 2)⟩ <|
     .op ⟨(some 107), (some (103, false)), .call n_ratlineref13_Timer_Due [(.tmp 106), (.const (.int .i64 0))]⟩ <|
     .op ⟨(some 108), (some (103, false)), .call n_ratlineref10_Ints [(.tmp 105), (.tmp 107)]⟩ <|
     .op ⟨(some 109), (some (103, false)), .un .not (.tmp 108)⟩ <|
     .op ⟨(some 110), none, .pick (.tmp 103) (.const (.bool true)) (.tmp 109)⟩ <|
     .done) (
     .op ⟨(some 106), (some (103, false)), .ld (.tmp 7) (some 2)⟩ <|
     .op ⟨(some 105), (some (103, false)), .call n_timer_Timer_Due [(.tmp 104), (.const (.int .i64 0))]⟩ <|
     .op ⟨(some 107), (some (103, false)), .call n_ratlineref13_Timer_Due [(.tmp 106), (.const (.int .i64 0))]⟩ <|
     .op ⟨(some 108), (some (103, false)), .call n_ratlineref10_Ints [(.tmp 105), (.tmp 107)]⟩ <|
     .op ⟨(some 109), (some (103, false)), .un .not (.tmp 108)⟩ <|
     .op ⟨(some 110), none, .pick (.tmp 103) (.const (.bool true)) (.tmp 109)⟩ <|
     .done)) (
    .op ⟨(some 97), (some (93, false)), .ld (.tmp 7) (some 2)⟩ <|
    .op ⟨(some 96), (some (93, false)), .call n_timer_Timer_Due [(.tmp 94), (.tmp 95)]⟩ <|
    .op ⟨(some 99), (some (93, false)), .call n_ratlineref13_Timer_Due [(.tmp 97), (.tmp 98)]⟩ <|
    .op ⟨(some 100), (some (93, false)), .call n_ratlineref10_Ints [(.tmp 96), (.tmp 99)]⟩ <|
    .op ⟨(some 101), (some (93, false)), .un .not (.tmp 100)⟩ <|
    .op ⟨(some 102), none, .pick (.tmp 93) (.const (.bool true)) (.tmp 101)⟩ <|
    .op ⟨(some 103), none, .mov (.tmp 102)⟩ <|
    .op ⟨(some 104), (some (103, false)), .mov (.tmp 6)⟩ <|
    .alt (
     .op ⟨(some 105), (some (103, false)), .call n_timer_Timer_Due [(.tmp 104), (.const (.int .i64 0))]⟩ <|
     .op ⟨(some 106), (some (103, false)), .ld (.tmp 7) (some 2)⟩ <|
     .op ⟨(some 107), (some (103, false)), .call n_ratlineref13_Timer_Due [(.tmp 106), (.const (.int .i64 0))]⟩ <|
     .op ⟨(some 108), (some (103, false)), .call n_ratlineref10_Ints [(.tmp 105), (.tmp 107)]⟩ <|
     .op ⟨(some 109), (some (103, false)), .un .not (.tmp 108)⟩ <|
     .op ⟨(some 110), none, .pick (.tmp 103) (.const (.bool true)) (.tmp 109)⟩ <|
     .done) (
     .op ⟨(some 106), (some (103, false)), .ld (.tmp 7) (some 2)⟩ <|
     .op ⟨(some 105), (some (103, false)), .call n_timer_Timer_Due [(.tmp 104), (.const (.int .i64 0))]⟩ <|
     .op ⟨(some 107), (some (103, false)), .call n_ratlineref13_Timer_Due [(.tmp 106), (.const (.int .i64 0))]⟩ <|
     .op ⟨(some 108), (some (103, false)), .call n_ratlineref10_Ints [(.tmp 105), (.tmp 107)]⟩ <|
     .op ⟨(some 109), (some (103, false)), .un .not (.tmp 108)⟩ <|
     .op ⟨(some 110), none, .pick (.tmp 103) (.const (.bool true)) (.tmp 109)⟩ <|
     .done)))
@[simp] def ratlinelaw13_TimerPlays_r22 : List VOp :=
  [⟨(some 4), none, .mov (.const (.bool false))⟩]
@[simp] def ratlinelaw13_TimerPlays_r23 : List VOp :=
  [⟨(some 26), none, .mov (.tmp 8)⟩,
   ⟨(some 27), none, .bin .add (.tmp 26) (.const (.int .i64 1))⟩,
   ⟨(some 8), none, .mov (.tmp 27)⟩]
def ratlinelaw13_TimerPlays_l24 : VCode :=
  (.seq (.seq (.reg ratlinelaw13_TimerPlays_r7) (.cond (.tmp 25) .skip (.exit 0))) (.seq (.block 1 (.seq (.reg ratlinelaw13_TimerPlays_r8) (.seq (.seq (.reg ratlinelaw13_TimerPlays_r9) (.block 2 (.seq (.reg ratlinelaw13_TimerPlays_r10) (.cond (.tmp 43) (.seq (.reg ratlinelaw13_TimerPlays_r11) (.reg ratlinelaw13_TimerPlays_r12)) (.seq (.seq (.reg ratlinelaw13_TimerPlays_r13) (.cond (.tmp 53) .skip (.reg ratlinelaw13_TimerPlays_r14))) (.cond (.tmp 53) (.seq (.reg ratlinelaw13_TimerPlays_r15) (.reg ratlinelaw13_TimerPlays_r16)) (.seq (.reg ratlinelaw13_TimerPlays_r17) (.reg ratlinelaw13_TimerPlays_r18)))))))) (.seq (.reg ratlinelaw13_TimerPlays_r19) (.seq (.reg ratlinelaw13_TimerPlays_r20) (.seq (.any ratlinelaw13_TimerPlays_t21) (.cond (.tmp 110) (.seq (.reg ratlinelaw13_TimerPlays_r22) .ret) .skip))))))) (.reg ratlinelaw13_TimerPlays_r23)))
@[simp] def ratlinelaw13_TimerPlays_r25 : List VOp :=
  [⟨(some 4), none, .mov (.const (.bool true))⟩]
def ratlinelaw13_TimerPlays : VCode := (.seq (.reg ratlinelaw13_TimerPlays_r0) (.seq (.reg ratlinelaw13_TimerPlays_r1) (.seq (.seq (.reg ratlinelaw13_TimerPlays_r2) (.cond (.tmp 16) (.seq (.reg ratlinelaw13_TimerPlays_r3) .ret) .skip)) (.seq (.reg ratlinelaw13_TimerPlays_r4) (.seq (.reg ratlinelaw13_TimerPlays_r5) (.seq (.seq (.reg ratlinelaw13_TimerPlays_r6) (.block 0 (.loop ratlinelaw13_TimerPlays_l24))) (.seq (.reg ratlinelaw13_TimerPlays_r25) .ret)))))))
theorem ratlinelaw13_TimerPlays_is : fnV prog n_ratlinelaw13_TimerPlays = some (111, ratlinelaw13_TimerPlays, [.tmp 4]) := by kernel_rfl

/- ratlinelaw13_TimerDue -/
@[simp] def ratlinelaw13_TimerDue_r0 : List VOp :=
  [⟨(some 6), none, .mov (.const (.bool false))⟩]
@[simp] def ratlinelaw13_TimerDue_r1 : List VOp :=
  [⟨(some 17), none, .call n_ratlinelaw13_awake []⟩,
   ⟨(some 7), none, .mov (.tmp 17)⟩]
@[simp] def ratlinelaw13_TimerDue_r2 : List VOp :=
  [⟨(some 18), none, .mov (.tmp 7)⟩,
   ⟨(some 19), none, .un .not (.tmp 18)⟩]
@[simp] def ratlinelaw13_TimerDue_r3 : List VOp :=
  [⟨(some 6), none, .mov (.const (.bool false))⟩]
@[simp] def ratlinelaw13_TimerDue_r4 : List VOp :=
  [⟨(some 20), none, .mov (.tmp 1)⟩,
   ⟨(some 21), none, .bin .lss (.tmp 20) (.const (.int .i64 1))⟩,
   ⟨(some 22), none, .mov (.tmp 21)⟩,
   ⟨(some 23), (some (22, false)), .mov (.tmp 1)⟩,
   ⟨(some 24), (some (22, false)), .bin .gtr (.tmp 23) (.const (.int .i64 5000))⟩,
   ⟨(some 25), none, .pick (.tmp 22) (.const (.bool true)) (.tmp 24)⟩]
@[simp] def ratlinelaw13_TimerDue_r5 : List VOp :=
  [⟨(some 6), none, .mov (.const (.bool true))⟩]
@[simp] def ratlinelaw13_TimerDue_r6 : List VOp :=
  [⟨(some 26), none, .call n_timer_New []⟩,
   ⟨(some 8), none, .mov (.tmp 26)⟩]
@[simp] def ratlinelaw13_TimerDue_r7 : List VOp :=
  [⟨(some 27), none, .mov (.tmp 8)⟩,
   ⟨(some 28), none, .mov (.tmp 0)⟩,
   ⟨(some 29), none, .call n_timer_Timer_Start [(.tmp 27), (.tmp 28)]⟩]
@[simp] def ratlinelaw13_TimerDue_r8 : List VOp :=
  [⟨(some 9), none, .mov (.const (.int .i64 0))⟩]
@[simp] def ratlinelaw13_TimerDue_r9 : List VOp :=
  [⟨(some 10), none, .mov (.const (.int .i64 0))⟩]
@[simp] def ratlinelaw13_TimerDue_r10 : List VOp :=
  [⟨(some 30), none, .mov (.tmp 10)⟩,
   ⟨(some 31), none, .mov (.tmp 2)⟩,
   ⟨(some 32), none, .len (.tmp 31)⟩,
   ⟨(some 33), none, .bin .lss (.tmp 30) (.tmp 32)⟩,
   ⟨(some 34), none, .mov (.tmp 33)⟩,
   ⟨(some 35), (some (34, true)), .mov (.tmp 10)⟩,
   ⟨(some 36), (some (34, true)), .bin .lss (.tmp 35) (.const (.int .i64 50))⟩,
   ⟨(some 37), none, .pick (.tmp 34) (.tmp 36) (.const (.bool false))⟩]
@[simp] def ratlinelaw13_TimerDue_r11 : List VOp :=
  [⟨(some 40), none, .mov (.tmp 8)⟩,
   ⟨(some 41), none, .mov (.tmp 2)⟩,
   ⟨(some 42), none, .mov (.tmp 10)⟩,
   ⟨(some 43), none, .ia 1 (.tmp 41) (.tmp 42)⟩,
   ⟨(some 44), none, .ld (.tmp 43) none⟩,
   ⟨(some 45), none, .call n_timer_Timer_Pass [(.tmp 40), (.tmp 44)]⟩]
@[simp] def ratlinelaw13_TimerDue_r12 : List VOp :=
  [⟨(some 46), none, .mov (.tmp 9)⟩,
   ⟨(some 47), none, .mov (.tmp 2)⟩,
   ⟨(some 48), none, .mov (.tmp 10)⟩,
   ⟨(some 49), none, .ia 1 (.tmp 47) (.tmp 48)⟩,
   ⟨(some 50), none, .ld (.tmp 49) none⟩,
   ⟨(some 51), none, .mm true [(.tmp 50), (.const (.int .i64 0))]⟩,
   ⟨(some 52), none, .mm false [(.tmp 51), (.const (.int .i64 1000))]⟩,
   ⟨(some 53), none, .bin .add (.tmp 46) (.tmp 52)⟩,
   ⟨(some 9), none, .mov (.tmp 53)⟩]
@[simp] def ratlinelaw13_TimerDue_r13 : List VOp :=
  [⟨(some 54), none, .mov (.tmp 8)⟩,
   ⟨(some 55), none, .mov (.tmp 0)⟩,
   ⟨(some 56), none, .call n_timer_Timer_Start [(.tmp 54), (.tmp 55)]⟩]
@[simp] def ratlinelaw13_TimerDue_r14 : List VOp :=
  [⟨(some 11), none, .mov (.const (.int .i64 0))⟩]
@[simp] def ratlinelaw13_TimerDue_r15 : List VOp :=
  [⟨(some 57), none, .mov (.tmp 9)⟩,
   ⟨(some 58), none, .mov (.tmp 1)⟩,
   ⟨(some 59), none, .bin .geq (.tmp 57) (.tmp 58)⟩]
@[simp] def ratlinelaw13_TimerDue_r16 : List VOp :=
  [⟨(some 11), none, .mov (.const (.int .i64 1))⟩]
@[simp] def ratlinelaw13_TimerDue_r17 : List VOp :=
  [⟨(some 60), none, .mov (.tmp 8)⟩,
   ⟨(some 61), none, .mov (.tmp 1)⟩,
   ⟨(some 62), none, .call n_timer_Timer_Due [(.tmp 60), (.tmp 61)]⟩,
   ⟨(some 12), none, .mov (.tmp 62)⟩]
@[simp] def ratlinelaw13_TimerDue_r18 : List VOp :=
  [⟨(some 63), none, .mov (.tmp 12)⟩,
   ⟨(some 64), none, .len (.tmp 63)⟩,
   ⟨(some 65), none, .mov (.tmp 11)⟩,
   ⟨(some 66), none, .bin .neq (.tmp 64) (.tmp 65)⟩,
   ⟨(some 67), none, .mov (.tmp 66)⟩,
   ⟨(some 68), (some (67, false)), .mov (.tmp 11)⟩,
   ⟨(some 69), (some (67, false)), .bin .eql (.tmp 68) (.const (.int .i64 1))⟩,
   ⟨(some 70), (some (67, false)), .mov (.tmp 69)⟩,
   ⟨(some 71), (some (70, true)), .mov (.tmp 12)⟩,
   ⟨(some 72), (some (70, true)), .ia 1 (.tmp 71) (.const (.int .i64 0))⟩,
   ⟨(some 73), (some (70, true)), .ld (.tmp 72) none⟩,
   ⟨(some 74), (some (70, true)), .mov (.tmp 0)⟩,
   ⟨(some 75), (some (70, true)), .bin .neq (.tmp 73) (.tmp 74)⟩,
   ⟨(some 76), (some (67, false)), .pick (.tmp 70) (.tmp 75) (.const (.bool false))⟩,
   ⟨(some 77), none, .pick (.tmp 67) (.const (.bool true)) (.tmp 76)⟩]
@[simp] def ratlinelaw13_TimerDue_r19 : List VOp :=
  [⟨(some 6), none, .mov (.const (.bool false))⟩]
@[simp] def ratlinelaw13_TimerDue_r20 : List VOp :=
  [⟨(some 38), none, .mov (.tmp 10)⟩,
   ⟨(some 39), none, .bin .add (.tmp 38) (.const (.int .i64 1))⟩,
   ⟨(some 10), none, .mov (.tmp 39)⟩]
def ratlinelaw13_TimerDue_l21 : VCode :=
  (.seq (.seq (.reg ratlinelaw13_TimerDue_r10) (.cond (.tmp 37) .skip (.exit 0))) (.seq (.block 1 (.seq (.reg ratlinelaw13_TimerDue_r11) (.seq (.reg ratlinelaw13_TimerDue_r12) (.seq (.reg ratlinelaw13_TimerDue_r13) (.seq (.reg ratlinelaw13_TimerDue_r14) (.seq (.seq (.reg ratlinelaw13_TimerDue_r15) (.cond (.tmp 59) (.reg ratlinelaw13_TimerDue_r16) .skip)) (.seq (.reg ratlinelaw13_TimerDue_r17) (.seq (.reg ratlinelaw13_TimerDue_r18) (.cond (.tmp 77) (.seq (.reg ratlinelaw13_TimerDue_r19) .ret) .skip))))))))) (.reg ratlinelaw13_TimerDue_r20)))
@[simp] def ratlinelaw13_TimerDue_r22 : List VOp :=
  [⟨(some 79), none, .mov (.tmp 8)⟩,
   ⟨(some 80), none, .mov (.tmp 0)⟩,
   ⟨(some 81), none, .call n_timer_Timer_Since [(.tmp 79), (.tmp 80)]⟩,
   ⟨(some 78), none, .mov (.tmp 81)⟩,
   ⟨(some 82), none, .ext 0 (.tmp 78)⟩,
   ⟨(some 83), none, .ext 1 (.tmp 78)⟩,
   ⟨(some 13), none, .mov (.tmp 82)⟩,
   ⟨(some 14), none, .mov (.tmp 83)⟩]
@[simp] def ratlinelaw13_TimerDue_r23 : List VOp :=
  [⟨(some 84), none, .mov (.tmp 8)⟩,
   ⟨(some 85), none, .mov (.tmp 0)⟩,
   ⟨(some 86), none, .call n_timer_Timer_Stop [(.tmp 84), (.tmp 85)]⟩]
@[simp] def ratlinelaw13_TimerDue_r24 : List VOp :=
  [⟨(some 88), none, .mov (.tmp 8)⟩,
   ⟨(some 89), none, .mov (.tmp 0)⟩,
   ⟨(some 90), none, .call n_timer_Timer_Since [(.tmp 88), (.tmp 89)]⟩,
   ⟨(some 87), none, .mov (.tmp 90)⟩,
   ⟨(some 91), none, .ext 0 (.tmp 87)⟩,
   ⟨(some 92), none, .ext 1 (.tmp 87)⟩,
   ⟨(some 15), none, .mov (.tmp 91)⟩,
   ⟨(some 16), none, .mov (.tmp 92)⟩]
@[simp] def ratlinelaw13_TimerDue_r25 : List VOp :=
  [⟨(some 93), none, .mov (.tmp 13)⟩,
   ⟨(some 94), none, .mov (.tmp 9)⟩,
   ⟨(some 95), none, .bin .eql (.tmp 93) (.tmp 94)⟩,
   ⟨(some 96), none, .mov (.tmp 95)⟩,
   ⟨(some 97), (some (96, true)), .mov (.tmp 14)⟩,
   ⟨(some 98), none, .pick (.tmp 96) (.tmp 97) (.const (.bool false))⟩,
   ⟨(some 99), none, .mov (.tmp 98)⟩,
   ⟨(some 100), (some (99, true)), .mov (.tmp 16)⟩,
   ⟨(some 101), (some (99, true)), .un .not (.tmp 100)⟩,
   ⟨(some 102), none, .pick (.tmp 99) (.tmp 101) (.const (.bool false))⟩,
   ⟨(some 103), none, .mov (.tmp 102)⟩,
   ⟨(some 104), (some (103, true)), .mov (.tmp 8)⟩,
   ⟨(some 105), (some (103, true)), .mov (.tmp 1)⟩,
   ⟨(some 106), (some (103, true)), .call n_timer_Timer_Due [(.tmp 104), (.tmp 105)]⟩,
   ⟨(some 107), (some (103, true)), .len (.tmp 106)⟩,
   ⟨(some 108), (some (103, true)), .bin .eql (.tmp 107) (.const (.int .i64 0))⟩,
   ⟨(some 109), none, .pick (.tmp 103) (.tmp 108) (.const (.bool false))⟩,
   ⟨(some 110), none, .mov (.tmp 109)⟩,
   ⟨(some 111), (some (110, true)), .mov (.tmp 8)⟩,
   ⟨(some 112), (some (110, true)), .call n_timer_Timer_Now [(.tmp 111)]⟩,
   ⟨(some 113), (some (110, true)), .mov (.tmp 9)⟩,
   ⟨(some 114), (some (110, true)), .bin .eql (.tmp 112) (.tmp 113)⟩,
   ⟨(some 115), none, .pick (.tmp 110) (.tmp 114) (.const (.bool false))⟩,
   ⟨(some 6), none, .mov (.tmp 115)⟩]
def ratlinelaw13_TimerDue : VCode := (.seq (.reg ratlinelaw13_TimerDue_r0) (.seq (.reg ratlinelaw13_TimerDue_r1) (.seq (.seq (.reg ratlinelaw13_TimerDue_r2) (.cond (.tmp 19) (.seq (.reg ratlinelaw13_TimerDue_r3) .ret) .skip)) (.seq (.seq (.reg ratlinelaw13_TimerDue_r4) (.cond (.tmp 25) (.seq (.reg ratlinelaw13_TimerDue_r5) .ret) .skip)) (.seq (.reg ratlinelaw13_TimerDue_r6) (.seq (.reg ratlinelaw13_TimerDue_r7) (.seq (.reg ratlinelaw13_TimerDue_r8) (.seq (.seq (.reg ratlinelaw13_TimerDue_r9) (.block 0 (.loop ratlinelaw13_TimerDue_l21))) (.seq (.reg ratlinelaw13_TimerDue_r22) (.seq (.reg ratlinelaw13_TimerDue_r23) (.seq (.reg ratlinelaw13_TimerDue_r24) (.seq (.reg ratlinelaw13_TimerDue_r25) .ret))))))))))))
theorem ratlinelaw13_TimerDue_is : fnV prog n_ratlinelaw13_TimerDue = some (116, ratlinelaw13_TimerDue, [.tmp 6]) := by kernel_rfl

/- ratlinelaw13_TimerNone -/
@[simp] def ratlinelaw13_TimerNone_r0 : List VOp :=
  [⟨(some 4), none, .mov (.const (.bool false))⟩]
@[simp] def ratlinelaw13_TimerNone_r1 : List VOp :=
  [⟨(some 9), none, .call n_ratlinelaw13_awake []⟩,
   ⟨(some 5), none, .mov (.tmp 9)⟩]
@[simp] def ratlinelaw13_TimerNone_r2 : List VOp :=
  [⟨(some 10), none, .mov (.tmp 5)⟩,
   ⟨(some 11), none, .un .not (.tmp 10)⟩]
@[simp] def ratlinelaw13_TimerNone_r3 : List VOp :=
  [⟨(some 4), none, .mov (.const (.bool false))⟩]
@[simp] def ratlinelaw13_TimerNone_r4 : List VOp :=
  [⟨(some 6), none, .mov (.const (.pointer none))⟩]
@[simp] def ratlinelaw13_TimerNone_r5 : List VOp :=
  [⟨(some 12), none, .mov (.tmp 6)⟩,
   ⟨(some 13), none, .mov (.tmp 1)⟩,
   ⟨(some 14), none, .call n_timer_Timer_Pass [(.tmp 12), (.tmp 13)]⟩]
@[simp] def ratlinelaw13_TimerNone_r6 : List VOp :=
  [⟨(some 15), none, .mov (.tmp 6)⟩,
   ⟨(some 16), none, .mov (.tmp 0)⟩,
   ⟨(some 17), none, .call n_timer_Timer_Start [(.tmp 15), (.tmp 16)]⟩]
@[simp] def ratlinelaw13_TimerNone_r7 : List VOp :=
  [⟨(some 18), none, .mov (.tmp 6)⟩,
   ⟨(some 19), none, .mov (.tmp 0)⟩,
   ⟨(some 20), none, .call n_timer_Timer_Stop [(.tmp 18), (.tmp 19)]⟩]
@[simp] def ratlinelaw13_TimerNone_r8 : List VOp :=
  [⟨(some 22), none, .mov (.tmp 6)⟩,
   ⟨(some 23), none, .mov (.tmp 0)⟩,
   ⟨(some 24), none, .call n_timer_Timer_Since [(.tmp 22), (.tmp 23)]⟩,
   ⟨(some 21), none, .mov (.tmp 24)⟩,
   ⟨(some 25), none, .ext 0 (.tmp 21)⟩,
   ⟨(some 26), none, .ext 1 (.tmp 21)⟩,
   ⟨(some 7), none, .mov (.tmp 25)⟩,
   ⟨(some 8), none, .mov (.tmp 26)⟩]
@[simp] def ratlinelaw13_TimerNone_r9 : List VOp :=
  [⟨(some 27), none, .mov (.tmp 6)⟩,
   ⟨(some 28), none, .call n_timer_Timer_Now [(.tmp 27)]⟩,
   ⟨(some 29), none, .bin .eql (.tmp 28) (.const (.int .i64 0))⟩,
   ⟨(some 30), none, .mov (.tmp 29)⟩,
   ⟨(some 31), (some (30, true)), .mov (.tmp 7)⟩,
   ⟨(some 32), (some (30, true)), .bin .eql (.tmp 31) (.const (.int .i64 0))⟩,
   ⟨(some 33), none, .pick (.tmp 30) (.tmp 32) (.const (.bool false))⟩,
   ⟨(some 34), none, .mov (.tmp 33)⟩,
   ⟨(some 35), (some (34, true)), .mov (.tmp 8)⟩,
   ⟨(some 36), (some (34, true)), .un .not (.tmp 35)⟩,
   ⟨(some 37), none, .pick (.tmp 34) (.tmp 36) (.const (.bool false))⟩,
   ⟨(some 38), none, .mov (.tmp 37)⟩,
   ⟨(some 39), (some (38, true)), .mov (.tmp 6)⟩,
   ⟨(some 40), (some (38, true)), .mov (.tmp 1)⟩,
   ⟨(some 41), (some (38, true)), .call n_timer_Timer_Due [(.tmp 39), (.tmp 40)]⟩,
   ⟨(some 42), (some (38, true)), .len (.tmp 41)⟩,
   ⟨(some 43), (some (38, true)), .bin .eql (.tmp 42) (.const (.int .i64 0))⟩,
   ⟨(some 44), none, .pick (.tmp 38) (.tmp 43) (.const (.bool false))⟩,
   ⟨(some 4), none, .mov (.tmp 44)⟩]
def ratlinelaw13_TimerNone : VCode := (.seq (.reg ratlinelaw13_TimerNone_r0) (.seq (.reg ratlinelaw13_TimerNone_r1) (.seq (.seq (.reg ratlinelaw13_TimerNone_r2) (.cond (.tmp 11) (.seq (.reg ratlinelaw13_TimerNone_r3) .ret) .skip)) (.seq (.reg ratlinelaw13_TimerNone_r4) (.seq (.reg ratlinelaw13_TimerNone_r5) (.seq (.reg ratlinelaw13_TimerNone_r6) (.seq (.reg ratlinelaw13_TimerNone_r7) (.seq (.reg ratlinelaw13_TimerNone_r8) (.seq (.reg ratlinelaw13_TimerNone_r9) .ret)))))))))
theorem ratlinelaw13_TimerNone_is : fnV prog n_ratlinelaw13_TimerNone = some (45, ratlinelaw13_TimerNone, [.tmp 4]) := by kernel_rfl

/- ratlinelaw13_TimerApart -/
@[simp] def ratlinelaw13_TimerApart_r0 : List VOp :=
  [⟨(some 6), none, .mov (.const (.bool false))⟩]
@[simp] def ratlinelaw13_TimerApart_r1 : List VOp :=
  [⟨(some 20), none, .call n_ratlinelaw13_awake []⟩,
   ⟨(some 7), none, .mov (.tmp 20)⟩]
@[simp] def ratlinelaw13_TimerApart_r2 : List VOp :=
  [⟨(some 21), none, .mov (.tmp 7)⟩,
   ⟨(some 22), none, .un .not (.tmp 21)⟩]
@[simp] def ratlinelaw13_TimerApart_r3 : List VOp :=
  [⟨(some 6), none, .mov (.const (.bool false))⟩]
@[simp] def ratlinelaw13_TimerApart_r4 : List VOp :=
  [⟨(some 23), none, .mov (.tmp 0)⟩,
   ⟨(some 24), none, .mov (.tmp 1)⟩,
   ⟨(some 25), none, .bin .eql (.tmp 23) (.tmp 24)⟩]
@[simp] def ratlinelaw13_TimerApart_r5 : List VOp :=
  [⟨(some 6), none, .mov (.const (.bool true))⟩]
@[simp] def ratlinelaw13_TimerApart_r6 : List VOp :=
  [⟨(some 26), none, .call n_timer_New []⟩,
   ⟨(some 8), none, .mov (.tmp 26)⟩]
@[simp] def ratlinelaw13_TimerApart_r7 : List VOp :=
  [⟨(some 27), none, .mov (.tmp 8)⟩,
   ⟨(some 28), none, .mov (.tmp 0)⟩,
   ⟨(some 29), none, .call n_timer_Timer_Start [(.tmp 27), (.tmp 28)]⟩]
@[simp] def ratlinelaw13_TimerApart_r8 : List VOp :=
  [⟨(some 30), none, .mov (.tmp 8)⟩,
   ⟨(some 31), none, .mov (.tmp 2)⟩,
   ⟨(some 32), none, .call n_timer_Timer_Pass [(.tmp 30), (.tmp 31)]⟩]
@[simp] def ratlinelaw13_TimerApart_r9 : List VOp :=
  [⟨(some 33), none, .mov (.tmp 8)⟩,
   ⟨(some 34), none, .call n_timer_Timer_Now [(.tmp 33)]⟩,
   ⟨(some 9), none, .mov (.tmp 34)⟩]
@[simp] def ratlinelaw13_TimerApart_r10 : List VOp :=
  [⟨(some 35), none, .mov (.tmp 8)⟩,
   ⟨(some 36), none, .mov (.tmp 1)⟩,
   ⟨(some 37), none, .call n_timer_Timer_Start [(.tmp 35), (.tmp 36)]⟩]
@[simp] def ratlinelaw13_TimerApart_r11 : List VOp :=
  [⟨(some 38), none, .mov (.tmp 8)⟩,
   ⟨(some 39), none, .call n_timer_Timer_Pass [(.tmp 38), (.const (.int .i64 7))]⟩]
@[simp] def ratlinelaw13_TimerApart_r12 : List VOp :=
  [⟨(some 41), none, .mov (.tmp 8)⟩,
   ⟨(some 42), none, .mov (.tmp 0)⟩,
   ⟨(some 43), none, .call n_timer_Timer_Since [(.tmp 41), (.tmp 42)]⟩,
   ⟨(some 40), none, .mov (.tmp 43)⟩,
   ⟨(some 44), none, .ext 0 (.tmp 40)⟩,
   ⟨(some 45), none, .ext 1 (.tmp 40)⟩,
   ⟨(some 10), none, .mov (.tmp 44)⟩,
   ⟨(some 11), none, .mov (.tmp 45)⟩]
@[simp] def ratlinelaw13_TimerApart_r13 : List VOp :=
  [⟨(some 47), none, .mov (.tmp 8)⟩,
   ⟨(some 48), none, .mov (.tmp 1)⟩,
   ⟨(some 49), none, .call n_timer_Timer_Since [(.tmp 47), (.tmp 48)]⟩,
   ⟨(some 46), none, .mov (.tmp 49)⟩,
   ⟨(some 50), none, .ext 0 (.tmp 46)⟩,
   ⟨(some 51), none, .ext 1 (.tmp 46)⟩,
   ⟨(some 12), none, .mov (.tmp 50)⟩,
   ⟨(some 13), none, .mov (.tmp 51)⟩]
@[simp] def ratlinelaw13_TimerApart_r14 : List VOp :=
  [⟨(some 52), none, .mov (.tmp 8)⟩,
   ⟨(some 53), none, .mov (.tmp 1)⟩,
   ⟨(some 54), none, .call n_timer_Timer_Stop [(.tmp 52), (.tmp 53)]⟩]
@[simp] def ratlinelaw13_TimerApart_r15 : List VOp :=
  [⟨(some 56), none, .mov (.tmp 8)⟩,
   ⟨(some 57), none, .mov (.tmp 0)⟩,
   ⟨(some 58), none, .call n_timer_Timer_Since [(.tmp 56), (.tmp 57)]⟩,
   ⟨(some 55), none, .mov (.tmp 58)⟩,
   ⟨(some 59), none, .ext 0 (.tmp 55)⟩,
   ⟨(some 60), none, .ext 1 (.tmp 55)⟩,
   ⟨(some 14), none, .mov (.tmp 59)⟩,
   ⟨(some 15), none, .mov (.tmp 60)⟩]
@[simp] def ratlinelaw13_TimerApart_r16 : List VOp :=
  [⟨(some 62), none, .mov (.tmp 8)⟩,
   ⟨(some 63), none, .mov (.tmp 1)⟩,
   ⟨(some 64), none, .call n_timer_Timer_Since [(.tmp 62), (.tmp 63)]⟩,
   ⟨(some 61), none, .mov (.tmp 64)⟩,
   ⟨(some 65), none, .ext 0 (.tmp 61)⟩,
   ⟨(some 66), none, .ext 1 (.tmp 61)⟩,
   ⟨(some 16), none, .mov (.tmp 65)⟩,
   ⟨(some 17), none, .mov (.tmp 66)⟩]
@[simp] def ratlinelaw13_TimerApart_r17 : List VOp :=
  [⟨(some 67), none, .mov (.tmp 8)⟩,
   ⟨(some 68), none, .mov (.tmp 1)⟩,
   ⟨(some 69), none, .call n_timer_Timer_Start [(.tmp 67), (.tmp 68)]⟩]
@[simp] def ratlinelaw13_TimerApart_r18 : List VOp :=
  [⟨(some 71), none, .mov (.tmp 8)⟩,
   ⟨(some 72), none, .mov (.tmp 1)⟩,
   ⟨(some 73), none, .call n_timer_Timer_Since [(.tmp 71), (.tmp 72)]⟩,
   ⟨(some 70), none, .mov (.tmp 73)⟩,
   ⟨(some 74), none, .ext 0 (.tmp 70)⟩,
   ⟨(some 75), none, .ext 1 (.tmp 70)⟩,
   ⟨(some 18), none, .mov (.tmp 74)⟩,
   ⟨(some 19), none, .mov (.tmp 75)⟩]
@[simp] def ratlinelaw13_TimerApart_r19 : List VOp :=
  [⟨(some 76), none, .mov (.tmp 10)⟩,
   ⟨(some 77), none, .mov (.tmp 9)⟩,
   ⟨(some 78), none, .bin .add (.tmp 77) (.const (.int .i64 7))⟩,
   ⟨(some 79), none, .bin .eql (.tmp 76) (.tmp 78)⟩,
   ⟨(some 80), none, .mov (.tmp 79)⟩,
   ⟨(some 81), (some (80, true)), .mov (.tmp 11)⟩,
   ⟨(some 82), none, .pick (.tmp 80) (.tmp 81) (.const (.bool false))⟩,
   ⟨(some 83), none, .mov (.tmp 82)⟩,
   ⟨(some 84), (some (83, true)), .mov (.tmp 12)⟩,
   ⟨(some 85), (some (83, true)), .bin .eql (.tmp 84) (.const (.int .i64 7))⟩,
   ⟨(some 86), none, .pick (.tmp 83) (.tmp 85) (.const (.bool false))⟩,
   ⟨(some 87), none, .mov (.tmp 86)⟩,
   ⟨(some 88), (some (87, true)), .mov (.tmp 13)⟩,
   ⟨(some 89), none, .pick (.tmp 87) (.tmp 88) (.const (.bool false))⟩,
   ⟨(some 90), none, .mov (.tmp 89)⟩,
   ⟨(some 91), (some (90, true)), .mov (.tmp 14)⟩,
   ⟨(some 92), (some (90, true)), .mov (.tmp 10)⟩,
   ⟨(some 93), (some (90, true)), .bin .eql (.tmp 91) (.tmp 92)⟩,
   ⟨(some 94), none, .pick (.tmp 90) (.tmp 93) (.const (.bool false))⟩,
   ⟨(some 95), none, .mov (.tmp 94)⟩,
   ⟨(some 96), (some (95, true)), .mov (.tmp 15)⟩,
   ⟨(some 97), none, .pick (.tmp 95) (.tmp 96) (.const (.bool false))⟩,
   ⟨(some 98), none, .mov (.tmp 97)⟩,
   ⟨(some 99), (some (98, true)), .mov (.tmp 17)⟩,
   ⟨(some 100), (some (98, true)), .un .not (.tmp 99)⟩,
   ⟨(some 101), none, .pick (.tmp 98) (.tmp 100) (.const (.bool false))⟩,
   ⟨(some 102), none, .mov (.tmp 101)⟩,
   ⟨(some 103), (some (102, true)), .mov (.tmp 18)⟩,
   ⟨(some 104), (some (102, true)), .bin .eql (.tmp 103) (.const (.int .i64 0))⟩,
   ⟨(some 105), none, .pick (.tmp 102) (.tmp 104) (.const (.bool false))⟩,
   ⟨(some 106), none, .mov (.tmp 105)⟩,
   ⟨(some 107), (some (106, true)), .mov (.tmp 19)⟩,
   ⟨(some 108), none, .pick (.tmp 106) (.tmp 107) (.const (.bool false))⟩,
   ⟨(some 109), none, .mov (.tmp 108)⟩,
   ⟨(some 110), (some (109, true)), .mov (.tmp 9)⟩,
   ⟨(some 111), (some (109, true)), .mov (.tmp 2)⟩,
   ⟨(some 112), (some (109, true)), .mm true [(.tmp 111), (.const (.int .i64 0))]⟩,
   ⟨(some 113), (some (109, true)), .mm false [(.tmp 112), (.const (.int .i64 1000))]⟩,
   ⟨(some 114), (some (109, true)), .bin .eql (.tmp 110) (.tmp 113)⟩,
   ⟨(some 115), none, .pick (.tmp 109) (.tmp 114) (.const (.bool false))⟩,
   ⟨(some 6), none, .mov (.tmp 115)⟩]
def ratlinelaw13_TimerApart : VCode := (.seq (.reg ratlinelaw13_TimerApart_r0) (.seq (.reg ratlinelaw13_TimerApart_r1) (.seq (.seq (.reg ratlinelaw13_TimerApart_r2) (.cond (.tmp 22) (.seq (.reg ratlinelaw13_TimerApart_r3) .ret) .skip)) (.seq (.seq (.reg ratlinelaw13_TimerApart_r4) (.cond (.tmp 25) (.seq (.reg ratlinelaw13_TimerApart_r5) .ret) .skip)) (.seq (.reg ratlinelaw13_TimerApart_r6) (.seq (.reg ratlinelaw13_TimerApart_r7) (.seq (.reg ratlinelaw13_TimerApart_r8) (.seq (.reg ratlinelaw13_TimerApart_r9) (.seq (.reg ratlinelaw13_TimerApart_r10) (.seq (.reg ratlinelaw13_TimerApart_r11) (.seq (.reg ratlinelaw13_TimerApart_r12) (.seq (.reg ratlinelaw13_TimerApart_r13) (.seq (.reg ratlinelaw13_TimerApart_r14) (.seq (.reg ratlinelaw13_TimerApart_r15) (.seq (.reg ratlinelaw13_TimerApart_r16) (.seq (.reg ratlinelaw13_TimerApart_r17) (.seq (.reg ratlinelaw13_TimerApart_r18) (.seq (.reg ratlinelaw13_TimerApart_r19) .ret))))))))))))))))))
theorem ratlinelaw13_TimerApart_is : fnV prog n_ratlinelaw13_TimerApart = some (116, ratlinelaw13_TimerApart, [.tmp 6]) := by kernel_rfl

/- ratlinelaw13_TimerOrders -/
@[simp] def ratlinelaw13_TimerOrders_r0 : List VOp :=
  [⟨(some 6), none, .mov (.const (.bool false))⟩]
@[simp] def ratlinelaw13_TimerOrders_r1 : List VOp :=
  [⟨(some 17), none, .call n_ratlinelaw13_awake []⟩,
   ⟨(some 7), none, .mov (.tmp 17)⟩]
@[simp] def ratlinelaw13_TimerOrders_r2 : List VOp :=
  [⟨(some 18), none, .mov (.tmp 7)⟩,
   ⟨(some 19), none, .un .not (.tmp 18)⟩]
@[simp] def ratlinelaw13_TimerOrders_r3 : List VOp :=
  [⟨(some 6), none, .mov (.const (.bool false))⟩]
@[simp] def ratlinelaw13_TimerOrders_r4 : List VOp :=
  [⟨(some 20), none, .mov (.tmp 1)⟩,
   ⟨(some 21), none, .mov (.tmp 2)⟩,
   ⟨(some 22), none, .bin .gtr (.tmp 20) (.tmp 21)⟩]
@[simp] def ratlinelaw13_TimerOrders_r5 : List VOp :=
  [⟨(some 6), none, .mov (.const (.bool true))⟩]
@[simp] def ratlinelaw13_TimerOrders_r6 : List VOp :=
  [⟨(some 23), none, .call n_timer_New []⟩,
   ⟨(some 8), none, .mov (.tmp 23)⟩]
@[simp] def ratlinelaw13_TimerOrders_r7 : List VOp :=
  [⟨(some 9), none, .mov (.const (.int .i64 0))⟩]
@[simp] def ratlinelaw13_TimerOrders_r8 : List VOp :=
  [⟨(some 24), none, .mov (.tmp 9)⟩,
   ⟨(some 25), none, .mov (.tmp 0)⟩,
   ⟨(some 26), none, .len (.tmp 25)⟩,
   ⟨(some 27), none, .bin .lss (.tmp 24) (.tmp 26)⟩,
   ⟨(some 28), none, .mov (.tmp 27)⟩,
   ⟨(some 29), (some (28, true)), .mov (.tmp 9)⟩,
   ⟨(some 30), (some (28, true)), .bin .lss (.tmp 29) (.const (.int .i64 100))⟩,
   ⟨(some 31), none, .pick (.tmp 28) (.tmp 30) (.const (.bool false))⟩]
@[simp] def ratlinelaw13_TimerOrders_r9 : List VOp :=
  [⟨(some 34), none, .mov (.tmp 0)⟩,
   ⟨(some 35), none, .mov (.tmp 9)⟩,
   ⟨(some 36), none, .ia 3 (.tmp 34) (.tmp 35)⟩,
   ⟨(some 37), none, .ld (.tmp 36) (some 3)⟩,
   ⟨(some 10), none, .alloc [.iv (.v (.int .i64 0)), .iv (.v (.int .i64 0)), .iv (.v (.int .i64 0))]⟩,
   ⟨none, none, .st (.tmp 10) (.tmp 37) 3⟩]
@[simp] def ratlinelaw13_TimerOrders_r10 : List VOp :=
  [⟨(some 38), none, .fa 0 (.tmp 10)⟩,
   ⟨(some 39), none, .ld (.tmp 38) none⟩,
   ⟨(some 40), none, .bin .and (.tmp 39) (.const (.int .i64 3))⟩]
@[simp] def ratlinelaw13_TimerOrders_r11 : List VOp :=
  [⟨(some 46), none, .bin .eql (.tmp 40) (.const (.int .i64 0))⟩,
   ⟨(some 45), none, .mov (.tmp 46)⟩]
@[simp] def ratlinelaw13_TimerOrders_r12 : List VOp :=
  [⟨(some 47), none, .mov (.tmp 8)⟩,
   ⟨(some 48), none, .fa 2 (.tmp 10)⟩,
   ⟨(some 49), none, .ld (.tmp 48) none⟩,
   ⟨(some 50), none, .call n_timer_Timer_Pass [(.tmp 47), (.tmp 49)]⟩]
@[simp] def ratlinelaw13_TimerOrders_r13 : List VOp :=
  [⟨(some 52), none, .bin .eql (.tmp 40) (.const (.int .i64 1))⟩,
   ⟨(some 51), none, .mov (.tmp 52)⟩]
@[simp] def ratlinelaw13_TimerOrders_r14 : List VOp :=
  [⟨(some 53), none, .bin .eql (.tmp 40) (.const (.int .i64 2))⟩,
   ⟨(some 51), none, .mov (.tmp 53)⟩]
@[simp] def ratlinelaw13_TimerOrders_r15 : List VOp :=
  [⟨(some 54), none, .mov (.tmp 8)⟩,
   ⟨(some 55), none, .fa 1 (.tmp 10)⟩,
   ⟨(some 56), none, .ld (.tmp 55) none⟩,
   ⟨(some 57), none, .call n_timer_Timer_Start [(.tmp 54), (.tmp 56)]⟩]
@[simp] def ratlinelaw13_TimerOrders_r16 : List VOp :=
  [⟨(some 41), none, .mov (.tmp 8)⟩,
   ⟨(some 42), none, .fa 1 (.tmp 10)⟩,
   ⟨(some 43), none, .ld (.tmp 42) none⟩,
   ⟨(some 44), none, .call n_timer_Timer_Stop [(.tmp 41), (.tmp 43)]⟩]
@[simp] def ratlinelaw13_TimerOrders_r17 : List VOp :=
  [⟨(some 32), none, .mov (.tmp 9)⟩,
   ⟨(some 33), none, .bin .add (.tmp 32) (.const (.int .i64 1))⟩,
   ⟨(some 9), none, .mov (.tmp 33)⟩]
def ratlinelaw13_TimerOrders_l18 : VCode :=
  (.seq (.seq (.reg ratlinelaw13_TimerOrders_r8) (.cond (.tmp 31) .skip (.exit 0))) (.seq (.block 1 (.seq (.reg ratlinelaw13_TimerOrders_r9) (.seq (.reg ratlinelaw13_TimerOrders_r10) (.block 2 (.seq (.reg ratlinelaw13_TimerOrders_r11) (.cond (.tmp 45) (.reg ratlinelaw13_TimerOrders_r12) (.seq (.seq (.reg ratlinelaw13_TimerOrders_r13) (.cond (.tmp 51) .skip (.reg ratlinelaw13_TimerOrders_r14))) (.cond (.tmp 51) (.reg ratlinelaw13_TimerOrders_r15) (.reg ratlinelaw13_TimerOrders_r16))))))))) (.reg ratlinelaw13_TimerOrders_r17)))
@[simp] def ratlinelaw13_TimerOrders_r19 : List VOp :=
  [⟨(some 58), none, .mov (.tmp 8)⟩,
   ⟨(some 59), none, .mov (.tmp 1)⟩,
   ⟨(some 60), none, .call n_timer_Timer_Due [(.tmp 58), (.tmp 59)]⟩,
   ⟨(some 11), none, .mov (.tmp 60)⟩]
@[simp] def ratlinelaw13_TimerOrders_r20 : List VOp :=
  [⟨(some 61), none, .mov (.tmp 8)⟩,
   ⟨(some 62), none, .mov (.tmp 2)⟩,
   ⟨(some 63), none, .call n_timer_Timer_Due [(.tmp 61), (.tmp 62)]⟩,
   ⟨(some 12), none, .mov (.tmp 63)⟩]
@[simp] def ratlinelaw13_TimerOrders_r21 : List VOp :=
  [⟨(some 13), none, .mov (.const (.int .i64 0))⟩]
@[simp] def ratlinelaw13_TimerOrders_r22 : List VOp :=
  [⟨(some 14), none, .mov (.const (.int .i64 0))⟩]
@[simp] def ratlinelaw13_TimerOrders_r23 : List VOp :=
  [⟨(some 64), none, .mov (.tmp 14)⟩,
   ⟨(some 65), none, .mov (.tmp 11)⟩,
   ⟨(some 66), none, .len (.tmp 65)⟩,
   ⟨(some 67), none, .bin .lss (.tmp 64) (.tmp 66)⟩]
@[simp] def ratlinelaw13_TimerOrders_r24 : List VOp :=
  [⟨(some 71), none, .mov (.tmp 8)⟩,
   ⟨(some 72), none, .mov (.tmp 11)⟩,
   ⟨(some 73), none, .mov (.tmp 14)⟩,
   ⟨(some 74), none, .ia 1 (.tmp 72) (.tmp 73)⟩,
   ⟨(some 75), none, .ld (.tmp 74) none⟩,
   ⟨(some 76), none, .call n_timer_Timer_Since [(.tmp 71), (.tmp 75)]⟩,
   ⟨(some 70), none, .mov (.tmp 76)⟩,
   ⟨(some 77), none, .ext 0 (.tmp 70)⟩,
   ⟨(some 78), none, .ext 1 (.tmp 70)⟩,
   ⟨(some 15), none, .mov (.tmp 77)⟩,
   ⟨(some 16), none, .mov (.tmp 78)⟩]
@[simp] def ratlinelaw13_TimerOrders_t25 : VT :=
  .op ⟨(some 79), none, .mov (.tmp 16)⟩ <|
  .op ⟨(some 80), none, .un .not (.tmp 79)⟩ <|
  .op ⟨(some 81), none, .mov (.tmp 80)⟩ <|
  .op ⟨(some 82), (some (81, false)), .mov (.tmp 15)⟩ <|
  .op ⟨(some 83), (some (81, false)), .mov (.tmp 1)⟩ <|
  .op ⟨(some 84), (some (81, false)), .bin .lss (.tmp 82) (.tmp 83)⟩ <|
  .op ⟨(some 85), none, .pick (.tmp 81) (.const (.bool true)) (.tmp 84)⟩ <|
  .op ⟨(some 86), none, .mov (.tmp 85)⟩ <|
  .op ⟨(some 87), (some (86, false)), .mov (.tmp 14)⟩ <|
  .op ⟨(some 88), (some (86, false)), .bin .gtr (.tmp 87) (.const (.int .i64 0))⟩ <|
  .op ⟨(some 89), (some (86, false)), .mov (.tmp 88)⟩ <|
  .op ⟨(some 90), (some (89, true)), .mov (.tmp 11)⟩ <|
  .op ⟨(some 91), (some (89, true)), .mov (.tmp 14)⟩ <|
  .op ⟨(some 92), (some (89, true)), .ia 1 (.tmp 90) (.tmp 91)⟩ <|
  .op ⟨(some 93), (some (89, true)), .ld (.tmp 92) none⟩ <|
  .op ⟨(some 94), (some (89, true)), .mov (.tmp 11)⟩ <|
  .op ⟨(some 95), (some (89, true)), .mov (.tmp 14)⟩ <|
  .op ⟨(some 96), (some (89, true)), .bin .sub (.tmp 95) (.const (.int .i64 1))⟩ <|
  .op ⟨(some 97), (some (89, true)), .ia 1 (.tmp 94) (.tmp 96)⟩ <|
  .op ⟨(some 98), (some (89, true)), .ld (.tmp 97) none⟩ <|
  .op ⟨(some 99), (some (89, true)), .bin .leq (.tmp 93) (.tmp 98)⟩ <|
  .op ⟨(some 100), (some (86, false)), .pick (.tmp 89) (.tmp 99) (.const (.bool false))⟩ <|
  .op ⟨(some 101), none, .pick (.tmp 86) (.const (.bool true)) (.tmp 100)⟩ <|
  .done
@[simp] def ratlinelaw13_TimerOrders_r26 : List VOp :=
  [⟨(some 6), none, .mov (.const (.bool false))⟩]
@[simp] def ratlinelaw13_TimerOrders_t27 : VT :=
  .op ⟨(some 102), none, .mov (.tmp 13)⟩ <|
  .op ⟨(some 103), none, .mov (.tmp 12)⟩ <|
  .op ⟨(some 104), none, .len (.tmp 103)⟩ <|
  .op ⟨(some 105), none, .bin .lss (.tmp 102) (.tmp 104)⟩ <|
  .op ⟨(some 106), none, .mov (.tmp 105)⟩ <|
  .op ⟨(some 107), (some (106, true)), .mov (.tmp 12)⟩ <|
  .op ⟨(some 108), (some (106, true)), .mov (.tmp 13)⟩ <|
  .op ⟨(some 109), (some (106, true)), .ia 1 (.tmp 107) (.tmp 108)⟩ <|
  .op ⟨(some 110), (some (106, true)), .ld (.tmp 109) none⟩ <|
  .op ⟨(some 111), (some (106, true)), .mov (.tmp 11)⟩ <|
  .op ⟨(some 112), (some (106, true)), .mov (.tmp 14)⟩ <|
  .op ⟨(some 113), (some (106, true)), .ia 1 (.tmp 111) (.tmp 112)⟩ <|
  .op ⟨(some 114), (some (106, true)), .ld (.tmp 113) none⟩ <|
  .op ⟨(some 115), (some (106, true)), .bin .eql (.tmp 110) (.tmp 114)⟩ <|
  .op ⟨(some 116), none, .pick (.tmp 106) (.tmp 115) (.const (.bool false))⟩ <|
  .done
@[simp] def ratlinelaw13_TimerOrders_r28 : List VOp :=
  [⟨(some 117), none, .mov (.tmp 13)⟩,
   ⟨(some 118), none, .bin .add (.tmp 117) (.const (.int .i64 1))⟩,
   ⟨(some 13), none, .mov (.tmp 118)⟩]
@[simp] def ratlinelaw13_TimerOrders_r29 : List VOp :=
  [⟨(some 68), none, .mov (.tmp 14)⟩,
   ⟨(some 69), none, .bin .add (.tmp 68) (.const (.int .i64 1))⟩,
   ⟨(some 14), none, .mov (.tmp 69)⟩]
def ratlinelaw13_TimerOrders_l30 : VCode :=
  (.seq (.seq (.reg ratlinelaw13_TimerOrders_r23) (.cond (.tmp 67) .skip (.exit 3))) (.seq (.block 4 (.seq (.reg ratlinelaw13_TimerOrders_r24) (.seq (.seq (.any ratlinelaw13_TimerOrders_t25) (.cond (.tmp 101) (.seq (.reg ratlinelaw13_TimerOrders_r26) .ret) .skip)) (.seq (.any ratlinelaw13_TimerOrders_t27) (.cond (.tmp 116) (.reg ratlinelaw13_TimerOrders_r28) .skip))))) (.reg ratlinelaw13_TimerOrders_r29)))
@[simp] def ratlinelaw13_TimerOrders_r31 : List VOp :=
  [⟨(some 119), none, .mov (.tmp 13)⟩,
   ⟨(some 120), none, .mov (.tmp 12)⟩,
   ⟨(some 121), none, .len (.tmp 120)⟩,
   ⟨(some 122), none, .bin .eql (.tmp 119) (.tmp 121)⟩,
   ⟨(some 6), none, .mov (.tmp 122)⟩]
def ratlinelaw13_TimerOrders : VCode := (.seq (.reg ratlinelaw13_TimerOrders_r0) (.seq (.reg ratlinelaw13_TimerOrders_r1) (.seq (.seq (.reg ratlinelaw13_TimerOrders_r2) (.cond (.tmp 19) (.seq (.reg ratlinelaw13_TimerOrders_r3) .ret) .skip)) (.seq (.seq (.reg ratlinelaw13_TimerOrders_r4) (.cond (.tmp 22) (.seq (.reg ratlinelaw13_TimerOrders_r5) .ret) .skip)) (.seq (.reg ratlinelaw13_TimerOrders_r6) (.seq (.seq (.reg ratlinelaw13_TimerOrders_r7) (.block 0 (.loop ratlinelaw13_TimerOrders_l18))) (.seq (.reg ratlinelaw13_TimerOrders_r19) (.seq (.reg ratlinelaw13_TimerOrders_r20) (.seq (.reg ratlinelaw13_TimerOrders_r21) (.seq (.seq (.reg ratlinelaw13_TimerOrders_r22) (.block 3 (.loop ratlinelaw13_TimerOrders_l30))) (.seq (.reg ratlinelaw13_TimerOrders_r31) .ret)))))))))))
theorem ratlinelaw13_TimerOrders_is : fnV prog n_ratlinelaw13_TimerOrders = some (123, ratlinelaw13_TimerOrders, [.tmp 6]) := by kernel_rfl

/- ratlinelaw13_awake -/
@[simp] def ratlinelaw13_awake_r0 : List VOp :=
  [⟨(some 0), none, .mov (.const (.bool false))⟩]
@[simp] def ratlinelaw13_awake_r1 : List VOp :=
  [⟨(some 2), none, .call n_timer_New []⟩,
   ⟨(some 1), none, .mov (.tmp 2)⟩]
@[simp] def ratlinelaw13_awake_r2 : List VOp :=
  [⟨(some 3), none, .mov (.tmp 1)⟩,
   ⟨(some 4), none, .call n_timer_Timer_Start [(.tmp 3), (.const (.int .i64 3))]⟩]
@[simp] def ratlinelaw13_awake_r3 : List VOp :=
  [⟨(some 5), none, .mov (.tmp 1)⟩,
   ⟨(some 6), none, .call n_timer_Timer_Pass [(.tmp 5), (.const (.int .i64 4))]⟩]
@[simp] def ratlinelaw13_awake_r4 : List VOp :=
  [⟨(some 7), none, .mov (.tmp 1)⟩,
   ⟨(some 8), none, .call n_timer_Timer_Start [(.tmp 7), (.const (.int .i64 1))]⟩]
@[simp] def ratlinelaw13_awake_r5 : List VOp :=
  [⟨(some 9), none, .mov (.tmp 1)⟩,
   ⟨(some 10), none, .call n_timer_Timer_Pass [(.tmp 9), (.const (.int .i64 1))]⟩]
@[simp] def ratlinelaw13_awake_r6 : List VOp :=
  [⟨(some 11), none, .mov (.tmp 1)⟩,
   ⟨(some 12), none, .call n_timer_Timer_Now [(.tmp 11)]⟩,
   ⟨(some 13), none, .bin .eql (.tmp 12) (.const (.int .i64 5))⟩,
   ⟨(some 14), none, .mov (.tmp 13)⟩,
   ⟨(some 15), (some (14, true)), .mov (.tmp 1)⟩,
   ⟨(some 16), (some (14, true)), .call n_timer_Timer_Due [(.tmp 15), (.const (.int .i64 5))]⟩,
   ⟨(some 17), (some (14, true)), .lit 1 1 [(0, (.const (.int .i64 3)))]⟩,
   ⟨(some 18), (some (14, true)), .call n_ratlineref10_Ints [(.tmp 16), (.tmp 17)]⟩,
   ⟨(some 19), none, .pick (.tmp 14) (.tmp 18) (.const (.bool false))⟩,
   ⟨(some 20), none, .mov (.tmp 19)⟩,
   ⟨(some 21), (some (20, true)), .mov (.tmp 1)⟩,
   ⟨(some 22), (some (20, true)), .call n_timer_Timer_Due [(.tmp 21), (.const (.int .i64 1))]⟩,
   ⟨(some 23), (some (20, true)), .lit 1 2 [(0, (.const (.int .i64 1))), (1, (.const (.int .i64 3)))]⟩,
   ⟨(some 24), (some (20, true)), .call n_ratlineref10_Ints [(.tmp 22), (.tmp 23)]⟩,
   ⟨(some 25), none, .pick (.tmp 20) (.tmp 24) (.const (.bool false))⟩,
   ⟨(some 0), none, .mov (.tmp 25)⟩]
def ratlinelaw13_awake : VCode := (.seq (.reg ratlinelaw13_awake_r0) (.seq (.reg ratlinelaw13_awake_r1) (.seq (.reg ratlinelaw13_awake_r2) (.seq (.reg ratlinelaw13_awake_r3) (.seq (.reg ratlinelaw13_awake_r4) (.seq (.reg ratlinelaw13_awake_r5) (.seq (.reg ratlinelaw13_awake_r6) .ret)))))))
theorem ratlinelaw13_awake_is : fnV prog n_ratlinelaw13_awake = some (26, ratlinelaw13_awake, [.tmp 0]) := by kernel_rfl

/- timer_New -/
@[simp] def timer_New_r0 : List VOp :=
  [⟨(some 0), none, .mov (.const (.pointer none))⟩]
@[simp] def timer_New_r1 : List VOp :=
  [⟨(some 1), none, .mkmap (false, [.i .i64], false)⟩,
   ⟨(some 2), none, .build [.iv (.v (.int .i64 0)), .iv (.v (.map none))] [(1, 1, (.tmp 1))]⟩,
   ⟨(some 3), none, .box (.tmp 2)⟩,
   ⟨(some 0), none, .mov (.tmp 3)⟩]
def timer_New : VCode := (.seq (.reg timer_New_r0) (.seq (.reg timer_New_r1) .ret))
theorem timer_New_is : fnV prog n_timer_New = some (4, timer_New, [.tmp 0]) := by kernel_rfl

/- timer_Timer_Pass -/
@[simp] def timer_Timer_Pass_r0 : List VOp :=
  [⟨(some 4), none, .mov (.tmp 0)⟩,
   ⟨(some 5), none, .peq true (.tmp 4) (.const (.pointer none))⟩]
@[simp] def timer_Timer_Pass_r1 : List VOp :=
  [⟨(some 6), none, .mov (.tmp 0)⟩,
   ⟨(some 7), none, .mov (.tmp 0)⟩,
   ⟨(some 8), none, .chk (.tmp 7)⟩,
   ⟨(some 9), none, .fa 0 (.tmp 8)⟩,
   ⟨(some 10), none, .ld (.tmp 9) none⟩,
   ⟨(some 11), none, .mov (.tmp 1)⟩,
   ⟨(some 12), none, .mm true [(.tmp 11), (.const (.int .i64 0))]⟩,
   ⟨(some 13), none, .mm false [(.tmp 12), (.const (.int .i64 1000))]⟩,
   ⟨(some 14), none, .bin .add (.tmp 10) (.tmp 13)⟩,
   ⟨(some 15), none, .mm false [(.tmp 14), (.const (.int .i64 1099511627776))]⟩,
   ⟨(some 16), none, .chk (.tmp 6)⟩,
   ⟨(some 17), none, .fa 0 (.tmp 16)⟩,
   ⟨none, none, .st (.tmp 17) (.tmp 15) 1⟩]
def timer_Timer_Pass : VCode := (.seq (.reg timer_Timer_Pass_r0) (.cond (.tmp 5) (.reg timer_Timer_Pass_r1) .skip))
theorem timer_Timer_Pass_is : fnV prog n_timer_Timer_Pass = some (18, timer_Timer_Pass, []) := by kernel_rfl

/- ratlineref13_Timer_Pass -/
@[simp] def ratlineref13_Timer_Pass_r0 : List VOp :=
  [⟨(some 2), none, .box (.tmp 0)⟩,
   ⟨(some 4), none, .alloc [.iv (.v (.int .i64 0)), .nil 2]⟩]
@[simp] def ratlineref13_Timer_Pass_r1 : List VOp :=
  [⟨(some 5), none, .fa 0 (.tmp 2)⟩,
   ⟨(some 6), none, .ld (.tmp 5) none⟩,
   ⟨(some 7), none, .mov (.tmp 1)⟩,
   ⟨(some 8), none, .mm true [(.tmp 7), (.const (.int .i64 0))]⟩,
   ⟨(some 9), none, .mm false [(.tmp 8), (.const (.int .i64 1000))]⟩,
   ⟨(some 10), none, .bin .add (.tmp 6) (.tmp 9)⟩,
   ⟨(some 11), none, .mm false [(.tmp 10), (.const (.int .i64 1099511627776))]⟩,
   ⟨(some 12), none, .fa 0 (.tmp 2)⟩,
   ⟨none, none, .st (.tmp 12) (.tmp 11) 1⟩]
@[simp] def ratlineref13_Timer_Pass_r2 : List VOp :=
  [⟨(some 13), none, .ld (.tmp 2) (some 2)⟩,
   ⟨none, none, .st (.tmp 4) (.tmp 13) 2⟩]
def ratlineref13_Timer_Pass : VCode := (.seq (.reg ratlineref13_Timer_Pass_r0) (.seq (.reg ratlineref13_Timer_Pass_r1) (.seq (.reg ratlineref13_Timer_Pass_r2) .ret)))
theorem ratlineref13_Timer_Pass_is : fnV prog n_ratlineref13_Timer_Pass = some (14, ratlineref13_Timer_Pass, [.cell 4 (some 2)]) := by kernel_rfl

/- timer_Timer_Start -/
@[simp] def timer_Timer_Start_r0 : List VOp :=
  [⟨(some 6), none, .mov (.tmp 0)⟩,
   ⟨(some 7), none, .peq false (.tmp 6) (.const (.pointer none))⟩]
@[simp] def timer_Timer_Start_r1 : List VOp :=
  [⟨(some 9), none, .mov (.tmp 0)⟩,
   ⟨(some 10), none, .chk (.tmp 9)⟩,
   ⟨(some 11), none, .fa 1 (.tmp 10)⟩,
   ⟨(some 12), none, .ld (.tmp 11) none⟩,
   ⟨(some 13), none, .mov (.tmp 1)⟩,
   ⟨(some 14), none, .lkp (false, [.i .i64], false) [.iv (.v (.int .i64 0))] (.tmp 12) (.tmp 13) true⟩,
   ⟨(some 8), none, .mov (.tmp 14)⟩,
   ⟨(some 15), none, .ext 0 (.tmp 8)⟩,
   ⟨(some 16), none, .ext 1 (.tmp 8)⟩,
   ⟨(some 4), none, .mov (.tmp 15)⟩,
   ⟨(some 5), none, .mov (.tmp 16)⟩]
@[simp] def timer_Timer_Start_r2 : List VOp :=
  [⟨(some 17), none, .mov (.tmp 5)⟩,
   ⟨(some 18), none, .un .not (.tmp 17)⟩]
@[simp] def timer_Timer_Start_t3 : VT :=
  .op ⟨(some 19), none, .mov (.tmp 0)⟩ <|
  .op ⟨(some 20), none, .chk (.tmp 19)⟩ <|
  .op ⟨(some 21), none, .fa 1 (.tmp 20)⟩ <|
  .op ⟨(some 22), none, .ld (.tmp 21) none⟩ <|
  .op ⟨(some 23), none, .mov (.tmp 1)⟩ <|
  .op ⟨(some 24), none, .mov (.tmp 0)⟩ <|
  .op ⟨(some 25), none, .chk (.tmp 24)⟩ <|
  .op ⟨(some 26), none, .fa 0 (.tmp 25)⟩ <|
  .op ⟨(some 27), none, .ld (.tmp 26) none⟩ <|
  .op ⟨none, none, .mset (false, [.i .i64], false) (.tmp 22) (.tmp 23) (.tmp 27)⟩ <|
  .done
def timer_Timer_Start : VCode := (.seq (.seq (.reg timer_Timer_Start_r0) (.cond (.tmp 7) .ret .skip)) (.seq (.reg timer_Timer_Start_r1) (.seq (.reg timer_Timer_Start_r2) (.cond (.tmp 18) (.any timer_Timer_Start_t3) .skip))))
theorem timer_Timer_Start_is : fnV prog n_timer_Timer_Start = some (28, timer_Timer_Start, []) := by kernel_rfl

/- ratlineref13_Timer_Start -/
@[simp] def ratlineref13_Timer_Start_r0 : List VOp :=
  [⟨(some 2), none, .box (.tmp 0)⟩,
   ⟨(some 4), none, .alloc [.iv (.v (.int .i64 0)), .nil 2]⟩]
@[simp] def ratlineref13_Timer_Start_r1 : List VOp :=
  [⟨(some 11), none, .ld (.tmp 2) (some 2)⟩,
   ⟨(some 12), none, .mov (.tmp 1)⟩,
   ⟨(some 13), none, .call n_ratlineref13_Timer_Since [(.tmp 11), (.tmp 12)]⟩,
   ⟨(some 10), none, .mov (.tmp 13)⟩,
   ⟨(some 14), none, .ext 0 (.tmp 10)⟩,
   ⟨(some 15), none, .ext 1 (.tmp 10)⟩,
   ⟨(some 5), none, .mov (.tmp 14)⟩,
   ⟨(some 6), none, .mov (.tmp 15)⟩]
@[simp] def ratlineref13_Timer_Start_r2 : List VOp :=
  [⟨(some 16), none, .mov (.tmp 6)⟩]
@[simp] def ratlineref13_Timer_Start_r3 : List VOp :=
  [⟨(some 17), none, .ld (.tmp 2) (some 2)⟩,
   ⟨none, none, .st (.tmp 4) (.tmp 17) 2⟩]
@[simp] def ratlineref13_Timer_Start_r4 : List VOp :=
  [⟨(some 7), none, .nils 2⟩]
@[simp] def ratlineref13_Timer_Start_r5 : List VOp :=
  [⟨(some 8), none, .mov (.const (.bool false))⟩]
@[simp] def ratlineref13_Timer_Start_r6 : List VOp :=
  [⟨(some 9), none, .mov (.const (.int .i64 0))⟩]
@[simp] def ratlineref13_Timer_Start_r7 : List VOp :=
  [⟨(some 18), none, .mov (.tmp 9)⟩,
   ⟨(some 19), none, .fa 1 (.tmp 2)⟩,
   ⟨(some 20), none, .ld (.tmp 19) none⟩,
   ⟨(some 21), none, .len (.tmp 20)⟩,
   ⟨(some 22), none, .bin .lss (.tmp 18) (.tmp 21)⟩]
@[simp] def ratlineref13_Timer_Start_r8 : List VOp :=
  [⟨(some 25), none, .fa 1 (.tmp 2)⟩,
   ⟨(some 26), none, .ld (.tmp 25) none⟩,
   ⟨(some 27), none, .mov (.tmp 9)⟩,
   ⟨(some 28), none, .ia 2 (.tmp 26) (.tmp 27)⟩,
   ⟨(some 29), none, .fa 0 (.tmp 28)⟩,
   ⟨(some 30), none, .ld (.tmp 29) none⟩,
   ⟨(some 31), none, .mov (.tmp 1)⟩,
   ⟨(some 32), none, .bin .gtr (.tmp 30) (.tmp 31)⟩,
   ⟨(some 33), none, .mov (.tmp 32)⟩,
   ⟨(some 34), (some (33, true)), .mov (.tmp 8)⟩,
   ⟨(some 35), (some (33, true)), .un .not (.tmp 34)⟩,
   ⟨(some 36), none, .pick (.tmp 33) (.tmp 35) (.const (.bool false))⟩]
@[simp] def ratlineref13_Timer_Start_r9 : List VOp :=
  [⟨(some 37), none, .mov (.tmp 7)⟩,
   ⟨(some 38), none, .mov (.tmp 1)⟩,
   ⟨(some 39), none, .fa 0 (.tmp 2)⟩,
   ⟨(some 40), none, .ld (.tmp 39) none⟩,
   ⟨(some 41), none, .build [.iv (.v (.int .i64 0)), .iv (.v (.int .i64 0))] [(0, 1, (.tmp 38)), (1, 1, (.tmp 40))]⟩,
   ⟨(some 42), none, .lit 2 1 [(0, (.tmp 41))]⟩,
   ⟨(some 43), none, .app 2 16 (.tmp 37) (.tmp 42)⟩,
   ⟨(some 7), none, .mov (.tmp 43)⟩]
@[simp] def ratlineref13_Timer_Start_r10 : List VOp :=
  [⟨(some 8), none, .mov (.const (.bool true))⟩]
@[simp] def ratlineref13_Timer_Start_r11 : List VOp :=
  [⟨(some 44), none, .mov (.tmp 7)⟩,
   ⟨(some 45), none, .fa 1 (.tmp 2)⟩,
   ⟨(some 46), none, .ld (.tmp 45) none⟩,
   ⟨(some 47), none, .mov (.tmp 9)⟩,
   ⟨(some 48), none, .ia 2 (.tmp 46) (.tmp 47)⟩,
   ⟨(some 49), none, .ld (.tmp 48) (some 2)⟩,
   ⟨(some 50), none, .lit 2 1 [(0, (.tmp 49))]⟩,
   ⟨(some 51), none, .app 2 16 (.tmp 44) (.tmp 50)⟩,
   ⟨(some 7), none, .mov (.tmp 51)⟩]
@[simp] def ratlineref13_Timer_Start_r12 : List VOp :=
  [⟨(some 23), none, .mov (.tmp 9)⟩,
   ⟨(some 24), none, .bin .add (.tmp 23) (.const (.int .i64 1))⟩,
   ⟨(some 9), none, .mov (.tmp 24)⟩]
def ratlineref13_Timer_Start_l13 : VCode :=
  (.seq (.seq (.reg ratlineref13_Timer_Start_r7) (.cond (.tmp 22) .skip (.exit 0))) (.seq (.block 1 (.seq (.seq (.reg ratlineref13_Timer_Start_r8) (.cond (.tmp 36) (.seq (.reg ratlineref13_Timer_Start_r9) (.reg ratlineref13_Timer_Start_r10)) .skip)) (.reg ratlineref13_Timer_Start_r11))) (.reg ratlineref13_Timer_Start_r12)))
@[simp] def ratlineref13_Timer_Start_r14 : List VOp :=
  [⟨(some 52), none, .mov (.tmp 8)⟩,
   ⟨(some 53), none, .un .not (.tmp 52)⟩]
@[simp] def ratlineref13_Timer_Start_r15 : List VOp :=
  [⟨(some 54), none, .mov (.tmp 7)⟩,
   ⟨(some 55), none, .mov (.tmp 1)⟩,
   ⟨(some 56), none, .fa 0 (.tmp 2)⟩,
   ⟨(some 57), none, .ld (.tmp 56) none⟩,
   ⟨(some 58), none, .build [.iv (.v (.int .i64 0)), .iv (.v (.int .i64 0))] [(0, 1, (.tmp 55)), (1, 1, (.tmp 57))]⟩,
   ⟨(some 59), none, .lit 2 1 [(0, (.tmp 58))]⟩,
   ⟨(some 60), none, .app 2 16 (.tmp 54) (.tmp 59)⟩,
   ⟨(some 7), none, .mov (.tmp 60)⟩]
@[simp] def ratlineref13_Timer_Start_r16 : List VOp :=
  [⟨(some 61), none, .mov (.tmp 7)⟩,
   ⟨(some 62), none, .fa 1 (.tmp 2)⟩,
   ⟨none, none, .st (.tmp 62) (.tmp 61) 1⟩]
@[simp] def ratlineref13_Timer_Start_r17 : List VOp :=
  [⟨(some 63), none, .ld (.tmp 2) (some 2)⟩,
   ⟨none, none, .st (.tmp 4) (.tmp 63) 2⟩]
def ratlineref13_Timer_Start : VCode := (.seq (.reg ratlineref13_Timer_Start_r0) (.seq (.reg ratlineref13_Timer_Start_r1) (.seq (.seq (.reg ratlineref13_Timer_Start_r2) (.cond (.tmp 16) (.seq (.reg ratlineref13_Timer_Start_r3) .ret) .skip)) (.seq (.reg ratlineref13_Timer_Start_r4) (.seq (.reg ratlineref13_Timer_Start_r5) (.seq (.seq (.reg ratlineref13_Timer_Start_r6) (.block 0 (.loop ratlineref13_Timer_Start_l13))) (.seq (.seq (.reg ratlineref13_Timer_Start_r14) (.cond (.tmp 53) (.reg ratlineref13_Timer_Start_r15) .skip)) (.seq (.reg ratlineref13_Timer_Start_r16) (.seq (.reg ratlineref13_Timer_Start_r17) .ret)))))))))
theorem ratlineref13_Timer_Start_is : fnV prog n_ratlineref13_Timer_Start = some (64, ratlineref13_Timer_Start, [.cell 4 (some 2)]) := by kernel_rfl

/- timer_Timer_Stop -/
@[simp] def timer_Timer_Stop_r0 : List VOp :=
  [⟨(some 4), none, .mov (.tmp 0)⟩,
   ⟨(some 5), none, .peq true (.tmp 4) (.const (.pointer none))⟩]
@[simp] def timer_Timer_Stop_r1 : List VOp :=
  [⟨(some 6), none, .mov (.tmp 0)⟩,
   ⟨(some 7), none, .chk (.tmp 6)⟩,
   ⟨(some 8), none, .fa 1 (.tmp 7)⟩,
   ⟨(some 9), none, .ld (.tmp 8) none⟩,
   ⟨(some 10), none, .mov (.tmp 1)⟩,
   ⟨none, none, .mdel (false, [.i .i64], false) (.tmp 9) (.tmp 10)⟩]
def timer_Timer_Stop : VCode := (.seq (.reg timer_Timer_Stop_r0) (.cond (.tmp 5) (.reg timer_Timer_Stop_r1) .skip))
theorem timer_Timer_Stop_is : fnV prog n_timer_Timer_Stop = some (11, timer_Timer_Stop, []) := by kernel_rfl

/- ratlineref13_Timer_Stop -/
@[simp] def ratlineref13_Timer_Stop_r0 : List VOp :=
  [⟨(some 2), none, .box (.tmp 0)⟩,
   ⟨(some 4), none, .alloc [.iv (.v (.int .i64 0)), .nil 2]⟩]
@[simp] def ratlineref13_Timer_Stop_r1 : List VOp :=
  [⟨(some 5), none, .nils 2⟩]
@[simp] def ratlineref13_Timer_Stop_r2 : List VOp :=
  [⟨(some 6), none, .mov (.const (.int .i64 0))⟩]
@[simp] def ratlineref13_Timer_Stop_r3 : List VOp :=
  [⟨(some 7), none, .mov (.tmp 6)⟩,
   ⟨(some 8), none, .fa 1 (.tmp 2)⟩,
   ⟨(some 9), none, .ld (.tmp 8) none⟩,
   ⟨(some 10), none, .len (.tmp 9)⟩,
   ⟨(some 11), none, .bin .lss (.tmp 7) (.tmp 10)⟩]
@[simp] def ratlineref13_Timer_Stop_r4 : List VOp :=
  [⟨(some 14), none, .fa 1 (.tmp 2)⟩,
   ⟨(some 15), none, .ld (.tmp 14) none⟩,
   ⟨(some 16), none, .mov (.tmp 6)⟩,
   ⟨(some 17), none, .ia 2 (.tmp 15) (.tmp 16)⟩,
   ⟨(some 18), none, .fa 0 (.tmp 17)⟩,
   ⟨(some 19), none, .ld (.tmp 18) none⟩,
   ⟨(some 20), none, .mov (.tmp 1)⟩,
   ⟨(some 21), none, .bin .neq (.tmp 19) (.tmp 20)⟩]
@[simp] def ratlineref13_Timer_Stop_r5 : List VOp :=
  [⟨(some 22), none, .mov (.tmp 5)⟩,
   ⟨(some 23), none, .fa 1 (.tmp 2)⟩,
   ⟨(some 24), none, .ld (.tmp 23) none⟩,
   ⟨(some 25), none, .mov (.tmp 6)⟩,
   ⟨(some 26), none, .ia 2 (.tmp 24) (.tmp 25)⟩,
   ⟨(some 27), none, .ld (.tmp 26) (some 2)⟩,
   ⟨(some 28), none, .lit 2 1 [(0, (.tmp 27))]⟩,
   ⟨(some 29), none, .app 2 16 (.tmp 22) (.tmp 28)⟩,
   ⟨(some 5), none, .mov (.tmp 29)⟩]
@[simp] def ratlineref13_Timer_Stop_r6 : List VOp :=
  [⟨(some 12), none, .mov (.tmp 6)⟩,
   ⟨(some 13), none, .bin .add (.tmp 12) (.const (.int .i64 1))⟩,
   ⟨(some 6), none, .mov (.tmp 13)⟩]
def ratlineref13_Timer_Stop_l7 : VCode :=
  (.seq (.seq (.reg ratlineref13_Timer_Stop_r3) (.cond (.tmp 11) .skip (.exit 0))) (.seq (.block 1 (.seq (.reg ratlineref13_Timer_Stop_r4) (.cond (.tmp 21) (.reg ratlineref13_Timer_Stop_r5) .skip))) (.reg ratlineref13_Timer_Stop_r6)))
@[simp] def ratlineref13_Timer_Stop_r8 : List VOp :=
  [⟨(some 30), none, .mov (.tmp 5)⟩,
   ⟨(some 31), none, .fa 1 (.tmp 2)⟩,
   ⟨none, none, .st (.tmp 31) (.tmp 30) 1⟩]
@[simp] def ratlineref13_Timer_Stop_r9 : List VOp :=
  [⟨(some 32), none, .ld (.tmp 2) (some 2)⟩,
   ⟨none, none, .st (.tmp 4) (.tmp 32) 2⟩]
def ratlineref13_Timer_Stop : VCode := (.seq (.reg ratlineref13_Timer_Stop_r0) (.seq (.reg ratlineref13_Timer_Stop_r1) (.seq (.seq (.reg ratlineref13_Timer_Stop_r2) (.block 0 (.loop ratlineref13_Timer_Stop_l7))) (.seq (.reg ratlineref13_Timer_Stop_r8) (.seq (.reg ratlineref13_Timer_Stop_r9) .ret)))))
theorem ratlineref13_Timer_Stop_is : fnV prog n_ratlineref13_Timer_Stop = some (33, ratlineref13_Timer_Stop, [.cell 4 (some 2)]) := by kernel_rfl

/- timer_Timer_Since -/
@[simp] def timer_Timer_Since_r0 : List VOp :=
  [⟨(some 4), none, .mov (.const (.int .i64 0))⟩,
   ⟨(some 5), none, .mov (.const (.bool false))⟩]
@[simp] def timer_Timer_Since_r1 : List VOp :=
  [⟨(some 8), none, .mov (.tmp 0)⟩,
   ⟨(some 9), none, .peq false (.tmp 8) (.const (.pointer none))⟩]
@[simp] def timer_Timer_Since_r2 : List VOp :=
  [⟨(some 4), none, .mov (.const (.int .i64 0))⟩,
   ⟨(some 5), none, .mov (.const (.bool false))⟩]
@[simp] def timer_Timer_Since_r3 : List VOp :=
  [⟨(some 11), none, .mov (.tmp 0)⟩,
   ⟨(some 12), none, .chk (.tmp 11)⟩,
   ⟨(some 13), none, .fa 1 (.tmp 12)⟩,
   ⟨(some 14), none, .ld (.tmp 13) none⟩,
   ⟨(some 15), none, .mov (.tmp 1)⟩,
   ⟨(some 16), none, .lkp (false, [.i .i64], false) [.iv (.v (.int .i64 0))] (.tmp 14) (.tmp 15) true⟩,
   ⟨(some 10), none, .mov (.tmp 16)⟩,
   ⟨(some 17), none, .ext 0 (.tmp 10)⟩,
   ⟨(some 18), none, .ext 1 (.tmp 10)⟩,
   ⟨(some 6), none, .mov (.tmp 17)⟩,
   ⟨(some 7), none, .mov (.tmp 18)⟩]
@[simp] def timer_Timer_Since_r4 : List VOp :=
  [⟨(some 19), none, .mov (.tmp 7)⟩,
   ⟨(some 20), none, .un .not (.tmp 19)⟩]
@[simp] def timer_Timer_Since_r5 : List VOp :=
  [⟨(some 4), none, .mov (.const (.int .i64 0))⟩,
   ⟨(some 5), none, .mov (.const (.bool false))⟩]
@[simp] def timer_Timer_Since_r6 : List VOp :=
  [⟨(some 21), none, .mov (.tmp 0)⟩,
   ⟨(some 22), none, .chk (.tmp 21)⟩,
   ⟨(some 23), none, .fa 0 (.tmp 22)⟩,
   ⟨(some 24), none, .ld (.tmp 23) none⟩,
   ⟨(some 25), none, .mov (.tmp 6)⟩,
   ⟨(some 26), none, .bin .sub (.tmp 24) (.tmp 25)⟩,
   ⟨(some 4), none, .mov (.tmp 26)⟩,
   ⟨(some 5), none, .mov (.const (.bool true))⟩]
def timer_Timer_Since : VCode := (.seq (.reg timer_Timer_Since_r0) (.seq (.seq (.reg timer_Timer_Since_r1) (.cond (.tmp 9) (.seq (.reg timer_Timer_Since_r2) .ret) .skip)) (.seq (.reg timer_Timer_Since_r3) (.seq (.seq (.reg timer_Timer_Since_r4) (.cond (.tmp 20) (.seq (.reg timer_Timer_Since_r5) .ret) .skip)) (.seq (.reg timer_Timer_Since_r6) .ret)))))
theorem timer_Timer_Since_is : fnV prog n_timer_Timer_Since = some (27, timer_Timer_Since, [.tmp 4, .tmp 5]) := by kernel_rfl

/- ratlineref13_Timer_Since -/
@[simp] def ratlineref13_Timer_Since_r0 : List VOp :=
  [⟨(some 2), none, .box (.tmp 0)⟩,
   ⟨(some 4), none, .mov (.const (.int .i64 0))⟩,
   ⟨(some 5), none, .mov (.const (.bool false))⟩]
@[simp] def ratlineref13_Timer_Since_r1 : List VOp :=
  [⟨(some 6), none, .mov (.const (.int .i64 0))⟩]
@[simp] def ratlineref13_Timer_Since_r2 : List VOp :=
  [⟨(some 7), none, .mov (.tmp 6)⟩,
   ⟨(some 8), none, .fa 1 (.tmp 2)⟩,
   ⟨(some 9), none, .ld (.tmp 8) none⟩,
   ⟨(some 10), none, .len (.tmp 9)⟩,
   ⟨(some 11), none, .bin .lss (.tmp 7) (.tmp 10)⟩]
@[simp] def ratlineref13_Timer_Since_r3 : List VOp :=
  [⟨(some 14), none, .fa 1 (.tmp 2)⟩,
   ⟨(some 15), none, .ld (.tmp 14) none⟩,
   ⟨(some 16), none, .mov (.tmp 6)⟩,
   ⟨(some 17), none, .ia 2 (.tmp 15) (.tmp 16)⟩,
   ⟨(some 18), none, .fa 0 (.tmp 17)⟩,
   ⟨(some 19), none, .ld (.tmp 18) none⟩,
   ⟨(some 20), none, .mov (.tmp 1)⟩,
   ⟨(some 21), none, .bin .eql (.tmp 19) (.tmp 20)⟩]
@[simp] def ratlineref13_Timer_Since_t4 : VT :=
  .op ⟨(some 22), none, .fa 0 (.tmp 2)⟩ <|
  .op ⟨(some 23), none, .ld (.tmp 22) none⟩ <|
  .op ⟨(some 24), none, .fa 1 (.tmp 2)⟩ <|
  .op ⟨(some 25), none, .ld (.tmp 24) none⟩ <|
  .op ⟨(some 26), none, .mov (.tmp 6)⟩ <|
  .op ⟨(some 27), none, .ia 2 (.tmp 25) (.tmp 26)⟩ <|
  .op ⟨(some 28), none, .fa 1 (.tmp 27)⟩ <|
  .op ⟨(some 29), none, .ld (.tmp 28) none⟩ <|
  .op ⟨(some 30), none, .bin .sub (.tmp 23) (.tmp 29)⟩ <|
  .op ⟨(some 4), none, .mov (.tmp 30)⟩ <|
  .op ⟨(some 5), none, .mov (.const (.bool true))⟩ <|
  .done
@[simp] def ratlineref13_Timer_Since_r5 : List VOp :=
  [⟨(some 12), none, .mov (.tmp 6)⟩,
   ⟨(some 13), none, .bin .add (.tmp 12) (.const (.int .i64 1))⟩,
   ⟨(some 6), none, .mov (.tmp 13)⟩]
def ratlineref13_Timer_Since_l6 : VCode :=
  (.seq (.seq (.reg ratlineref13_Timer_Since_r2) (.cond (.tmp 11) .skip (.exit 0))) (.seq (.block 1 (.seq (.reg ratlineref13_Timer_Since_r3) (.cond (.tmp 21) (.seq (.any ratlineref13_Timer_Since_t4) .ret) .skip))) (.reg ratlineref13_Timer_Since_r5)))
@[simp] def ratlineref13_Timer_Since_r7 : List VOp :=
  [⟨(some 4), none, .mov (.const (.int .i64 0))⟩,
   ⟨(some 5), none, .mov (.const (.bool false))⟩]
def ratlineref13_Timer_Since : VCode := (.seq (.reg ratlineref13_Timer_Since_r0) (.seq (.seq (.reg ratlineref13_Timer_Since_r1) (.block 0 (.loop ratlineref13_Timer_Since_l6))) (.seq (.reg ratlineref13_Timer_Since_r7) .ret)))
theorem ratlineref13_Timer_Since_is : fnV prog n_ratlineref13_Timer_Since = some (31, ratlineref13_Timer_Since, [.tmp 4, .tmp 5]) := by kernel_rfl

/- timer_Timer_Now -/
@[simp] def timer_Timer_Now_r0 : List VOp :=
  [⟨(some 2), none, .mov (.const (.int .i64 0))⟩]
@[simp] def timer_Timer_Now_r1 : List VOp :=
  [⟨(some 3), none, .mov (.tmp 0)⟩,
   ⟨(some 4), none, .peq false (.tmp 3) (.const (.pointer none))⟩]
@[simp] def timer_Timer_Now_r2 : List VOp :=
  [⟨(some 2), none, .mov (.const (.int .i64 0))⟩]
@[simp] def timer_Timer_Now_r3 : List VOp :=
  [⟨(some 5), none, .mov (.tmp 0)⟩,
   ⟨(some 6), none, .chk (.tmp 5)⟩,
   ⟨(some 7), none, .fa 0 (.tmp 6)⟩,
   ⟨(some 8), none, .ld (.tmp 7) none⟩,
   ⟨(some 2), none, .mov (.tmp 8)⟩]
def timer_Timer_Now : VCode := (.seq (.reg timer_Timer_Now_r0) (.seq (.seq (.reg timer_Timer_Now_r1) (.cond (.tmp 4) (.seq (.reg timer_Timer_Now_r2) .ret) .skip)) (.seq (.reg timer_Timer_Now_r3) .ret)))
theorem timer_Timer_Now_is : fnV prog n_timer_Timer_Now = some (9, timer_Timer_Now, [.tmp 2]) := by kernel_rfl

/- ratlineref10_Ints -/
@[simp] def ratlineref10_Ints_r0 : List VOp :=
  [⟨(some 4), none, .mov (.const (.bool false))⟩]
@[simp] def ratlineref10_Ints_r1 : List VOp :=
  [⟨(some 6), none, .mov (.tmp 0)⟩,
   ⟨(some 7), none, .len (.tmp 6)⟩,
   ⟨(some 8), none, .mov (.tmp 1)⟩,
   ⟨(some 9), none, .len (.tmp 8)⟩,
   ⟨(some 10), none, .bin .neq (.tmp 7) (.tmp 9)⟩]
@[simp] def ratlineref10_Ints_r2 : List VOp :=
  [⟨(some 4), none, .mov (.const (.bool false))⟩]
@[simp] def ratlineref10_Ints_r3 : List VOp :=
  [⟨(some 5), none, .mov (.const (.int .i64 0))⟩]
@[simp] def ratlineref10_Ints_r4 : List VOp :=
  [⟨(some 11), none, .mov (.tmp 5)⟩,
   ⟨(some 12), none, .mov (.tmp 0)⟩,
   ⟨(some 13), none, .len (.tmp 12)⟩,
   ⟨(some 14), none, .bin .lss (.tmp 11) (.tmp 13)⟩]
@[simp] def ratlineref10_Ints_t5 : VT :=
  .op ⟨(some 17), none, .mov (.tmp 0)⟩ <|
  .op ⟨(some 18), none, .mov (.tmp 5)⟩ <|
  .op ⟨(some 19), none, .ia 1 (.tmp 17) (.tmp 18)⟩ <|
  .op ⟨(some 20), none, .ld (.tmp 19) none⟩ <|
  .op ⟨(some 21), none, .mov (.tmp 1)⟩ <|
  .op ⟨(some 22), none, .mov (.tmp 5)⟩ <|
  .op ⟨(some 23), none, .ia 1 (.tmp 21) (.tmp 22)⟩ <|
  .op ⟨(some 24), none, .ld (.tmp 23) none⟩ <|
  .op ⟨(some 25), none, .bin .neq (.tmp 20) (.tmp 24)⟩ <|
  .done
@[simp] def ratlineref10_Ints_r6 : List VOp :=
  [⟨(some 4), none, .mov (.const (.bool false))⟩]
@[simp] def ratlineref10_Ints_r7 : List VOp :=
  [⟨(some 15), none, .mov (.tmp 5)⟩,
   ⟨(some 16), none, .bin .add (.tmp 15) (.const (.int .i64 1))⟩,
   ⟨(some 5), none, .mov (.tmp 16)⟩]
def ratlineref10_Ints_l8 : VCode :=
  (.seq (.seq (.reg ratlineref10_Ints_r4) (.cond (.tmp 14) .skip (.exit 0))) (.seq (.block 1 (.seq (.any ratlineref10_Ints_t5) (.cond (.tmp 25) (.seq (.reg ratlineref10_Ints_r6) .ret) .skip))) (.reg ratlineref10_Ints_r7)))
@[simp] def ratlineref10_Ints_r9 : List VOp :=
  [⟨(some 4), none, .mov (.const (.bool true))⟩]
def ratlineref10_Ints : VCode := (.seq (.reg ratlineref10_Ints_r0) (.seq (.seq (.reg ratlineref10_Ints_r1) (.cond (.tmp 10) (.seq (.reg ratlineref10_Ints_r2) .ret) .skip)) (.seq (.seq (.reg ratlineref10_Ints_r3) (.block 0 (.loop ratlineref10_Ints_l8))) (.seq (.reg ratlineref10_Ints_r9) .ret))))
theorem ratlineref10_Ints_is : fnV prog n_ratlineref10_Ints = some (26, ratlineref10_Ints, [.tmp 4]) := by kernel_rfl

/- timer_Timer_Due -/
@[simp] def timer_Timer_Due_r0 : List VOp :=
  [⟨(some 3), none, .box (.tmp 1)⟩,
   ⟨(some 4), none, .nils 1⟩]
@[simp] def timer_Timer_Due_r1 : List VOp :=
  [⟨(some 5), none, .alloc [.nil 1]⟩]
@[simp] def timer_Timer_Due_r2 : List VOp :=
  [⟨(some 8), none, .mov (.tmp 0)⟩,
   ⟨(some 9), none, .peq false (.tmp 8) (.const (.pointer none))⟩]
@[simp] def timer_Timer_Due_r3 : List VOp :=
  [⟨(some 10), none, .ld (.tmp 5) none⟩,
   ⟨(some 4), none, .mov (.tmp 10)⟩]
@[simp] def timer_Timer_Due_r4 : List VOp :=
  [⟨(some 11), none, .mov (.tmp 0)⟩,
   ⟨(some 12), none, .call n_timer_Timer_waiting [(.tmp 11)]⟩]
@[simp] def timer_Timer_Due_r5 : List VOp :=
  [⟨(some 6), none, .mov (.tmp 13)⟩]
@[simp] def timer_Timer_Due_r6 : List VOp :=
  [⟨(some 7), none, .mov (.tmp 14)⟩]
@[simp] def timer_Timer_Due_r7 : List VOp :=
  [⟨(some 15), none, .mov (.tmp 7)⟩,
   ⟨(some 16), none, .ld (.tmp 3) none⟩,
   ⟨(some 17), none, .bin .geq (.tmp 15) (.tmp 16)⟩]
@[simp] def timer_Timer_Due_r8 : List VOp :=
  [⟨(some 18), none, .ld (.tmp 5) none⟩,
   ⟨(some 19), none, .mov (.tmp 6)⟩,
   ⟨(some 20), none, .lit 1 1 [(0, (.tmp 19))]⟩,
   ⟨(some 21), none, .app 1 8 (.tmp 18) (.tmp 20)⟩,
   ⟨none, none, .st (.tmp 5) (.tmp 21) 1⟩]
def timer_Timer_Due_a9 : VCode :=
  (.seq (.reg timer_Timer_Due_r5) (.reg timer_Timer_Due_r6))
def timer_Timer_Due_b10 : VCode :=
  (.block 1 (.seq (.reg timer_Timer_Due_r7) (.cond (.tmp 17) (.reg timer_Timer_Due_r8) .skip)))
@[simp] def timer_Timer_Due_r11 : List VOp :=
  [⟨(some 22), none, .ld (.tmp 5) none⟩,
   ⟨(some 4), none, .mov (.tmp 22)⟩]
def timer_Timer_Due : VCode := (.seq (.reg timer_Timer_Due_r0) (.seq (.reg timer_Timer_Due_r1) (.seq (.seq (.reg timer_Timer_Due_r2) (.cond (.tmp 9) (.seq (.reg timer_Timer_Due_r3) .ret) .skip)) (.seq (.seq (.reg timer_Timer_Due_r4) (.block 0 (.rng (.tmp 12) [13, 14] timer_Timer_Due_a9 timer_Timer_Due_b10))) (.seq (.reg timer_Timer_Due_r11) .ret)))))
theorem timer_Timer_Due_is : fnV prog n_timer_Timer_Due = some (23, timer_Timer_Due, [.tmp 4]) := by kernel_rfl

/- ratlineref13_Timer_Due -/
@[simp] def ratlineref13_Timer_Due_r0 : List VOp :=
  [⟨(some 2), none, .box (.tmp 0)⟩,
   ⟨(some 4), none, .nils 1⟩]
@[simp] def ratlineref13_Timer_Due_r1 : List VOp :=
  [⟨(some 5), none, .nils 1⟩]
@[simp] def ratlineref13_Timer_Due_r2 : List VOp :=
  [⟨(some 6), none, .mov (.const (.int .i64 0))⟩]
@[simp] def ratlineref13_Timer_Due_r3 : List VOp :=
  [⟨(some 7), none, .mov (.tmp 6)⟩,
   ⟨(some 8), none, .fa 1 (.tmp 2)⟩,
   ⟨(some 9), none, .ld (.tmp 8) none⟩,
   ⟨(some 10), none, .len (.tmp 9)⟩,
   ⟨(some 11), none, .bin .lss (.tmp 7) (.tmp 10)⟩]
@[simp] def ratlineref13_Timer_Due_t4 : VT :=
  .op ⟨(some 14), none, .fa 0 (.tmp 2)⟩ <|
  .op ⟨(some 15), none, .ld (.tmp 14) none⟩ <|
  .op ⟨(some 16), none, .fa 1 (.tmp 2)⟩ <|
  .op ⟨(some 17), none, .ld (.tmp 16) none⟩ <|
  .op ⟨(some 18), none, .mov (.tmp 6)⟩ <|
  .op ⟨(some 19), none, .ia 2 (.tmp 17) (.tmp 18)⟩ <|
  .op ⟨(some 20), none, .fa 1 (.tmp 19)⟩ <|
  .op ⟨(some 21), none, .ld (.tmp 20) none⟩ <|
  .op ⟨(some 22), none, .bin .sub (.tmp 15) (.tmp 21)⟩ <|
  .op ⟨(some 23), none, .mov (.tmp 1)⟩ <|
  .op ⟨(some 24), none, .bin .geq (.tmp 22) (.tmp 23)⟩ <|
  .done
@[simp] def ratlineref13_Timer_Due_r5 : List VOp :=
  [⟨(some 25), none, .mov (.tmp 5)⟩,
   ⟨(some 26), none, .fa 1 (.tmp 2)⟩,
   ⟨(some 27), none, .ld (.tmp 26) none⟩,
   ⟨(some 28), none, .mov (.tmp 6)⟩,
   ⟨(some 29), none, .ia 2 (.tmp 27) (.tmp 28)⟩,
   ⟨(some 30), none, .fa 0 (.tmp 29)⟩,
   ⟨(some 31), none, .ld (.tmp 30) none⟩,
   ⟨(some 32), none, .lit 1 1 [(0, (.tmp 31))]⟩,
   ⟨(some 33), none, .app 1 8 (.tmp 25) (.tmp 32)⟩,
   ⟨(some 5), none, .mov (.tmp 33)⟩]
@[simp] def ratlineref13_Timer_Due_r6 : List VOp :=
  [⟨(some 12), none, .mov (.tmp 6)⟩,
   ⟨(some 13), none, .bin .add (.tmp 12) (.const (.int .i64 1))⟩,
   ⟨(some 6), none, .mov (.tmp 13)⟩]
def ratlineref13_Timer_Due_l7 : VCode :=
  (.seq (.seq (.reg ratlineref13_Timer_Due_r3) (.cond (.tmp 11) .skip (.exit 0))) (.seq (.block 1 (.seq (.any ratlineref13_Timer_Due_t4) (.cond (.tmp 24) (.reg ratlineref13_Timer_Due_r5) .skip))) (.reg ratlineref13_Timer_Due_r6)))
@[simp] def ratlineref13_Timer_Due_r8 : List VOp :=
  [⟨(some 34), none, .mov (.tmp 5)⟩,
   ⟨(some 4), none, .mov (.tmp 34)⟩]
def ratlineref13_Timer_Due : VCode := (.seq (.reg ratlineref13_Timer_Due_r0) (.seq (.reg ratlineref13_Timer_Due_r1) (.seq (.seq (.reg ratlineref13_Timer_Due_r2) (.block 0 (.loop ratlineref13_Timer_Due_l7))) (.seq (.reg ratlineref13_Timer_Due_r8) .ret))))
theorem ratlineref13_Timer_Due_is : fnV prog n_ratlineref13_Timer_Due = some (35, ratlineref13_Timer_Due, [.tmp 4]) := by kernel_rfl

/- timer_Timer_waiting -/
@[simp] def timer_Timer_waiting_r0 : List VOp :=
  [⟨(some 1), none, .box (.tmp 0)⟩,
   ⟨(some 2), none, .mov (.const .nilFunc)⟩]
@[simp] def timer_Timer_waiting_r1 : List VOp :=
  [⟨(some 3), none, .mkfn n_timer_Timer_waiting_1 [] [(.tmp 1)]⟩,
   ⟨(some 2), none, .mov (.tmp 3)⟩]
def timer_Timer_waiting : VCode := (.seq (.reg timer_Timer_waiting_r0) (.seq (.reg timer_Timer_waiting_r1) .ret))
theorem timer_Timer_waiting_is : fnV prog n_timer_Timer_waiting = some (4, timer_Timer_waiting, [.tmp 2]) := by kernel_rfl

/- timer_Timer_waiting_1 -/
@[simp] def timer_Timer_waiting_1_r0 : List VOp :=
  [⟨(some 5), none, .ld (.tmp 1) none⟩,
   ⟨(some 6), none, .chk (.tmp 5)⟩,
   ⟨(some 7), none, .fa 1 (.tmp 6)⟩,
   ⟨(some 8), none, .ld (.tmp 7) none⟩,
   ⟨(some 9), none, .call n_maps_Keys_map_int_int_int_int [(.tmp 8)]⟩,
   ⟨(some 10), none, .call n_slices_Sorted_int [(.tmp 9)]⟩,
   ⟨(some 11), none, .len (.tmp 10)⟩,
   ⟨(some 12), none, .mov (.const (.int .i64 0))⟩]
@[simp] def timer_Timer_waiting_1_r1 : List VOp :=
  [⟨(some 13), none, .bin .lss (.tmp 12) (.tmp 11)⟩]
@[simp] def timer_Timer_waiting_1_r2 : List VOp :=
  [⟨(some 14), none, .ia 1 (.tmp 10) (.tmp 12)⟩,
   ⟨(some 15), none, .ld (.tmp 14) none⟩,
   ⟨(some 4), none, .mov (.tmp 15)⟩]
@[simp] def timer_Timer_waiting_1_t3 : VT :=
  .op ⟨(some 16), none, .mov (.tmp 0)⟩ <|
  .op ⟨(some 17), none, .mov (.tmp 4)⟩ <|
  .op ⟨(some 18), none, .ld (.tmp 1) none⟩ <|
  .op ⟨(some 19), none, .chk (.tmp 18)⟩ <|
  .op ⟨(some 20), none, .fa 0 (.tmp 19)⟩ <|
  .op ⟨(some 21), none, .ld (.tmp 20) none⟩ <|
  .op ⟨(some 22), none, .ld (.tmp 1) none⟩ <|
  .op ⟨(some 23), none, .chk (.tmp 22)⟩ <|
  .op ⟨(some 24), none, .fa 1 (.tmp 23)⟩ <|
  .op ⟨(some 25), none, .ld (.tmp 24) none⟩ <|
  .op ⟨(some 26), none, .mov (.tmp 4)⟩ <|
  .op ⟨(some 27), none, .lkp (false, [.i .i64], false) [.iv (.v (.int .i64 0))] (.tmp 25) (.tmp 26) false⟩ <|
  .op ⟨(some 28), none, .bin .sub (.tmp 21) (.tmp 27)⟩ <|
  .op ⟨(some 29), none, .callv (.tmp 16) [(.tmp 17), (.tmp 28)]⟩ <|
  .op ⟨(some 30), none, .un .not (.tmp 29)⟩ <|
  .done
@[simp] def timer_Timer_waiting_1_r4 : List VOp :=
  [⟨(some 31), none, .bin .add (.tmp 12) (.const (.int .i64 1))⟩,
   ⟨(some 12), none, .mov (.tmp 31)⟩]
def timer_Timer_waiting_1_l5 : VCode :=
  (.seq (.reg timer_Timer_waiting_1_r1) (.seq (.cond (.tmp 13) .skip (.exit 0)) (.seq (.block 1 (.seq (.reg timer_Timer_waiting_1_r2) (.seq (.any timer_Timer_waiting_1_t3) (.cond (.tmp 30) .ret .skip)))) (.reg timer_Timer_waiting_1_r4))))
def timer_Timer_waiting_1 : VCode := (.seq (.reg timer_Timer_waiting_1_r0) (.block 0 (.loop timer_Timer_waiting_1_l5)))
theorem timer_Timer_waiting_1_is : fnV prog n_timer_Timer_waiting_1 = some (32, timer_Timer_waiting_1, []) := by kernel_rfl

/- slices_Sorted_int -/
@[simp] def slices_Sorted_int_r0 : List VOp :=
  [⟨(some 2), none, .nils 1⟩]
@[simp] def slices_Sorted_int_r1 : List VOp :=
  [⟨(some 4), none, .mov (.tmp 0)⟩,
   ⟨(some 5), none, .call n_slices_Collect_int [(.tmp 4)]⟩,
   ⟨(some 3), none, .mov (.tmp 5)⟩]
@[simp] def slices_Sorted_int_r2 : List VOp :=
  [⟨(some 6), none, .mov (.tmp 3)⟩,
   ⟨(some 7), none, .call n_slices_Sort_int_int [(.tmp 6)]⟩]
@[simp] def slices_Sorted_int_r3 : List VOp :=
  [⟨(some 8), none, .mov (.tmp 3)⟩,
   ⟨(some 2), none, .mov (.tmp 8)⟩]
def slices_Sorted_int : VCode := (.seq (.reg slices_Sorted_int_r0) (.seq (.reg slices_Sorted_int_r1) (.seq (.reg slices_Sorted_int_r2) (.seq (.reg slices_Sorted_int_r3) .ret))))
theorem slices_Sorted_int_is : fnV prog n_slices_Sorted_int = some (9, slices_Sorted_int, [.tmp 2]) := by kernel_rfl

/- slices_Collect_int -/
@[simp] def slices_Collect_int_r0 : List VOp :=
  [⟨(some 2), none, .nils 1⟩]
@[simp] def slices_Collect_int_r1 : List VOp :=
  [⟨(some 3), none, .mov (.tmp 0)⟩,
   ⟨(some 4), none, .call n_slices_AppendSeq_int_int [(.const (.slice none 0 0)), (.tmp 3)]⟩,
   ⟨(some 2), none, .mov (.tmp 4)⟩]
def slices_Collect_int : VCode := (.seq (.reg slices_Collect_int_r0) (.seq (.reg slices_Collect_int_r1) .ret))
theorem slices_Collect_int_is : fnV prog n_slices_Collect_int = some (5, slices_Collect_int, [.tmp 2]) := by kernel_rfl

/- maps_Keys_map_int_int_int_int -/
@[simp] def maps_Keys_map_int_int_int_int_r0 : List VOp :=
  [⟨(some 1), none, .box (.tmp 0)⟩,
   ⟨(some 2), none, .mov (.const .nilFunc)⟩]
@[simp] def maps_Keys_map_int_int_int_int_r1 : List VOp :=
  [⟨(some 3), none, .mkfn n_maps_Keys_map_int_int_int_int_1 [] [(.tmp 1)]⟩,
   ⟨(some 2), none, .mov (.tmp 3)⟩]
def maps_Keys_map_int_int_int_int : VCode := (.seq (.reg maps_Keys_map_int_int_int_int_r0) (.seq (.reg maps_Keys_map_int_int_int_int_r1) .ret))
theorem maps_Keys_map_int_int_int_int_is : fnV prog n_maps_Keys_map_int_int_int_int = some (4, maps_Keys_map_int_int_int_int, [.tmp 2]) := by kernel_rfl

/- maps_Keys_map_int_int_int_int_1 -/
@[simp] def maps_Keys_map_int_int_int_int_1_r0 : List VOp :=
  [⟨(some 4), none, .ld (.tmp 1) none⟩,
   ⟨(some 5), none, .rng (false, [.i .i64], false) (.tmp 4)⟩]
@[simp] def maps_Keys_map_int_int_int_int_1_r1 : List VOp :=
  [⟨(some 6), none, .nxt (.tmp 5)⟩,
   ⟨(some 7), none, .ext 0 (.tmp 6)⟩]
@[simp] def maps_Keys_map_int_int_int_int_1_r2 : List VOp :=
  [⟨(some 8), none, .ent (.tmp 5)⟩,
   ⟨(some 9), none, .ext 0 (.tmp 8)⟩,
   ⟨(some 3), none, .mov (.tmp 9)⟩]
@[simp] def maps_Keys_map_int_int_int_int_1_r3 : List VOp :=
  [⟨(some 10), none, .mov (.tmp 0)⟩,
   ⟨(some 11), none, .mov (.tmp 3)⟩,
   ⟨(some 12), none, .callv (.tmp 10) [(.tmp 11)]⟩,
   ⟨(some 13), none, .un .not (.tmp 12)⟩]
def maps_Keys_map_int_int_int_int_1_l4 : VCode :=
  (.seq (.reg maps_Keys_map_int_int_int_int_1_r1) (.seq (.cond (.tmp 7) .skip (.exit 0)) (.block 1 (.seq (.reg maps_Keys_map_int_int_int_int_1_r2) (.seq (.reg maps_Keys_map_int_int_int_int_1_r3) (.cond (.tmp 13) .ret .skip))))))
def maps_Keys_map_int_int_int_int_1 : VCode := (.seq (.reg maps_Keys_map_int_int_int_int_1_r0) (.block 0 (.loop maps_Keys_map_int_int_int_int_1_l4)))
theorem maps_Keys_map_int_int_int_int_1_is : fnV prog n_maps_Keys_map_int_int_int_int_1 = some (14, maps_Keys_map_int_int_int_int_1, []) := by kernel_rfl

/- slices_AppendSeq_int_int -/
@[simp] def slices_AppendSeq_int_int_r0 : List VOp :=
  [⟨(some 2), none, .box (.tmp 0)⟩,
   ⟨(some 4), none, .nils 1⟩]
@[simp] def slices_AppendSeq_int_int_r1 : List VOp :=
  [⟨(some 6), none, .mov (.tmp 1)⟩]
@[simp] def slices_AppendSeq_int_int_r2 : List VOp :=
  [⟨(some 5), none, .mov (.tmp 7)⟩]
@[simp] def slices_AppendSeq_int_int_r3 : List VOp :=
  [⟨(some 8), none, .ld (.tmp 2) none⟩,
   ⟨(some 9), none, .mov (.tmp 5)⟩,
   ⟨(some 10), none, .lit 1 1 [(0, (.tmp 9))]⟩,
   ⟨(some 11), none, .app 1 8 (.tmp 8) (.tmp 10)⟩,
   ⟨none, none, .st (.tmp 2) (.tmp 11) 1⟩]
def slices_AppendSeq_int_int_a4 : VCode :=
  (.reg slices_AppendSeq_int_int_r2)
def slices_AppendSeq_int_int_b5 : VCode :=
  (.block 1 (.reg slices_AppendSeq_int_int_r3))
@[simp] def slices_AppendSeq_int_int_r6 : List VOp :=
  [⟨(some 12), none, .ld (.tmp 2) none⟩,
   ⟨(some 4), none, .mov (.tmp 12)⟩]
def slices_AppendSeq_int_int : VCode := (.seq (.reg slices_AppendSeq_int_int_r0) (.seq (.seq (.reg slices_AppendSeq_int_int_r1) (.block 0 (.rng (.tmp 6) [7] slices_AppendSeq_int_int_a4 slices_AppendSeq_int_int_b5))) (.seq (.reg slices_AppendSeq_int_int_r6) .ret)))
theorem slices_AppendSeq_int_int_is : fnV prog n_slices_AppendSeq_int_int = some (13, slices_AppendSeq_int_int, [.tmp 4]) := by kernel_rfl

end Go.Rt
end
