/- Functions of the program as the abstract machine has them. Conditions: none. -/
import Derived.Test.YtoiegcefpofheaaPA

set_option linter.unusedVariables false
set_option linter.unusedSimpArgs false

/- Functions as the abstract machine has them (printed by GenV.lean). -/
section
namespace Go.Rt
open Go.Vm
/- ratlinelaw12_WaitsCycles -/
@[simp] def ratlinelaw12_WaitsCycles_r0 : List VOp :=
  [⟨(some 4), none, .mov (.const (.bool false))⟩]
@[simp] def ratlinelaw12_WaitsCycles_r1 : List VOp :=
  [⟨(some 7), none, .call n_ratlinelaw12_awake []⟩,
   ⟨(some 5), none, .mov (.tmp 7)⟩]
@[simp] def ratlinelaw12_WaitsCycles_r2 : List VOp :=
  [⟨(some 8), none, .mov (.tmp 5)⟩,
   ⟨(some 9), none, .un .not (.tmp 8)⟩]
@[simp] def ratlinelaw12_WaitsCycles_r3 : List VOp :=
  [⟨(some 4), none, .mov (.const (.bool false))⟩]
@[simp] def ratlinelaw12_WaitsCycles_r4 : List VOp :=
  [⟨(some 10), none, .mov (.tmp 0)⟩,
   ⟨(some 11), none, .call n_ratlinelaw12_small [(.tmp 10), (.const (.int .i64 7))]⟩,
   ⟨(some 6), none, .mov (.tmp 11)⟩]
@[simp] def ratlinelaw12_WaitsCycles_r5 : List VOp :=
  [⟨(some 12), none, .mov (.tmp 6)⟩,
   ⟨(some 13), none, .un .not (.tmp 12)⟩]
@[simp] def ratlinelaw12_WaitsCycles_r6 : List VOp :=
  [⟨(some 4), none, .mov (.const (.bool true))⟩]
@[simp] def ratlinelaw12_WaitsCycles_r7 : List VOp :=
  [⟨(some 14), none, .mov (.tmp 0)⟩,
   ⟨(some 15), none, .mov (.tmp 1)⟩,
   ⟨(some 16), none, .call n_waits_Cycle [(.tmp 14), (.tmp 15)]⟩,
   ⟨(some 17), none, .mov (.tmp 0)⟩,
   ⟨(some 18), none, .mov (.tmp 1)⟩,
   ⟨(some 19), none, .call n_ratlineref12_Cycle [(.tmp 17), (.tmp 18)]⟩,
   ⟨(some 20), none, .call n_ratlineref10_Ints [(.tmp 16), (.tmp 19)]⟩,
   ⟨(some 4), none, .mov (.tmp 20)⟩]
def ratlinelaw12_WaitsCycles : VCode := (.seq (.reg ratlinelaw12_WaitsCycles_r0) (.seq (.reg ratlinelaw12_WaitsCycles_r1) (.seq (.seq (.reg ratlinelaw12_WaitsCycles_r2) (.cond (.tmp 9) (.seq (.reg ratlinelaw12_WaitsCycles_r3) .ret) .skip)) (.seq (.reg ratlinelaw12_WaitsCycles_r4) (.seq (.seq (.reg ratlinelaw12_WaitsCycles_r5) (.cond (.tmp 13) (.seq (.reg ratlinelaw12_WaitsCycles_r6) .ret) .skip)) (.seq (.reg ratlinelaw12_WaitsCycles_r7) .ret))))))
theorem ratlinelaw12_WaitsCycles_is : fnV prog n_ratlinelaw12_WaitsCycles = some (21, ratlinelaw12_WaitsCycles, [.tmp 4]) := by kernel_rfl

/- ratlinelaw12_WaitsStuck -/
@[simp] def ratlinelaw12_WaitsStuck_r0 : List VOp :=
  [⟨(some 2), none, .mov (.const (.bool false))⟩]
@[simp] def ratlinelaw12_WaitsStuck_r1 : List VOp :=
  [⟨(some 5), none, .call n_ratlinelaw12_awake []⟩,
   ⟨(some 3), none, .mov (.tmp 5)⟩]
@[simp] def ratlinelaw12_WaitsStuck_r2 : List VOp :=
  [⟨(some 6), none, .mov (.tmp 3)⟩,
   ⟨(some 7), none, .un .not (.tmp 6)⟩]
@[simp] def ratlinelaw12_WaitsStuck_r3 : List VOp :=
  [⟨(some 2), none, .mov (.const (.bool false))⟩]
@[simp] def ratlinelaw12_WaitsStuck_r4 : List VOp :=
  [⟨(some 8), none, .mov (.tmp 0)⟩,
   ⟨(some 9), none, .call n_ratlinelaw12_small [(.tmp 8), (.const (.int .i64 40))]⟩,
   ⟨(some 4), none, .mov (.tmp 9)⟩]
@[simp] def ratlinelaw12_WaitsStuck_r5 : List VOp :=
  [⟨(some 10), none, .mov (.tmp 4)⟩,
   ⟨(some 11), none, .un .not (.tmp 10)⟩]
@[simp] def ratlinelaw12_WaitsStuck_r6 : List VOp :=
  [⟨(some 2), none, .mov (.const (.bool true))⟩]
@[simp] def ratlinelaw12_WaitsStuck_r7 : List VOp :=
  [⟨(some 12), none, .mov (.tmp 0)⟩,
   ⟨(some 13), none, .call n_waits_Stuck [(.tmp 12)]⟩,
   ⟨(some 14), none, .mov (.tmp 0)⟩,
   ⟨(some 15), none, .call n_ratlineref12_Stuck [(.tmp 14)]⟩,
   ⟨(some 16), none, .call n_ratlineref10_Ints [(.tmp 13), (.tmp 15)]⟩,
   ⟨(some 2), none, .mov (.tmp 16)⟩]
def ratlinelaw12_WaitsStuck : VCode := (.seq (.reg ratlinelaw12_WaitsStuck_r0) (.seq (.reg ratlinelaw12_WaitsStuck_r1) (.seq (.seq (.reg ratlinelaw12_WaitsStuck_r2) (.cond (.tmp 7) (.seq (.reg ratlinelaw12_WaitsStuck_r3) .ret) .skip)) (.seq (.reg ratlinelaw12_WaitsStuck_r4) (.seq (.seq (.reg ratlinelaw12_WaitsStuck_r5) (.cond (.tmp 11) (.seq (.reg ratlinelaw12_WaitsStuck_r6) .ret) .skip)) (.seq (.reg ratlinelaw12_WaitsStuck_r7) .ret))))))
theorem ratlinelaw12_WaitsStuck_is : fnV prog n_ratlinelaw12_WaitsStuck = some (17, ratlinelaw12_WaitsStuck, [.tmp 2]) := by kernel_rfl

/- ratlinelaw12_WaitsVictims -/
@[simp] def ratlinelaw12_WaitsVictims_r0 : List VOp :=
  [⟨(some 4), none, .mov (.const (.bool false))⟩]
@[simp] def ratlinelaw12_WaitsVictims_r1 : List VOp :=
  [⟨(some 6), none, .call n_ratlinelaw12_awake []⟩,
   ⟨(some 5), none, .mov (.tmp 6)⟩]
@[simp] def ratlinelaw12_WaitsVictims_r2 : List VOp :=
  [⟨(some 7), none, .mov (.tmp 5)⟩,
   ⟨(some 8), none, .un .not (.tmp 7)⟩]
@[simp] def ratlinelaw12_WaitsVictims_r3 : List VOp :=
  [⟨(some 4), none, .mov (.const (.bool false))⟩]
@[simp] def ratlinelaw12_WaitsVictims_r4 : List VOp :=
  [⟨(some 9), none, .mov (.tmp 0)⟩,
   ⟨(some 10), none, .len (.tmp 9)⟩,
   ⟨(some 11), none, .bin .gtr (.tmp 10) (.const (.int .i64 1000))⟩,
   ⟨(some 12), none, .mov (.tmp 11)⟩,
   ⟨(some 13), (some (12, false)), .mov (.tmp 1)⟩,
   ⟨(some 14), (some (12, false)), .len (.tmp 13)⟩,
   ⟨(some 15), (some (12, false)), .bin .gtr (.tmp 14) (.const (.int .i64 1000))⟩,
   ⟨(some 16), none, .pick (.tmp 12) (.const (.bool true)) (.tmp 15)⟩]
@[simp] def ratlinelaw12_WaitsVictims_r5 : List VOp :=
  [⟨(some 4), none, .mov (.const (.bool true))⟩]
@[simp] def ratlinelaw12_WaitsVictims_r6 : List VOp :=
  [⟨(some 17), none, .mov (.tmp 0)⟩,
   ⟨(some 18), none, .mov (.tmp 1)⟩,
   ⟨(some 19), none, .call n_waits_Victim [(.tmp 17), (.tmp 18)]⟩,
   ⟨(some 20), none, .mov (.tmp 0)⟩,
   ⟨(some 21), none, .mov (.tmp 1)⟩,
   ⟨(some 22), none, .call n_ratlineref12_Victim [(.tmp 20), (.tmp 21)]⟩,
   ⟨(some 23), none, .bin .eql (.tmp 19) (.tmp 22)⟩,
   ⟨(some 4), none, .mov (.tmp 23)⟩]
def ratlinelaw12_WaitsVictims : VCode := (.seq (.reg ratlinelaw12_WaitsVictims_r0) (.seq (.reg ratlinelaw12_WaitsVictims_r1) (.seq (.seq (.reg ratlinelaw12_WaitsVictims_r2) (.cond (.tmp 8) (.seq (.reg ratlinelaw12_WaitsVictims_r3) .ret) .skip)) (.seq (.seq (.reg ratlinelaw12_WaitsVictims_r4) (.cond (.tmp 16) (.seq (.reg ratlinelaw12_WaitsVictims_r5) .ret) .skip)) (.seq (.reg ratlinelaw12_WaitsVictims_r6) .ret)))))
theorem ratlinelaw12_WaitsVictims_is : fnV prog n_ratlinelaw12_WaitsVictims = some (24, ratlinelaw12_WaitsVictims, [.tmp 4]) := by kernel_rfl

/- ratlinelaw12_WaitsGoes -/
@[simp] def ratlinelaw12_WaitsGoes_r0 : List VOp :=
  [⟨(some 6), none, .mov (.const (.bool false))⟩]
@[simp] def ratlinelaw12_WaitsGoes_r1 : List VOp :=
  [⟨(some 13), none, .call n_ratlinelaw12_awake []⟩,
   ⟨(some 7), none, .mov (.tmp 13)⟩]
@[simp] def ratlinelaw12_WaitsGoes_r2 : List VOp :=
  [⟨(some 14), none, .mov (.tmp 7)⟩,
   ⟨(some 15), none, .un .not (.tmp 14)⟩]
@[simp] def ratlinelaw12_WaitsGoes_r3 : List VOp :=
  [⟨(some 6), none, .mov (.const (.bool false))⟩]
@[simp] def ratlinelaw12_WaitsGoes_r4 : List VOp :=
  [⟨(some 16), none, .mov (.tmp 0)⟩,
   ⟨(some 17), none, .call n_ratlinelaw12_small [(.tmp 16), (.const (.int .i64 30))]⟩,
   ⟨(some 8), none, .mov (.tmp 17)⟩]
@[simp] def ratlinelaw12_WaitsGoes_r5 : List VOp :=
  [⟨(some 18), none, .mov (.tmp 8)⟩,
   ⟨(some 19), none, .un .not (.tmp 18)⟩,
   ⟨(some 20), none, .mov (.tmp 19)⟩,
   ⟨(some 21), (some (20, false)), .mov (.tmp 2)⟩,
   ⟨(some 22), (some (20, false)), .len (.tmp 21)⟩,
   ⟨(some 23), (some (20, false)), .bin .gtr (.tmp 22) (.const (.int .i64 100))⟩,
   ⟨(some 24), none, .pick (.tmp 20) (.const (.bool true)) (.tmp 23)⟩]
@[simp] def ratlinelaw12_WaitsGoes_r6 : List VOp :=
  [⟨(some 6), none, .mov (.const (.bool true))⟩]
@[simp] def ratlinelaw12_WaitsGoes_r7 : List VOp :=
  [⟨(some 25), none, .mov (.tmp 0)⟩,
   ⟨(some 26), none, .mov (.tmp 1)⟩,
   ⟨(some 27), none, .call n_waits_Cycle [(.tmp 25), (.tmp 26)]⟩,
   ⟨(some 9), none, .mov (.tmp 27)⟩]
@[simp] def ratlinelaw12_WaitsGoes_r8 : List VOp :=
  [⟨(some 28), none, .mov (.tmp 9)⟩,
   ⟨(some 29), none, .mov (.tmp 2)⟩,
   ⟨(some 30), none, .call n_waits_Victim [(.tmp 28), (.tmp 29)]⟩,
   ⟨(some 10), none, .mov (.tmp 30)⟩]
@[simp] def ratlinelaw12_WaitsGoes_r9 : List VOp :=
  [⟨(some 31), none, .mov (.tmp 9)⟩,
   ⟨(some 32), none, .len (.tmp 31)⟩,
   ⟨(some 33), none, .bin .eql (.tmp 32) (.const (.int .i64 0))⟩]
@[simp] def ratlinelaw12_WaitsGoes_r10 : List VOp :=
  [⟨(some 34), none, .mov (.tmp 10)⟩,
   ⟨(some 35), none, .bin .eql (.tmp 34) (.const (.int .i64 (-1)))⟩,
   ⟨(some 6), none, .mov (.tmp 35)⟩]
@[simp] def ratlinelaw12_WaitsGoes_r11 : List VOp :=
  [⟨(some 36), none, .mov (.tmp 9)⟩,
   ⟨(some 37), none, .ia 1 (.tmp 36) (.const (.int .i64 0))⟩,
   ⟨(some 38), none, .ld (.tmp 37) none⟩,
   ⟨(some 39), none, .mov (.tmp 1)⟩,
   ⟨(some 40), none, .bin .neq (.tmp 38) (.tmp 39)⟩,
   ⟨(some 41), none, .mov (.tmp 40)⟩,
   ⟨(some 42), (some (41, false)), .mov (.tmp 9)⟩,
   ⟨(some 43), (some (41, false)), .len (.tmp 42)⟩,
   ⟨(some 44), (some (41, false)), .mov (.tmp 0)⟩,
   ⟨(some 45), (some (41, false)), .len (.tmp 44)⟩,
   ⟨(some 46), (some (41, false)), .bin .gtr (.tmp 43) (.tmp 45)⟩,
   ⟨(some 47), none, .pick (.tmp 41) (.const (.bool true)) (.tmp 46)⟩]
@[simp] def ratlinelaw12_WaitsGoes_r12 : List VOp :=
  [⟨(some 6), none, .mov (.const (.bool false))⟩]
@[simp] def ratlinelaw12_WaitsGoes_r13 : List VOp :=
  [⟨(some 11), none, .mov (.const (.int .i64 0))⟩]
@[simp] def ratlinelaw12_WaitsGoes_r14 : List VOp :=
  [⟨(some 48), none, .mov (.tmp 11)⟩,
   ⟨(some 49), none, .mov (.tmp 9)⟩,
   ⟨(some 50), none, .len (.tmp 49)⟩,
   ⟨(some 51), none, .bin .lss (.tmp 48) (.tmp 50)⟩]
@[simp] def ratlinelaw12_WaitsGoes_r15 : List VOp :=
  [⟨(some 54), none, .mov (.tmp 9)⟩,
   ⟨(some 55), none, .mov (.tmp 11)⟩,
   ⟨(some 56), none, .bin .add (.tmp 55) (.const (.int .i64 1))⟩,
   ⟨(some 57), none, .mov (.tmp 9)⟩,
   ⟨(some 58), none, .len (.tmp 57)⟩,
   ⟨(some 59), none, .bin .rem (.tmp 56) (.tmp 58)⟩,
   ⟨(some 60), none, .ia 1 (.tmp 54) (.tmp 59)⟩,
   ⟨(some 61), none, .ld (.tmp 60) none⟩,
   ⟨(some 12), none, .mov (.tmp 61)⟩]
@[simp] def ratlinelaw12_WaitsGoes_t16 : VT :=
  .op ⟨(some 62), none, .mov (.tmp 9)⟩ <|
  .op ⟨(some 63), none, .mov (.tmp 11)⟩ <|
  .op ⟨(some 64), none, .ia 1 (.tmp 62) (.tmp 63)⟩ <|
  .op ⟨(some 65), none, .ld (.tmp 64) none⟩ <|
  .op ⟨(some 66), none, .bin .lss (.tmp 65) (.const (.int .i64 0))⟩ <|
  .op ⟨(some 67), none, .mov (.tmp 66)⟩ <|
  .op ⟨(some 68), (some (67, false)), .mov (.tmp 9)⟩ <|
  .op ⟨(some 69), (some (67, false)), .mov (.tmp 11)⟩ <|
  .op ⟨(some 70), (some (67, false)), .ia 1 (.tmp 68) (.tmp 69)⟩ <|
  .op ⟨(some 71), (some (67, false)), .ld (.tmp 70) none⟩ <|
  .op ⟨(some 72), (some (67, false)), .mov (.tmp 0)⟩ <|
  .op ⟨(some 73), (some (67, false)), .len (.tmp 72)⟩ <|
  .op ⟨(some 74), (some (67, false)), .bin .geq (.tmp 71) (.tmp 73)⟩ <|
  .op ⟨(some 75), none, .pick (.tmp 67) (.const (.bool true)) (.tmp 74)⟩ <|
  .op ⟨(some 76), none, .mov (.tmp 75)⟩ <|
  .op ⟨(some 77), (some (76, false)), .mov (.tmp 0)⟩ <|
  .op ⟨(some 78), (some (76, false)), .mov (.tmp 9)⟩ <|
  .op ⟨(some 79), (some (76, false)), .mov (.tmp 11)⟩ <|
  .op ⟨(some 80), (some (76, false)), .ia 1 (.tmp 78) (.tmp 79)⟩ <|
  .op ⟨(some 81), (some (76, false)), .ld (.tmp 80) none⟩ <|
  .op ⟨(some 82), (some (76, false)), .ia 1 (.tmp 77) (.tmp 81)⟩ <|
  .op ⟨(some 83), (some (76, false)), .ld (.tmp 82) none⟩ <|
  .op ⟨(some 84), (some (76, false)), .mov (.tmp 12)⟩ <|
  .op ⟨(some 85), (some (76, false)), .call n_ratlinelaw12_in [(.tmp 83), (.tmp 84)]⟩ <|
  .op ⟨(some 86), (some (76, false)), .un .not (.tmp 85)⟩ <|
  .op ⟨(some 87), none, .pick (.tmp 76) (.const (.bool true)) (.tmp 86)⟩ <|
  .op ⟨(some 88), none, .mov (.tmp 87)⟩ <|
  .op ⟨(some 89), (some (88, false)), .mov (.tmp 9)⟩ <|
  .op ⟨(some 90), (some (88, false)), .mov (.tmp 11)⟩ <|
  .op ⟨(some 91), (some (88, false)), .cut 1 (.tmp 89) none (some (.tmp 90))⟩ <|
  .op ⟨(some 92), (some (88, false)), .mov (.tmp 9)⟩ <|
  .op ⟨(some 93), (some (88, false)), .mov (.tmp 11)⟩ <|
  .op ⟨(some 94), (some (88, false)), .ia 1 (.tmp 92) (.tmp 93)⟩ <|
  .op ⟨(some 95), (some (88, false)), .ld (.tmp 94) none⟩ <|
  .op ⟨(some 96), (some (88, false)), .call n_ratlinelaw12_in [(.tmp 91), (.tmp 95)]⟩ <|
  .op ⟨(some 97), none, .pick (.tmp 88) (.const (.bool true)) (.tmp 96)⟩ <|
  .done
@[simp] def ratlinelaw12_WaitsGoes_r17 : List VOp :=
  [⟨(some 6), none, .mov (.const (.bool false))⟩]
@[simp] def ratlinelaw12_WaitsGoes_r18 : List VOp :=
  [⟨(some 52), none, .mov (.tmp 11)⟩,
   ⟨(some 53), none, .bin .add (.tmp 52) (.const (.int .i64 1))⟩,
   ⟨(some 11), none, .mov (.tmp 53)⟩]
def ratlinelaw12_WaitsGoes_l19 : VCode :=
  (.seq (.seq (.reg ratlinelaw12_WaitsGoes_r14) (.cond (.tmp 51) .skip (.exit 0))) (.seq (.block 1 (.seq (.reg ratlinelaw12_WaitsGoes_r15) (.seq (.any ratlinelaw12_WaitsGoes_t16) (.cond (.tmp 97) (.seq (.reg ratlinelaw12_WaitsGoes_r17) .ret) .skip)))) (.reg ratlinelaw12_WaitsGoes_r18)))
@[simp] def ratlinelaw12_WaitsGoes_r20 : List VOp :=
  [⟨(some 98), none, .mov (.tmp 10)⟩,
   ⟨(some 99), none, .bin .eql (.tmp 98) (.const (.int .i64 (-1)))⟩,
   ⟨(some 100), none, .mov (.tmp 99)⟩,
   ⟨(some 101), (some (100, false)), .mov (.tmp 9)⟩,
   ⟨(some 102), (some (100, false)), .mov (.tmp 10)⟩,
   ⟨(some 103), (some (100, false)), .call n_ratlinelaw12_in [(.tmp 101), (.tmp 102)]⟩,
   ⟨(some 104), (some (100, false)), .mov (.tmp 103)⟩,
   ⟨(some 105), (some (104, true)), .mov (.tmp 10)⟩,
   ⟨(some 106), (some (104, true)), .mov (.tmp 2)⟩,
   ⟨(some 107), (some (104, true)), .len (.tmp 106)⟩,
   ⟨(some 108), (some (104, true)), .bin .lss (.tmp 105) (.tmp 107)⟩,
   ⟨(some 109), (some (100, false)), .pick (.tmp 104) (.tmp 108) (.const (.bool false))⟩,
   ⟨(some 110), none, .pick (.tmp 100) (.const (.bool true)) (.tmp 109)⟩,
   ⟨(some 6), none, .mov (.tmp 110)⟩]
def ratlinelaw12_WaitsGoes : VCode := (.seq (.reg ratlinelaw12_WaitsGoes_r0) (.seq (.reg ratlinelaw12_WaitsGoes_r1) (.seq (.seq (.reg ratlinelaw12_WaitsGoes_r2) (.cond (.tmp 15) (.seq (.reg ratlinelaw12_WaitsGoes_r3) .ret) .skip)) (.seq (.reg ratlinelaw12_WaitsGoes_r4) (.seq (.seq (.reg ratlinelaw12_WaitsGoes_r5) (.cond (.tmp 24) (.seq (.reg ratlinelaw12_WaitsGoes_r6) .ret) .skip)) (.seq (.reg ratlinelaw12_WaitsGoes_r7) (.seq (.reg ratlinelaw12_WaitsGoes_r8) (.seq (.seq (.reg ratlinelaw12_WaitsGoes_r9) (.cond (.tmp 33) (.seq (.reg ratlinelaw12_WaitsGoes_r10) .ret) .skip)) (.seq (.seq (.reg ratlinelaw12_WaitsGoes_r11) (.cond (.tmp 47) (.seq (.reg ratlinelaw12_WaitsGoes_r12) .ret) .skip)) (.seq (.seq (.reg ratlinelaw12_WaitsGoes_r13) (.block 0 (.loop ratlinelaw12_WaitsGoes_l19))) (.seq (.reg ratlinelaw12_WaitsGoes_r20) .ret)))))))))))
theorem ratlinelaw12_WaitsGoes_is : fnV prog n_ratlinelaw12_WaitsGoes = some (111, ratlinelaw12_WaitsGoes, [.tmp 6]) := by kernel_rfl

/- ratlinelaw12_WaitsEnds -/
@[simp] def ratlinelaw12_WaitsEnds_r0 : List VOp :=
  [⟨(some 4), none, .mov (.const (.bool false))⟩]
@[simp] def ratlinelaw12_WaitsEnds_r1 : List VOp :=
  [⟨(some 13), none, .call n_ratlinelaw12_awake []⟩,
   ⟨(some 5), none, .mov (.tmp 13)⟩]
@[simp] def ratlinelaw12_WaitsEnds_r2 : List VOp :=
  [⟨(some 14), none, .mov (.tmp 5)⟩,
   ⟨(some 15), none, .un .not (.tmp 14)⟩]
@[simp] def ratlinelaw12_WaitsEnds_r3 : List VOp :=
  [⟨(some 4), none, .mov (.const (.bool false))⟩]
@[simp] def ratlinelaw12_WaitsEnds_r4 : List VOp :=
  [⟨(some 16), none, .mov (.tmp 0)⟩,
   ⟨(some 17), none, .call n_ratlinelaw12_small [(.tmp 16), (.const (.int .i64 20))]⟩,
   ⟨(some 6), none, .mov (.tmp 17)⟩]
@[simp] def ratlinelaw12_WaitsEnds_r5 : List VOp :=
  [⟨(some 18), none, .mov (.tmp 6)⟩,
   ⟨(some 19), none, .un .not (.tmp 18)⟩,
   ⟨(some 20), none, .mov (.tmp 19)⟩,
   ⟨(some 21), (some (20, false)), .mov (.tmp 1)⟩,
   ⟨(some 22), (some (20, false)), .len (.tmp 21)⟩,
   ⟨(some 23), (some (20, false)), .mov (.tmp 0)⟩,
   ⟨(some 24), (some (20, false)), .len (.tmp 23)⟩,
   ⟨(some 25), (some (20, false)), .bin .neq (.tmp 22) (.tmp 24)⟩,
   ⟨(some 26), none, .pick (.tmp 20) (.const (.bool true)) (.tmp 25)⟩]
@[simp] def ratlinelaw12_WaitsEnds_r6 : List VOp :=
  [⟨(some 4), none, .mov (.const (.bool true))⟩]
@[simp] def ratlinelaw12_WaitsEnds_r7 : List VOp :=
  [⟨(some 7), none, .nils 1⟩]
@[simp] def ratlinelaw12_WaitsEnds_r8 : List VOp :=
  [⟨(some 27), none, .mov (.tmp 7)⟩,
   ⟨(some 28), none, .mov (.tmp 0)⟩,
   ⟨(some 29), none, .app 1 24 (.tmp 27) (.tmp 28)⟩,
   ⟨(some 7), none, .mov (.tmp 29)⟩]
@[simp] def ratlinelaw12_WaitsEnds_r9 : List VOp :=
  [⟨(some 8), none, .mov (.const (.int .i64 0))⟩]
@[simp] def ratlinelaw12_WaitsEnds_r10 : List VOp :=
  [⟨(some 30), none, .mov (.tmp 8)⟩,
   ⟨(some 31), none, .mov (.tmp 0)⟩,
   ⟨(some 32), none, .len (.tmp 31)⟩,
   ⟨(some 33), none, .bin .leq (.tmp 30) (.tmp 32)⟩]
@[simp] def ratlinelaw12_WaitsEnds_r11 : List VOp :=
  [⟨(some 36), none, .mov (.tmp 7)⟩,
   ⟨(some 37), none, .call n_waits_Stuck [(.tmp 36)]⟩,
   ⟨(some 9), none, .mov (.tmp 37)⟩]
@[simp] def ratlinelaw12_WaitsEnds_r12 : List VOp :=
  [⟨(some 10), none, .mov (.const (.int .i64 (-1)))⟩]
@[simp] def ratlinelaw12_WaitsEnds_r13 : List VOp :=
  [⟨(some 11), none, .mov (.const (.int .i64 0))⟩]
@[simp] def ratlinelaw12_WaitsEnds_r14 : List VOp :=
  [⟨(some 38), none, .mov (.tmp 11)⟩,
   ⟨(some 39), none, .mov (.tmp 7)⟩,
   ⟨(some 40), none, .len (.tmp 39)⟩,
   ⟨(some 41), none, .bin .lss (.tmp 38) (.tmp 40)⟩]
@[simp] def ratlinelaw12_WaitsEnds_r15 : List VOp :=
  [⟨(some 44), none, .mov (.tmp 7)⟩,
   ⟨(some 45), none, .mov (.tmp 11)⟩,
   ⟨(some 46), none, .call n_waits_Cycle [(.tmp 44), (.tmp 45)]⟩,
   ⟨(some 12), none, .mov (.tmp 46)⟩]
@[simp] def ratlinelaw12_WaitsEnds_r16 : List VOp :=
  [⟨(some 47), none, .mov (.tmp 12)⟩,
   ⟨(some 48), none, .len (.tmp 47)⟩,
   ⟨(some 49), none, .bin .eql (.tmp 48) (.const (.int .i64 0))⟩]
@[simp] def ratlinelaw12_WaitsEnds_r17 : List VOp :=
  [⟨(some 50), none, .mov (.tmp 9)⟩,
   ⟨(some 51), none, .mov (.tmp 11)⟩,
   ⟨(some 52), none, .call n_ratlinelaw12_in [(.tmp 50), (.tmp 51)]⟩,
   ⟨(some 53), none, .un .not (.tmp 52)⟩]
@[simp] def ratlinelaw12_WaitsEnds_r18 : List VOp :=
  [⟨(some 4), none, .mov (.const (.bool false))⟩]
@[simp] def ratlinelaw12_WaitsEnds_r19 : List VOp :=
  [⟨(some 54), none, .mov (.tmp 10)⟩,
   ⟨(some 55), none, .bin .lss (.tmp 54) (.const (.int .i64 0))⟩]
@[simp] def ratlinelaw12_WaitsEnds_r20 : List VOp :=
  [⟨(some 56), none, .mov (.tmp 12)⟩,
   ⟨(some 57), none, .mov (.tmp 1)⟩,
   ⟨(some 58), none, .call n_waits_Victim [(.tmp 56), (.tmp 57)]⟩,
   ⟨(some 10), none, .mov (.tmp 58)⟩]
@[simp] def ratlinelaw12_WaitsEnds_r21 : List VOp :=
  [⟨(some 42), none, .mov (.tmp 11)⟩,
   ⟨(some 43), none, .bin .add (.tmp 42) (.const (.int .i64 1))⟩,
   ⟨(some 11), none, .mov (.tmp 43)⟩]
def ratlinelaw12_WaitsEnds_l22 : VCode :=
  (.seq (.seq (.reg ratlinelaw12_WaitsEnds_r14) (.cond (.tmp 41) .skip (.exit 2))) (.seq (.block 3 (.seq (.reg ratlinelaw12_WaitsEnds_r15) (.seq (.seq (.reg ratlinelaw12_WaitsEnds_r16) (.cond (.tmp 49) (.exit 3) .skip)) (.seq (.seq (.reg ratlinelaw12_WaitsEnds_r17) (.cond (.tmp 53) (.seq (.reg ratlinelaw12_WaitsEnds_r18) .ret) .skip)) (.seq (.reg ratlinelaw12_WaitsEnds_r19) (.cond (.tmp 55) (.reg ratlinelaw12_WaitsEnds_r20) .skip)))))) (.reg ratlinelaw12_WaitsEnds_r21)))
@[simp] def ratlinelaw12_WaitsEnds_r23 : List VOp :=
  [⟨(some 59), none, .mov (.tmp 10)⟩,
   ⟨(some 60), none, .bin .lss (.tmp 59) (.const (.int .i64 0))⟩,
   ⟨(some 61), none, .mov (.tmp 9)⟩,
   ⟨(some 62), none, .len (.tmp 61)⟩,
   ⟨(some 63), none, .bin .eql (.tmp 62) (.const (.int .i64 0))⟩,
   ⟨(some 64), none, .beq true (.tmp 60) (.tmp 63)⟩]
@[simp] def ratlinelaw12_WaitsEnds_r24 : List VOp :=
  [⟨(some 4), none, .mov (.const (.bool false))⟩]
@[simp] def ratlinelaw12_WaitsEnds_r25 : List VOp :=
  [⟨(some 65), none, .mov (.tmp 10)⟩,
   ⟨(some 66), none, .bin .lss (.tmp 65) (.const (.int .i64 0))⟩]
@[simp] def ratlinelaw12_WaitsEnds_r26 : List VOp :=
  [⟨(some 4), none, .mov (.const (.bool true))⟩]
@[simp] def ratlinelaw12_WaitsEnds_r27 : List VOp :=
  [⟨(some 67), none, .mov (.tmp 7)⟩,
   ⟨(some 68), none, .mov (.tmp 10)⟩,
   ⟨(some 69), none, .ia 1 (.tmp 67) (.tmp 68)⟩,
   ⟨none, none, .st (.tmp 69) (.const (.slice none 0 0)) 1⟩]
@[simp] def ratlinelaw12_WaitsEnds_r28 : List VOp :=
  [⟨(some 34), none, .mov (.tmp 8)⟩,
   ⟨(some 35), none, .bin .add (.tmp 34) (.const (.int .i64 1))⟩,
   ⟨(some 8), none, .mov (.tmp 35)⟩]
def ratlinelaw12_WaitsEnds_l29 : VCode :=
  (.seq (.seq (.reg ratlinelaw12_WaitsEnds_r10) (.cond (.tmp 33) .skip (.exit 0))) (.seq (.block 1 (.seq (.reg ratlinelaw12_WaitsEnds_r11) (.seq (.reg ratlinelaw12_WaitsEnds_r12) (.seq (.seq (.reg ratlinelaw12_WaitsEnds_r13) (.block 2 (.loop ratlinelaw12_WaitsEnds_l22))) (.seq (.seq (.reg ratlinelaw12_WaitsEnds_r23) (.cond (.tmp 64) (.seq (.reg ratlinelaw12_WaitsEnds_r24) .ret) .skip)) (.seq (.seq (.reg ratlinelaw12_WaitsEnds_r25) (.cond (.tmp 66) (.seq (.reg ratlinelaw12_WaitsEnds_r26) .ret) .skip)) (.reg ratlinelaw12_WaitsEnds_r27))))))) (.reg ratlinelaw12_WaitsEnds_r28)))
@[simp] def ratlinelaw12_WaitsEnds_r30 : List VOp :=
  [⟨(some 4), none, .mov (.const (.bool false))⟩]
def ratlinelaw12_WaitsEnds : VCode := (.seq (.reg ratlinelaw12_WaitsEnds_r0) (.seq (.reg ratlinelaw12_WaitsEnds_r1) (.seq (.seq (.reg ratlinelaw12_WaitsEnds_r2) (.cond (.tmp 15) (.seq (.reg ratlinelaw12_WaitsEnds_r3) .ret) .skip)) (.seq (.reg ratlinelaw12_WaitsEnds_r4) (.seq (.seq (.reg ratlinelaw12_WaitsEnds_r5) (.cond (.tmp 26) (.seq (.reg ratlinelaw12_WaitsEnds_r6) .ret) .skip)) (.seq (.reg ratlinelaw12_WaitsEnds_r7) (.seq (.reg ratlinelaw12_WaitsEnds_r8) (.seq (.seq (.reg ratlinelaw12_WaitsEnds_r9) (.block 0 (.loop ratlinelaw12_WaitsEnds_l29))) (.seq (.reg ratlinelaw12_WaitsEnds_r30) .ret)))))))))
theorem ratlinelaw12_WaitsEnds_is : fnV prog n_ratlinelaw12_WaitsEnds = some (70, ratlinelaw12_WaitsEnds, [.tmp 4]) := by kernel_rfl

/- ratlinelaw12_WaitsFree -/
@[simp] def ratlinelaw12_WaitsFree_r0 : List VOp :=
  [⟨(some 6), none, .mov (.const (.bool false))⟩]
@[simp] def ratlinelaw12_WaitsFree_r1 : List VOp :=
  [⟨(some 11), none, .call n_ratlinelaw12_awake []⟩,
   ⟨(some 7), none, .mov (.tmp 11)⟩]
@[simp] def ratlinelaw12_WaitsFree_r2 : List VOp :=
  [⟨(some 12), none, .mov (.tmp 7)⟩,
   ⟨(some 13), none, .un .not (.tmp 12)⟩]
@[simp] def ratlinelaw12_WaitsFree_r3 : List VOp :=
  [⟨(some 6), none, .mov (.const (.bool false))⟩]
@[simp] def ratlinelaw12_WaitsFree_r4 : List VOp :=
  [⟨(some 14), none, .mov (.tmp 0)⟩,
   ⟨(some 15), none, .call n_ratlinelaw12_small [(.tmp 14), (.const (.int .i64 20))]⟩,
   ⟨(some 8), none, .mov (.tmp 15)⟩]
@[simp] def ratlinelaw12_WaitsFree_r5 : List VOp :=
  [⟨(some 16), none, .mov (.tmp 8)⟩,
   ⟨(some 17), none, .un .not (.tmp 16)⟩,
   ⟨(some 18), none, .mov (.tmp 17)⟩,
   ⟨(some 19), (some (18, false)), .mov (.tmp 0)⟩,
   ⟨(some 20), (some (18, false)), .len (.tmp 19)⟩,
   ⟨(some 21), (some (18, false)), .bin .eql (.tmp 20) (.const (.int .i64 0))⟩,
   ⟨(some 22), none, .pick (.tmp 18) (.const (.bool true)) (.tmp 21)⟩]
@[simp] def ratlinelaw12_WaitsFree_r6 : List VOp :=
  [⟨(some 6), none, .mov (.const (.bool true))⟩]
@[simp] def ratlinelaw12_WaitsFree_r7 : List VOp :=
  [⟨(some 23), none, .mov (.tmp 1)⟩,
   ⟨(some 24), none, .bin .and (.tmp 23) (.const (.int .i64 1023))⟩,
   ⟨(some 25), none, .mov (.tmp 0)⟩,
   ⟨(some 26), none, .len (.tmp 25)⟩,
   ⟨(some 27), none, .bin .rem (.tmp 24) (.tmp 26)⟩,
   ⟨(some 1), none, .mov (.tmp 27)⟩]
@[simp] def ratlinelaw12_WaitsFree_r8 : List VOp :=
  [⟨(some 9), none, .nils 1⟩]
@[simp] def ratlinelaw12_WaitsFree_r9 : List VOp :=
  [⟨(some 28), none, .mov (.tmp 9)⟩,
   ⟨(some 29), none, .mov (.tmp 0)⟩,
   ⟨(some 30), none, .app 1 24 (.tmp 28) (.tmp 29)⟩,
   ⟨(some 9), none, .mov (.tmp 30)⟩]
@[simp] def ratlinelaw12_WaitsFree_r10 : List VOp :=
  [⟨(some 31), none, .mov (.tmp 9)⟩,
   ⟨(some 32), none, .mov (.tmp 1)⟩,
   ⟨(some 33), none, .ia 1 (.tmp 31) (.tmp 32)⟩,
   ⟨none, none, .st (.tmp 33) (.const (.slice none 0 0)) 1⟩]
@[simp] def ratlinelaw12_WaitsFree_r11 : List VOp :=
  [⟨(some 34), none, .mov (.tmp 9)⟩,
   ⟨(some 35), none, .call n_waits_Stuck [(.tmp 34)]⟩,
   ⟨(some 36), none, .mov (.tmp 1)⟩,
   ⟨(some 37), none, .call n_ratlinelaw12_in [(.tmp 35), (.tmp 36)]⟩,
   ⟨(some 38), none, .mov (.tmp 37)⟩,
   ⟨(some 39), (some (38, false)), .mov (.tmp 9)⟩,
   ⟨(some 40), (some (38, false)), .mov (.tmp 1)⟩,
   ⟨(some 41), (some (38, false)), .call n_waits_Cycle [(.tmp 39), (.tmp 40)]⟩,
   ⟨(some 42), (some (38, false)), .len (.tmp 41)⟩,
   ⟨(some 43), (some (38, false)), .bin .neq (.tmp 42) (.const (.int .i64 0))⟩,
   ⟨(some 44), none, .pick (.tmp 38) (.const (.bool true)) (.tmp 43)⟩]
@[simp] def ratlinelaw12_WaitsFree_r12 : List VOp :=
  [⟨(some 6), none, .mov (.const (.bool false))⟩]
@[simp] def ratlinelaw12_WaitsFree_r13 : List VOp :=
  [⟨(some 10), none, .mov (.const (.int .i64 0))⟩]
@[simp] def ratlinelaw12_WaitsFree_r14 : List VOp :=
  [⟨(some 45), none, .mov (.tmp 10)⟩,
   ⟨(some 46), none, .mov (.tmp 9)⟩,
   ⟨(some 47), none, .len (.tmp 46)⟩,
   ⟨(some 48), none, .bin .lss (.tmp 45) (.tmp 47)⟩]
@[simp] def ratlinelaw12_WaitsFree_r15 : List VOp :=
  [⟨(some 51), none, .mov (.tmp 9)⟩,
   ⟨(some 52), none, .mov (.tmp 10)⟩,
   ⟨(some 53), none, .call n_waits_Cycle [(.tmp 51), (.tmp 52)]⟩,
   ⟨(some 54), none, .mov (.tmp 1)⟩,
   ⟨(some 55), none, .call n_ratlinelaw12_in [(.tmp 53), (.tmp 54)]⟩]
@[simp] def ratlinelaw12_WaitsFree_r16 : List VOp :=
  [⟨(some 6), none, .mov (.const (.bool false))⟩]
@[simp] def ratlinelaw12_WaitsFree_r17 : List VOp :=
  [⟨(some 49), none, .mov (.tmp 10)⟩,
   ⟨(some 50), none, .bin .add (.tmp 49) (.const (.int .i64 1))⟩,
   ⟨(some 10), none, .mov (.tmp 50)⟩]
def ratlinelaw12_WaitsFree_l18 : VCode :=
  (.seq (.seq (.reg ratlinelaw12_WaitsFree_r14) (.cond (.tmp 48) .skip (.exit 0))) (.seq (.block 1 (.seq (.reg ratlinelaw12_WaitsFree_r15) (.cond (.tmp 55) (.seq (.reg ratlinelaw12_WaitsFree_r16) .ret) .skip))) (.reg ratlinelaw12_WaitsFree_r17)))
@[simp] def ratlinelaw12_WaitsFree_r19 : List VOp :=
  [⟨(some 56), none, .mov (.tmp 9)⟩,
   ⟨(some 57), none, .mov (.tmp 1)⟩,
   ⟨(some 58), none, .mov (.tmp 1)⟩,
   ⟨(some 59), none, .lit 1 1 [(0, (.tmp 58))]⟩,
   ⟨(some 60), none, .ia 1 (.tmp 56) (.tmp 57)⟩,
   ⟨none, none, .st (.tmp 60) (.tmp 59) 1⟩]
@[simp] def ratlinelaw12_WaitsFree_r20 : List VOp :=
  [⟨(some 61), none, .mov (.tmp 9)⟩,
   ⟨(some 62), none, .mov (.tmp 1)⟩,
   ⟨(some 63), none, .call n_waits_Cycle [(.tmp 61), (.tmp 62)]⟩,
   ⟨(some 64), none, .mov (.tmp 1)⟩,
   ⟨(some 65), none, .lit 1 1 [(0, (.tmp 64))]⟩,
   ⟨(some 66), none, .call n_ratlineref10_Ints [(.tmp 63), (.tmp 65)]⟩,
   ⟨(some 67), none, .mov (.tmp 66)⟩,
   ⟨(some 68), (some (67, true)), .mov (.tmp 9)⟩,
   ⟨(some 69), (some (67, true)), .call n_waits_Stuck [(.tmp 68)]⟩,
   ⟨(some 70), (some (67, true)), .mov (.tmp 1)⟩,
   ⟨(some 71), (some (67, true)), .call n_ratlinelaw12_in [(.tmp 69), (.tmp 70)]⟩,
   ⟨(some 72), none, .pick (.tmp 67) (.tmp 71) (.const (.bool false))⟩,
   ⟨(some 73), none, .mov (.tmp 72)⟩,
   ⟨(some 74), (some (73, true)), .mov (.tmp 1)⟩,
   ⟨(some 75), (some (73, true)), .lit 1 1 [(0, (.tmp 74))]⟩,
   ⟨(some 76), (some (73, true)), .mov (.tmp 2)⟩,
   ⟨(some 77), (some (73, true)), .call n_waits_Victim [(.tmp 75), (.tmp 76)]⟩,
   ⟨(some 78), (some (73, true)), .mov (.tmp 1)⟩,
   ⟨(some 79), (some (73, true)), .lit 1 1 [(0, (.tmp 78))]⟩,
   ⟨(some 80), (some (73, true)), .mov (.tmp 2)⟩,
   ⟨(some 81), (some (73, true)), .call n_ratlineref12_Victim [(.tmp 79), (.tmp 80)]⟩,
   ⟨(some 82), (some (73, true)), .bin .eql (.tmp 77) (.tmp 81)⟩,
   ⟨(some 83), none, .pick (.tmp 73) (.tmp 82) (.const (.bool false))⟩,
   ⟨(some 6), none, .mov (.tmp 83)⟩]
def ratlinelaw12_WaitsFree : VCode := (.seq (.reg ratlinelaw12_WaitsFree_r0) (.seq (.reg ratlinelaw12_WaitsFree_r1) (.seq (.seq (.reg ratlinelaw12_WaitsFree_r2) (.cond (.tmp 13) (.seq (.reg ratlinelaw12_WaitsFree_r3) .ret) .skip)) (.seq (.reg ratlinelaw12_WaitsFree_r4) (.seq (.seq (.reg ratlinelaw12_WaitsFree_r5) (.cond (.tmp 22) (.seq (.reg ratlinelaw12_WaitsFree_r6) .ret) .skip)) (.seq (.reg ratlinelaw12_WaitsFree_r7) (.seq (.reg ratlinelaw12_WaitsFree_r8) (.seq (.reg ratlinelaw12_WaitsFree_r9) (.seq (.reg ratlinelaw12_WaitsFree_r10) (.seq (.seq (.reg ratlinelaw12_WaitsFree_r11) (.cond (.tmp 44) (.seq (.reg ratlinelaw12_WaitsFree_r12) .ret) .skip)) (.seq (.seq (.reg ratlinelaw12_WaitsFree_r13) (.block 0 (.loop ratlinelaw12_WaitsFree_l18))) (.seq (.reg ratlinelaw12_WaitsFree_r19) (.seq (.reg ratlinelaw12_WaitsFree_r20) .ret)))))))))))))
theorem ratlinelaw12_WaitsFree_is : fnV prog n_ratlinelaw12_WaitsFree = some (84, ratlinelaw12_WaitsFree, [.tmp 6]) := by kernel_rfl

/- ratlinelaw12_awake -/
@[simp] def ratlinelaw12_awake_r0 : List VOp :=
  [⟨(some 0), none, .mov (.const (.bool false))⟩]
@[simp] def ratlinelaw12_awake_r1 : List VOp :=
  [⟨(some 3), none, .lit 1 2 [(0, (.const (.int .i64 2))), (1, (.const (.int .i64 1)))]⟩,
   ⟨(some 4), none, .lit 1 1 [(0, (.const (.int .i64 0)))]⟩,
   ⟨(some 5), none, .lit 1 1 [(0, (.const (.int .i64 0)))]⟩,
   ⟨(some 6), none, .lit 1 3 [(0, (.tmp 3)), (1, (.tmp 4)), (2, (.tmp 5))]⟩,
   ⟨(some 7), none, .call n_waits_Cycle [(.tmp 6), (.const (.int .i64 0))]⟩,
   ⟨(some 1), none, .mov (.tmp 7)⟩]
@[simp] def ratlinelaw12_awake_r2 : List VOp :=
  [⟨(some 8), none, .lit 1 1 [(0, (.const (.int .i64 1)))]⟩,
   ⟨(some 9), none, .lit 1 1 [(0, (.const (.int .i64 1)))]⟩,
   ⟨(some 10), none, .lit 1 3 [(0, (.tmp 8)), (1, (.tmp 9)), (2, (.const (.slice none 0 0)))]⟩,
   ⟨(some 11), none, .call n_waits_Stuck [(.tmp 10)]⟩,
   ⟨(some 2), none, .mov (.tmp 11)⟩]
@[simp] def ratlinelaw12_awake_r3 : List VOp :=
  [⟨(some 12), none, .mov (.tmp 1)⟩,
   ⟨(some 13), none, .lit 1 2 [(0, (.const (.int .i64 0))), (1, (.const (.int .i64 1)))]⟩,
   ⟨(some 14), none, .call n_ratlineref10_Ints [(.tmp 12), (.tmp 13)]⟩,
   ⟨(some 15), none, .mov (.tmp 14)⟩,
   ⟨(some 16), (some (15, true)), .mov (.tmp 2)⟩,
   ⟨(some 17), (some (15, true)), .lit 1 2 [(0, (.const (.int .i64 0))), (1, (.const (.int .i64 1)))]⟩,
   ⟨(some 18), (some (15, true)), .call n_ratlineref10_Ints [(.tmp 16), (.tmp 17)]⟩,
   ⟨(some 19), none, .pick (.tmp 15) (.tmp 18) (.const (.bool false))⟩,
   ⟨(some 20), none, .mov (.tmp 19)⟩,
   ⟨(some 21), (some (20, true)), .lit 1 2 [(0, (.const (.int .i64 0))), (1, (.const (.int .i64 1)))]⟩,
   ⟨(some 22), (some (20, true)), .lit 1 2 [(0, (.const (.int .i64 5))), (1, (.const (.int .i64 5)))]⟩,
   ⟨(some 23), (some (20, true)), .call n_waits_Victim [(.tmp 21), (.tmp 22)]⟩,
   ⟨(some 24), (some (20, true)), .bin .eql (.tmp 23) (.const (.int .i64 1))⟩,
   ⟨(some 25), none, .pick (.tmp 20) (.tmp 24) (.const (.bool false))⟩,
   ⟨(some 0), none, .mov (.tmp 25)⟩]
def ratlinelaw12_awake : VCode := (.seq (.reg ratlinelaw12_awake_r0) (.seq (.reg ratlinelaw12_awake_r1) (.seq (.reg ratlinelaw12_awake_r2) (.seq (.reg ratlinelaw12_awake_r3) .ret))))
theorem ratlinelaw12_awake_is : fnV prog n_ratlinelaw12_awake = some (26, ratlinelaw12_awake, [.tmp 0]) := by kernel_rfl

/- ratlinelaw12_small -/
@[simp] def ratlinelaw12_small_r0 : List VOp :=
  [⟨(some 4), none, .mov (.const (.bool false))⟩]
@[simp] def ratlinelaw12_small_r1 : List VOp :=
  [⟨(some 6), none, .mov (.tmp 0)⟩,
   ⟨(some 7), none, .len (.tmp 6)⟩,
   ⟨(some 8), none, .mov (.tmp 1)⟩,
   ⟨(some 9), none, .bin .gtr (.tmp 7) (.tmp 8)⟩]
@[simp] def ratlinelaw12_small_r2 : List VOp :=
  [⟨(some 4), none, .mov (.const (.bool false))⟩]
@[simp] def ratlinelaw12_small_r3 : List VOp :=
  [⟨(some 5), none, .mov (.const (.int .i64 0))⟩]
@[simp] def ratlinelaw12_small_r4 : List VOp :=
  [⟨(some 10), none, .mov (.tmp 5)⟩,
   ⟨(some 11), none, .mov (.tmp 0)⟩,
   ⟨(some 12), none, .len (.tmp 11)⟩,
   ⟨(some 13), none, .bin .lss (.tmp 10) (.tmp 12)⟩]
@[simp] def ratlinelaw12_small_r5 : List VOp :=
  [⟨(some 16), none, .mov (.tmp 0)⟩,
   ⟨(some 17), none, .mov (.tmp 5)⟩,
   ⟨(some 18), none, .ia 1 (.tmp 16) (.tmp 17)⟩,
   ⟨(some 19), none, .ld (.tmp 18) none⟩,
   ⟨(some 20), none, .len (.tmp 19)⟩,
   ⟨(some 21), none, .bin .gtr (.tmp 20) (.const (.int .i64 20))⟩]
@[simp] def ratlinelaw12_small_r6 : List VOp :=
  [⟨(some 4), none, .mov (.const (.bool false))⟩]
@[simp] def ratlinelaw12_small_r7 : List VOp :=
  [⟨(some 14), none, .mov (.tmp 5)⟩,
   ⟨(some 15), none, .bin .add (.tmp 14) (.const (.int .i64 1))⟩,
   ⟨(some 5), none, .mov (.tmp 15)⟩]
def ratlinelaw12_small_l8 : VCode :=
  (.seq (.seq (.reg ratlinelaw12_small_r4) (.cond (.tmp 13) .skip (.exit 0))) (.seq (.block 1 (.seq (.reg ratlinelaw12_small_r5) (.cond (.tmp 21) (.seq (.reg ratlinelaw12_small_r6) .ret) .skip))) (.reg ratlinelaw12_small_r7)))
@[simp] def ratlinelaw12_small_r9 : List VOp :=
  [⟨(some 4), none, .mov (.const (.bool true))⟩]
def ratlinelaw12_small : VCode := (.seq (.reg ratlinelaw12_small_r0) (.seq (.seq (.reg ratlinelaw12_small_r1) (.cond (.tmp 9) (.seq (.reg ratlinelaw12_small_r2) .ret) .skip)) (.seq (.seq (.reg ratlinelaw12_small_r3) (.block 0 (.loop ratlinelaw12_small_l8))) (.seq (.reg ratlinelaw12_small_r9) .ret))))
theorem ratlinelaw12_small_is : fnV prog n_ratlinelaw12_small = some (22, ratlinelaw12_small, [.tmp 4]) := by kernel_rfl

/- ratlineref10_Ints -/
@[simp] def ratlineref10_Ints_r0 : List VOp :=
  [⟨(some 4), none, .mov (.const (.bool false))⟩]
@[simp] def ratlineref10_Ints_r1 : List VOp :=
  [⟨(some 6), none, .mov (.tmp 0)⟩,
   ⟨(some 7), none, .len (.tmp 6)⟩,
   ⟨(some 8), none, .mov (.tmp 1)⟩,
   ⟨(some 9), none, .len (.tmp 8)⟩,
   ⟨(some 10), none, .bin .neq (.tmp 7) (.tmp 9)⟩]
@[simp] def ratlineref10_Ints_r2 : List VOp :=
  [⟨(some 4), none, .mov (.const (.bool false))⟩]
@[simp] def ratlineref10_Ints_r3 : List VOp :=
  [⟨(some 5), none, .mov (.const (.int .i64 0))⟩]
@[simp] def ratlineref10_Ints_r4 : List VOp :=
  [⟨(some 11), none, .mov (.tmp 5)⟩,
   ⟨(some 12), none, .mov (.tmp 0)⟩,
   ⟨(some 13), none, .len (.tmp 12)⟩,
   ⟨(some 14), none, .bin .lss (.tmp 11) (.tmp 13)⟩]
@[simp] def ratlineref10_Ints_t5 : VT :=
  .op ⟨(some 17), none, .mov (.tmp 0)⟩ <|
  .op ⟨(some 18), none, .mov (.tmp 5)⟩ <|
  .op ⟨(some 19), none, .ia 1 (.tmp 17) (.tmp 18)⟩ <|
  .op ⟨(some 20), none, .ld (.tmp 19) none⟩ <|
  .op ⟨(some 21), none, .mov (.tmp 1)⟩ <|
  .op ⟨(some 22), none, .mov (.tmp 5)⟩ <|
  .op ⟨(some 23), none, .ia 1 (.tmp 21) (.tmp 22)⟩ <|
  .op ⟨(some 24), none, .ld (.tmp 23) none⟩ <|
  .op ⟨(some 25), none, .bin .neq (.tmp 20) (.tmp 24)⟩ <|
  .done
@[simp] def ratlineref10_Ints_r6 : List VOp :=
  [⟨(some 4), none, .mov (.const (.bool false))⟩]
@[simp] def ratlineref10_Ints_r7 : List VOp :=
  [⟨(some 15), none, .mov (.tmp 5)⟩,
   ⟨(some 16), none, .bin .add (.tmp 15) (.const (.int .i64 1))⟩,
   ⟨(some 5), none, .mov (.tmp 16)⟩]
def ratlineref10_Ints_l8 : VCode :=
  (.seq (.seq (.reg ratlineref10_Ints_r4) (.cond (.tmp 14) .skip (.exit 0))) (.seq (.block 1 (.seq (.any ratlineref10_Ints_t5) (.cond (.tmp 25) (.seq (.reg ratlineref10_Ints_r6) .ret) .skip))) (.reg ratlineref10_Ints_r7)))
@[simp] def ratlineref10_Ints_r9 : List VOp :=
  [⟨(some 4), none, .mov (.const (.bool true))⟩]
def ratlineref10_Ints : VCode := (.seq (.reg ratlineref10_Ints_r0) (.seq (.seq (.reg ratlineref10_Ints_r1) (.cond (.tmp 10) (.seq (.reg ratlineref10_Ints_r2) .ret) .skip)) (.seq (.seq (.reg ratlineref10_Ints_r3) (.block 0 (.loop ratlineref10_Ints_l8))) (.seq (.reg ratlineref10_Ints_r9) .ret))))
theorem ratlineref10_Ints_is : fnV prog n_ratlineref10_Ints = some (26, ratlineref10_Ints, [.tmp 4]) := by kernel_rfl

/- waits_Cycle -/
@[simp] def waits_Cycle_r0 : List VOp :=
  [⟨(some 4), none, .nils 1⟩]
@[simp] def waits_Cycle_r1 : List VOp :=
  [⟨(some 20), none, .mov (.tmp 1)⟩,
   ⟨(some 21), none, .bin .lss (.tmp 20) (.const (.int .i64 0))⟩,
   ⟨(some 22), none, .mov (.tmp 21)⟩,
   ⟨(some 23), (some (22, false)), .mov (.tmp 1)⟩,
   ⟨(some 24), (some (22, false)), .mov (.tmp 0)⟩,
   ⟨(some 25), (some (22, false)), .len (.tmp 24)⟩,
   ⟨(some 26), (some (22, false)), .bin .geq (.tmp 23) (.tmp 25)⟩,
   ⟨(some 27), none, .pick (.tmp 22) (.const (.bool true)) (.tmp 26)⟩]
@[simp] def waits_Cycle_r2 : List VOp :=
  [⟨(some 4), none, .nils 1⟩]
@[simp] def waits_Cycle_r3 : List VOp :=
  [⟨(some 28), none, .mkmap (false, [.i .i64], false)⟩,
   ⟨(some 29), none, .mov (.tmp 1)⟩,
   ⟨none, none, .mset (false, [.i .i64], false) (.tmp 28) (.tmp 29) (.const (.int .i64 (-1)))⟩,
   ⟨(some 30), none, .mov (.tmp 28)⟩,
   ⟨(some 5), none, .mov (.tmp 30)⟩]
@[simp] def waits_Cycle_r4 : List VOp :=
  [⟨(some 31), none, .mov (.tmp 1)⟩,
   ⟨(some 32), none, .lit 1 1 [(0, (.tmp 31))]⟩,
   ⟨(some 6), none, .mov (.tmp 32)⟩]
@[simp] def waits_Cycle_r5 : List VOp :=
  [⟨(some 7), none, .mov (.const (.int .i64 (-1)))⟩]
@[simp] def waits_Cycle_r6 : List VOp :=
  [⟨(some 33), none, .mov (.tmp 6)⟩,
   ⟨(some 34), none, .len (.tmp 33)⟩,
   ⟨(some 35), none, .bin .gtr (.tmp 34) (.const (.int .i64 0))⟩]
@[simp] def waits_Cycle_r7 : List VOp :=
  [⟨(some 8), none, .nils 1⟩]
@[simp] def waits_Cycle_r8 : List VOp :=
  [⟨(some 36), none, .mov (.tmp 6)⟩,
   ⟨(some 37), none, .len (.tmp 36)⟩,
   ⟨(some 38), none, .mov (.const (.int .i64 0))⟩]
@[simp] def waits_Cycle_r9 : List VOp :=
  [⟨(some 39), none, .bin .lss (.tmp 38) (.tmp 37)⟩]
@[simp] def waits_Cycle_r10 : List VOp :=
  [⟨(some 40), none, .ia 1 (.tmp 36) (.tmp 38)⟩,
   ⟨(some 41), none, .ld (.tmp 40) none⟩,
   ⟨(some 10), none, .mov (.tmp 41)⟩]
@[simp] def waits_Cycle_r11 : List VOp :=
  [⟨(some 42), none, .mov (.tmp 0)⟩,
   ⟨(some 43), none, .mov (.tmp 10)⟩,
   ⟨(some 44), none, .ia 1 (.tmp 42) (.tmp 43)⟩,
   ⟨(some 45), none, .ld (.tmp 44) none⟩,
   ⟨(some 46), none, .call n_slices_Clone_int_int [(.tmp 45)]⟩,
   ⟨(some 11), none, .mov (.tmp 46)⟩]
@[simp] def waits_Cycle_r12 : List VOp :=
  [⟨(some 47), none, .mov (.tmp 11)⟩,
   ⟨(some 48), none, .call n_slices_Sort_int_int [(.tmp 47)]⟩]
@[simp] def waits_Cycle_r13 : List VOp :=
  [⟨(some 50), none, .mov (.tmp 11)⟩,
   ⟨(some 51), none, .mov (.tmp 1)⟩,
   ⟨(some 52), none, .call n_slices_BinarySearch_int_int [(.tmp 50), (.tmp 51)]⟩,
   ⟨(some 49), none, .mov (.tmp 52)⟩,
   ⟨(some 53), none, .ext 0 (.tmp 49)⟩,
   ⟨(some 54), none, .ext 1 (.tmp 49)⟩,
   ⟨(some 12), none, .mov (.tmp 53)⟩,
   ⟨(some 13), none, .mov (.tmp 54)⟩]
@[simp] def waits_Cycle_r14 : List VOp :=
  [⟨(some 55), none, .mov (.tmp 13)⟩]
@[simp] def waits_Cycle_r15 : List VOp :=
  [⟨(some 56), none, .mov (.tmp 10)⟩,
   ⟨(some 7), none, .mov (.tmp 56)⟩]
@[simp] def waits_Cycle_r16 : List VOp :=
  [⟨(some 57), none, .mov (.tmp 11)⟩,
   ⟨(some 58), none, .len (.tmp 57)⟩,
   ⟨(some 59), none, .mov (.const (.int .i64 0))⟩]
@[simp] def waits_Cycle_r17 : List VOp :=
  [⟨(some 60), none, .bin .lss (.tmp 59) (.tmp 58)⟩]
@[simp] def waits_Cycle_r18 : List VOp :=
  [⟨(some 61), none, .ia 1 (.tmp 57) (.tmp 59)⟩,
   ⟨(some 62), none, .ld (.tmp 61) none⟩,
   ⟨(some 15), none, .mov (.tmp 62)⟩]
@[simp] def waits_Cycle_r19 : List VOp :=
  [⟨(some 63), none, .mov (.tmp 15)⟩,
   ⟨(some 64), none, .bin .lss (.tmp 63) (.const (.int .i64 0))⟩,
   ⟨(some 65), none, .mov (.tmp 64)⟩,
   ⟨(some 66), (some (65, false)), .mov (.tmp 15)⟩,
   ⟨(some 67), (some (65, false)), .mov (.tmp 0)⟩,
   ⟨(some 68), (some (65, false)), .len (.tmp 67)⟩,
   ⟨(some 69), (some (65, false)), .bin .geq (.tmp 66) (.tmp 68)⟩,
   ⟨(some 70), none, .pick (.tmp 65) (.const (.bool true)) (.tmp 69)⟩]
@[simp] def waits_Cycle_r20 : List VOp :=
  [⟨(some 72), none, .mov (.tmp 5)⟩,
   ⟨(some 73), none, .mov (.tmp 15)⟩,
   ⟨(some 74), none, .lkp (false, [.i .i64], false) [.iv (.v (.int .i64 0))] (.tmp 72) (.tmp 73) true⟩,
   ⟨(some 71), none, .mov (.tmp 74)⟩,
   ⟨(some 75), none, .ext 0 (.tmp 71)⟩,
   ⟨(some 76), none, .ext 1 (.tmp 71)⟩,
   ⟨(some 16), none, .mov (.tmp 75)⟩,
   ⟨(some 17), none, .mov (.tmp 76)⟩]
@[simp] def waits_Cycle_r21 : List VOp :=
  [⟨(some 77), none, .mov (.tmp 17)⟩,
   ⟨(some 78), none, .un .not (.tmp 77)⟩]
@[simp] def waits_Cycle_r22 : List VOp :=
  [⟨(some 79), none, .mov (.tmp 5)⟩,
   ⟨(some 80), none, .mov (.tmp 15)⟩,
   ⟨(some 81), none, .mov (.tmp 10)⟩,
   ⟨none, none, .mset (false, [.i .i64], false) (.tmp 79) (.tmp 80) (.tmp 81)⟩]
@[simp] def waits_Cycle_r23 : List VOp :=
  [⟨(some 82), none, .mov (.tmp 8)⟩,
   ⟨(some 83), none, .mov (.tmp 15)⟩,
   ⟨(some 84), none, .lit 1 1 [(0, (.tmp 83))]⟩,
   ⟨(some 85), none, .app 1 8 (.tmp 82) (.tmp 84)⟩,
   ⟨(some 8), none, .mov (.tmp 85)⟩]
@[simp] def waits_Cycle_r24 : List VOp :=
  [⟨(some 86), none, .bin .add (.tmp 59) (.const (.int .i64 1))⟩,
   ⟨(some 59), none, .mov (.tmp 86)⟩]
def waits_Cycle_l25 : VCode :=
  (.seq (.reg waits_Cycle_r17) (.seq (.cond (.tmp 60) .skip (.exit 4)) (.seq (.block 5 (.seq (.reg waits_Cycle_r18) (.seq (.seq (.reg waits_Cycle_r19) (.cond (.tmp 70) (.exit 5) .skip)) (.seq (.reg waits_Cycle_r20) (.seq (.reg waits_Cycle_r21) (.cond (.tmp 78) (.seq (.reg waits_Cycle_r22) (.reg waits_Cycle_r23)) .skip)))))) (.reg waits_Cycle_r24))))
@[simp] def waits_Cycle_r26 : List VOp :=
  [⟨(some 87), none, .bin .add (.tmp 38) (.const (.int .i64 1))⟩,
   ⟨(some 38), none, .mov (.tmp 87)⟩]
def waits_Cycle_l27 : VCode :=
  (.seq (.reg waits_Cycle_r9) (.seq (.cond (.tmp 39) .skip (.exit 2)) (.seq (.block 3 (.seq (.reg waits_Cycle_r10) (.seq (.reg waits_Cycle_r11) (.seq (.reg waits_Cycle_r12) (.seq (.seq (.reg waits_Cycle_r13) (.seq (.reg waits_Cycle_r14) (.cond (.tmp 55) (.seq (.reg waits_Cycle_r15) (.exit 0)) .skip))) (.seq (.reg waits_Cycle_r16) (.block 4 (.loop waits_Cycle_l25)))))))) (.reg waits_Cycle_r26))))
@[simp] def waits_Cycle_r28 : List VOp :=
  [⟨(some 88), none, .mov (.tmp 8)⟩,
   ⟨(some 6), none, .mov (.tmp 88)⟩]
def waits_Cycle_l29 : VCode :=
  (.seq (.seq (.reg waits_Cycle_r6) (.cond (.tmp 35) .skip (.exit 0))) (.block 1 (.seq (.reg waits_Cycle_r7) (.seq (.seq (.reg waits_Cycle_r8) (.block 2 (.loop waits_Cycle_l27))) (.reg waits_Cycle_r28)))))
@[simp] def waits_Cycle_r30 : List VOp :=
  [⟨(some 18), none, .nils 1⟩]
@[simp] def waits_Cycle_r31 : List VOp :=
  [⟨(some 89), none, .mov (.tmp 7)⟩,
   ⟨(some 19), none, .mov (.tmp 89)⟩]
@[simp] def waits_Cycle_r32 : List VOp :=
  [⟨(some 90), none, .mov (.tmp 19)⟩,
   ⟨(some 91), none, .bin .geq (.tmp 90) (.const (.int .i64 0))⟩]
@[simp] def waits_Cycle_r33 : List VOp :=
  [⟨(some 95), none, .mov (.tmp 18)⟩,
   ⟨(some 96), none, .mov (.tmp 19)⟩,
   ⟨(some 97), none, .lit 1 1 [(0, (.tmp 96))]⟩,
   ⟨(some 98), none, .app 1 8 (.tmp 95) (.tmp 97)⟩,
   ⟨(some 18), none, .mov (.tmp 98)⟩]
@[simp] def waits_Cycle_r34 : List VOp :=
  [⟨(some 92), none, .mov (.tmp 5)⟩,
   ⟨(some 93), none, .mov (.tmp 19)⟩,
   ⟨(some 94), none, .lkp (false, [.i .i64], false) [.iv (.v (.int .i64 0))] (.tmp 92) (.tmp 93) false⟩,
   ⟨(some 19), none, .mov (.tmp 94)⟩]
def waits_Cycle_l35 : VCode :=
  (.seq (.seq (.reg waits_Cycle_r32) (.cond (.tmp 91) .skip (.exit 6))) (.seq (.block 7 (.reg waits_Cycle_r33)) (.reg waits_Cycle_r34)))
@[simp] def waits_Cycle_r36 : List VOp :=
  [⟨(some 99), none, .mov (.tmp 18)⟩,
   ⟨(some 100), none, .call n_slices_Reverse_int_int [(.tmp 99)]⟩]
@[simp] def waits_Cycle_r37 : List VOp :=
  [⟨(some 101), none, .mov (.tmp 18)⟩,
   ⟨(some 4), none, .mov (.tmp 101)⟩]
def waits_Cycle : VCode := (.seq (.reg waits_Cycle_r0) (.scope (.seq (.seq (.reg waits_Cycle_r1) (.cond (.tmp 27) (.seq (.reg waits_Cycle_r2) .ret) .skip)) (.seq (.reg waits_Cycle_r3) (.seq (.reg waits_Cycle_r4) (.seq (.reg waits_Cycle_r5) (.seq .skip (.seq (.block 0 (.loop waits_Cycle_l29)) (.seq (.reg waits_Cycle_r30) (.seq (.seq (.reg waits_Cycle_r31) (.block 6 (.loop waits_Cycle_l35))) (.seq (.reg waits_Cycle_r36) (.seq (.reg waits_Cycle_r37) .ret))))))))))))
theorem waits_Cycle_is : fnV prog n_waits_Cycle = some (102, waits_Cycle, [.tmp 4]) := by kernel_rfl

/- ratlineref12_Cycle -/
@[simp] def ratlineref12_Cycle_r0 : List VOp :=
  [⟨(some 4), none, .nils 1⟩]
@[simp] def ratlineref12_Cycle_r1 : List VOp :=
  [⟨(some 7), none, .mov (.tmp 1)⟩,
   ⟨(some 8), none, .bin .lss (.tmp 7) (.const (.int .i64 0))⟩,
   ⟨(some 9), none, .mov (.tmp 8)⟩,
   ⟨(some 10), (some (9, false)), .mov (.tmp 1)⟩,
   ⟨(some 11), (some (9, false)), .mov (.tmp 0)⟩,
   ⟨(some 12), (some (9, false)), .len (.tmp 11)⟩,
   ⟨(some 13), (some (9, false)), .bin .geq (.tmp 10) (.tmp 12)⟩,
   ⟨(some 14), none, .pick (.tmp 9) (.const (.bool true)) (.tmp 13)⟩]
@[simp] def ratlineref12_Cycle_r2 : List VOp :=
  [⟨(some 4), none, .nils 1⟩]
@[simp] def ratlineref12_Cycle_r3 : List VOp :=
  [⟨(some 5), none, .mov (.const (.int .i64 0))⟩]
@[simp] def ratlineref12_Cycle_r4 : List VOp :=
  [⟨(some 15), none, .mov (.tmp 5)⟩,
   ⟨(some 16), none, .mov (.tmp 0)⟩,
   ⟨(some 17), none, .len (.tmp 16)⟩,
   ⟨(some 18), none, .bin .lss (.tmp 15) (.tmp 17)⟩]
@[simp] def ratlineref12_Cycle_r5 : List VOp :=
  [⟨(some 21), none, .mov (.tmp 0)⟩,
   ⟨(some 22), none, .mov (.tmp 1)⟩,
   ⟨(some 23), none, .lit 1 1 [(0, (.tmp 22))]⟩,
   ⟨(some 24), none, .mov (.tmp 5)⟩,
   ⟨(some 25), none, .call n_ratlineref12_way [(.tmp 21), (.tmp 23), (.tmp 24)]⟩,
   ⟨(some 6), none, .mov (.tmp 25)⟩]
@[simp] def ratlineref12_Cycle_r6 : List VOp :=
  [⟨(some 26), none, .mov (.tmp 6)⟩,
   ⟨(some 27), none, .len (.tmp 26)⟩,
   ⟨(some 28), none, .bin .gtr (.tmp 27) (.const (.int .i64 0))⟩]
@[simp] def ratlineref12_Cycle_r7 : List VOp :=
  [⟨(some 29), none, .mov (.tmp 6)⟩,
   ⟨(some 4), none, .mov (.tmp 29)⟩]
@[simp] def ratlineref12_Cycle_r8 : List VOp :=
  [⟨(some 19), none, .mov (.tmp 5)⟩,
   ⟨(some 20), none, .bin .add (.tmp 19) (.const (.int .i64 1))⟩,
   ⟨(some 5), none, .mov (.tmp 20)⟩]
def ratlineref12_Cycle_l9 : VCode :=
  (.seq (.seq (.reg ratlineref12_Cycle_r4) (.cond (.tmp 18) .skip (.exit 0))) (.seq (.block 1 (.seq (.reg ratlineref12_Cycle_r5) (.seq (.reg ratlineref12_Cycle_r6) (.cond (.tmp 28) (.seq (.reg ratlineref12_Cycle_r7) .ret) .skip)))) (.reg ratlineref12_Cycle_r8)))
@[simp] def ratlineref12_Cycle_r10 : List VOp :=
  [⟨(some 4), none, .nils 1⟩]
def ratlineref12_Cycle : VCode := (.seq (.reg ratlineref12_Cycle_r0) (.seq (.seq (.reg ratlineref12_Cycle_r1) (.cond (.tmp 14) (.seq (.reg ratlineref12_Cycle_r2) .ret) .skip)) (.seq (.seq (.reg ratlineref12_Cycle_r3) (.block 0 (.loop ratlineref12_Cycle_l9))) (.seq (.reg ratlineref12_Cycle_r10) .ret))))
theorem ratlineref12_Cycle_is : fnV prog n_ratlineref12_Cycle = some (30, ratlineref12_Cycle, [.tmp 4]) := by kernel_rfl

/- waits_Stuck -/
@[simp] def waits_Stuck_r0 : List VOp :=
  [⟨(some 2), none, .nils 1⟩]
@[simp] def waits_Stuck_r1 : List VOp :=
  [⟨(some 16), none, .mov (.tmp 0)⟩,
   ⟨(some 17), none, .len (.tmp 16)⟩,
   ⟨(some 18), none, .mks 1 8 [.iv (.v (.int .i64 0))] (.tmp 17) (.tmp 17)⟩,
   ⟨(some 3), none, .mov (.tmp 18)⟩]
@[simp] def waits_Stuck_r2 : List VOp :=
  [⟨(some 19), none, .mov (.tmp 0)⟩,
   ⟨(some 20), none, .len (.tmp 19)⟩,
   ⟨(some 21), none, .mks 1 24 [.nil 1] (.tmp 20) (.tmp 20)⟩,
   ⟨(some 4), none, .mov (.tmp 21)⟩]
@[simp] def waits_Stuck_r3 : List VOp :=
  [⟨(some 5), none, .nils 1⟩]
@[simp] def waits_Stuck_r4 : List VOp :=
  [⟨(some 22), none, .mov (.tmp 0)⟩,
   ⟨(some 23), none, .len (.tmp 22)⟩,
   ⟨(some 24), none, .mov (.const (.int .i64 0))⟩]
@[simp] def waits_Stuck_r5 : List VOp :=
  [⟨(some 25), none, .bin .lss (.tmp 24) (.tmp 23)⟩]
@[simp] def waits_Stuck_r6 : List VOp :=
  [⟨(some 26), none, .mov (.tmp 24)⟩,
   ⟨(some 27), none, .ia 1 (.tmp 22) (.tmp 24)⟩,
   ⟨(some 28), none, .ld (.tmp 27) none⟩,
   ⟨(some 6), none, .mov (.tmp 26)⟩,
   ⟨(some 7), none, .mov (.tmp 28)⟩]
@[simp] def waits_Stuck_r7 : List VOp :=
  [⟨(some 29), none, .mov (.tmp 7)⟩,
   ⟨(some 30), none, .len (.tmp 29)⟩,
   ⟨(some 31), none, .mov (.const (.int .i64 0))⟩]
@[simp] def waits_Stuck_r8 : List VOp :=
  [⟨(some 32), none, .bin .lss (.tmp 31) (.tmp 30)⟩]
@[simp] def waits_Stuck_r9 : List VOp :=
  [⟨(some 33), none, .ia 1 (.tmp 29) (.tmp 31)⟩,
   ⟨(some 34), none, .ld (.tmp 33) none⟩,
   ⟨(some 9), none, .mov (.tmp 34)⟩]
@[simp] def waits_Stuck_r10 : List VOp :=
  [⟨(some 35), none, .mov (.tmp 9)⟩,
   ⟨(some 36), none, .bin .geq (.tmp 35) (.const (.int .i64 0))⟩,
   ⟨(some 37), none, .mov (.tmp 36)⟩,
   ⟨(some 38), (some (37, true)), .mov (.tmp 9)⟩,
   ⟨(some 39), (some (37, true)), .mov (.tmp 0)⟩,
   ⟨(some 40), (some (37, true)), .len (.tmp 39)⟩,
   ⟨(some 41), (some (37, true)), .bin .lss (.tmp 38) (.tmp 40)⟩,
   ⟨(some 42), none, .pick (.tmp 37) (.tmp 41) (.const (.bool false))⟩]
@[simp] def waits_Stuck_r11 : List VOp :=
  [⟨(some 43), none, .mov (.tmp 3)⟩,
   ⟨(some 44), none, .mov (.tmp 6)⟩,
   ⟨(some 45), none, .ia 1 (.tmp 43) (.tmp 44)⟩,
   ⟨(some 46), none, .ld (.tmp 45) none⟩,
   ⟨(some 47), none, .bin .add (.tmp 46) (.const (.int .i64 1))⟩,
   ⟨(some 48), none, .ia 1 (.tmp 43) (.tmp 44)⟩,
   ⟨none, none, .st (.tmp 48) (.tmp 47) 1⟩]
@[simp] def waits_Stuck_r12 : List VOp :=
  [⟨(some 49), none, .mov (.tmp 4)⟩,
   ⟨(some 50), none, .mov (.tmp 9)⟩,
   ⟨(some 51), none, .mov (.tmp 4)⟩,
   ⟨(some 52), none, .mov (.tmp 9)⟩,
   ⟨(some 53), none, .ia 1 (.tmp 51) (.tmp 52)⟩,
   ⟨(some 54), none, .ld (.tmp 53) none⟩,
   ⟨(some 55), none, .mov (.tmp 6)⟩,
   ⟨(some 56), none, .lit 1 1 [(0, (.tmp 55))]⟩,
   ⟨(some 57), none, .app 1 8 (.tmp 54) (.tmp 56)⟩,
   ⟨(some 58), none, .ia 1 (.tmp 49) (.tmp 50)⟩,
   ⟨none, none, .st (.tmp 58) (.tmp 57) 1⟩]
@[simp] def waits_Stuck_r13 : List VOp :=
  [⟨(some 59), none, .bin .add (.tmp 31) (.const (.int .i64 1))⟩,
   ⟨(some 31), none, .mov (.tmp 59)⟩]
def waits_Stuck_l14 : VCode :=
  (.seq (.reg waits_Stuck_r8) (.seq (.cond (.tmp 32) .skip (.exit 2)) (.seq (.block 3 (.seq (.reg waits_Stuck_r9) (.seq (.reg waits_Stuck_r10) (.cond (.tmp 42) (.seq (.reg waits_Stuck_r11) (.reg waits_Stuck_r12)) .skip)))) (.reg waits_Stuck_r13))))
@[simp] def waits_Stuck_r15 : List VOp :=
  [⟨(some 60), none, .mov (.tmp 3)⟩,
   ⟨(some 61), none, .mov (.tmp 6)⟩,
   ⟨(some 62), none, .ia 1 (.tmp 60) (.tmp 61)⟩,
   ⟨(some 63), none, .ld (.tmp 62) none⟩,
   ⟨(some 64), none, .bin .eql (.tmp 63) (.const (.int .i64 0))⟩]
@[simp] def waits_Stuck_r16 : List VOp :=
  [⟨(some 65), none, .mov (.tmp 5)⟩,
   ⟨(some 66), none, .mov (.tmp 6)⟩,
   ⟨(some 67), none, .lit 1 1 [(0, (.tmp 66))]⟩,
   ⟨(some 68), none, .app 1 8 (.tmp 65) (.tmp 67)⟩,
   ⟨(some 5), none, .mov (.tmp 68)⟩]
@[simp] def waits_Stuck_r17 : List VOp :=
  [⟨(some 69), none, .bin .add (.tmp 24) (.const (.int .i64 1))⟩,
   ⟨(some 24), none, .mov (.tmp 69)⟩]
def waits_Stuck_l18 : VCode :=
  (.seq (.reg waits_Stuck_r5) (.seq (.cond (.tmp 25) .skip (.exit 0)) (.seq (.block 1 (.seq (.reg waits_Stuck_r6) (.seq (.seq (.reg waits_Stuck_r7) (.block 2 (.loop waits_Stuck_l14))) (.seq (.reg waits_Stuck_r15) (.cond (.tmp 64) (.reg waits_Stuck_r16) .skip))))) (.reg waits_Stuck_r17))))
@[simp] def waits_Stuck_r19 : List VOp :=
  [⟨(some 70), none, .mkmap (false, [.i .i64], false)⟩,
   ⟨(some 10), none, .mov (.tmp 70)⟩]
@[simp] def waits_Stuck_r20 : List VOp :=
  [⟨(some 71), none, .mov (.tmp 5)⟩,
   ⟨(some 72), none, .len (.tmp 71)⟩,
   ⟨(some 73), none, .bin .gtr (.tmp 72) (.const (.int .i64 0))⟩]
@[simp] def waits_Stuck_r21 : List VOp :=
  [⟨(some 74), none, .mov (.tmp 5)⟩,
   ⟨(some 75), none, .ia 1 (.tmp 74) (.const (.int .i64 0))⟩,
   ⟨(some 76), none, .ld (.tmp 75) none⟩,
   ⟨(some 11), none, .mov (.tmp 76)⟩]
@[simp] def waits_Stuck_r22 : List VOp :=
  [⟨(some 77), none, .mov (.tmp 5)⟩,
   ⟨(some 78), none, .cut 1 (.tmp 77) (some (.const (.int .i64 1))) none⟩,
   ⟨(some 5), none, .mov (.tmp 78)⟩]
@[simp] def waits_Stuck_r23 : List VOp :=
  [⟨(some 79), none, .mov (.tmp 10)⟩,
   ⟨(some 80), none, .mov (.tmp 11)⟩,
   ⟨none, none, .mset (false, [.i .i64], false) (.tmp 79) (.tmp 80) (.const (.int .i64 1))⟩]
@[simp] def waits_Stuck_r24 : List VOp :=
  [⟨(some 81), none, .mov (.tmp 4)⟩,
   ⟨(some 82), none, .mov (.tmp 11)⟩,
   ⟨(some 83), none, .ia 1 (.tmp 81) (.tmp 82)⟩,
   ⟨(some 84), none, .ld (.tmp 83) none⟩,
   ⟨(some 85), none, .len (.tmp 84)⟩,
   ⟨(some 86), none, .mov (.const (.int .i64 0))⟩]
@[simp] def waits_Stuck_r25 : List VOp :=
  [⟨(some 87), none, .bin .lss (.tmp 86) (.tmp 85)⟩]
@[simp] def waits_Stuck_r26 : List VOp :=
  [⟨(some 88), none, .ia 1 (.tmp 84) (.tmp 86)⟩,
   ⟨(some 89), none, .ld (.tmp 88) none⟩,
   ⟨(some 13), none, .mov (.tmp 89)⟩]
@[simp] def waits_Stuck_r27 : List VOp :=
  [⟨(some 90), none, .mov (.tmp 3)⟩,
   ⟨(some 91), none, .mov (.tmp 13)⟩,
   ⟨(some 92), none, .ia 1 (.tmp 90) (.tmp 91)⟩,
   ⟨(some 93), none, .ld (.tmp 92) none⟩,
   ⟨(some 94), none, .bin .sub (.tmp 93) (.const (.int .i64 1))⟩,
   ⟨(some 95), none, .ia 1 (.tmp 90) (.tmp 91)⟩,
   ⟨none, none, .st (.tmp 95) (.tmp 94) 1⟩]
@[simp] def waits_Stuck_r28 : List VOp :=
  [⟨(some 96), none, .mov (.tmp 3)⟩,
   ⟨(some 97), none, .mov (.tmp 13)⟩,
   ⟨(some 98), none, .ia 1 (.tmp 96) (.tmp 97)⟩,
   ⟨(some 99), none, .ld (.tmp 98) none⟩,
   ⟨(some 100), none, .bin .eql (.tmp 99) (.const (.int .i64 0))⟩]
@[simp] def waits_Stuck_r29 : List VOp :=
  [⟨(some 101), none, .mov (.tmp 5)⟩,
   ⟨(some 102), none, .mov (.tmp 13)⟩,
   ⟨(some 103), none, .lit 1 1 [(0, (.tmp 102))]⟩,
   ⟨(some 104), none, .app 1 8 (.tmp 101) (.tmp 103)⟩,
   ⟨(some 5), none, .mov (.tmp 104)⟩]
@[simp] def waits_Stuck_r30 : List VOp :=
  [⟨(some 105), none, .bin .add (.tmp 86) (.const (.int .i64 1))⟩,
   ⟨(some 86), none, .mov (.tmp 105)⟩]
def waits_Stuck_l31 : VCode :=
  (.seq (.reg waits_Stuck_r25) (.seq (.cond (.tmp 87) .skip (.exit 6)) (.seq (.block 7 (.seq (.reg waits_Stuck_r26) (.seq (.reg waits_Stuck_r27) (.seq (.reg waits_Stuck_r28) (.cond (.tmp 100) (.reg waits_Stuck_r29) .skip))))) (.reg waits_Stuck_r30))))
def waits_Stuck_l32 : VCode :=
  (.seq (.seq (.reg waits_Stuck_r20) (.cond (.tmp 73) .skip (.exit 4))) (.block 5 (.seq (.reg waits_Stuck_r21) (.seq (.reg waits_Stuck_r22) (.seq (.reg waits_Stuck_r23) (.seq (.reg waits_Stuck_r24) (.block 6 (.loop waits_Stuck_l31))))))))
@[simp] def waits_Stuck_r33 : List VOp :=
  [⟨(some 14), none, .nils 1⟩]
@[simp] def waits_Stuck_r34 : List VOp :=
  [⟨(some 106), none, .mov (.tmp 0)⟩,
   ⟨(some 107), none, .len (.tmp 106)⟩,
   ⟨(some 108), none, .mov (.const (.int .i64 0))⟩]
@[simp] def waits_Stuck_r35 : List VOp :=
  [⟨(some 109), none, .bin .lss (.tmp 108) (.tmp 107)⟩]
@[simp] def waits_Stuck_r36 : List VOp :=
  [⟨(some 110), none, .mov (.tmp 108)⟩,
   ⟨(some 15), none, .mov (.tmp 110)⟩]
@[simp] def waits_Stuck_r37 : List VOp :=
  [⟨(some 111), none, .mov (.tmp 10)⟩,
   ⟨(some 112), none, .mov (.tmp 15)⟩,
   ⟨(some 113), none, .lkp (false, [.i .i64], false) [.iv (.v (.int .i64 0))] (.tmp 111) (.tmp 112) false⟩,
   ⟨(some 114), none, .bin .eql (.tmp 113) (.const (.int .i64 0))⟩]
@[simp] def waits_Stuck_r38 : List VOp :=
  [⟨(some 115), none, .mov (.tmp 14)⟩,
   ⟨(some 116), none, .mov (.tmp 15)⟩,
   ⟨(some 117), none, .lit 1 1 [(0, (.tmp 116))]⟩,
   ⟨(some 118), none, .app 1 8 (.tmp 115) (.tmp 117)⟩,
   ⟨(some 14), none, .mov (.tmp 118)⟩]
@[simp] def waits_Stuck_r39 : List VOp :=
  [⟨(some 119), none, .bin .add (.tmp 108) (.const (.int .i64 1))⟩,
   ⟨(some 108), none, .mov (.tmp 119)⟩]
def waits_Stuck_l40 : VCode :=
  (.seq (.reg waits_Stuck_r35) (.seq (.cond (.tmp 109) .skip (.exit 8)) (.seq (.block 9 (.seq (.reg waits_Stuck_r36) (.seq (.reg waits_Stuck_r37) (.cond (.tmp 114) (.reg waits_Stuck_r38) .skip)))) (.reg waits_Stuck_r39))))
@[simp] def waits_Stuck_r41 : List VOp :=
  [⟨(some 120), none, .mov (.tmp 14)⟩,
   ⟨(some 2), none, .mov (.tmp 120)⟩]
def waits_Stuck : VCode := (.seq (.reg waits_Stuck_r0) (.seq (.reg waits_Stuck_r1) (.seq (.reg waits_Stuck_r2) (.seq (.reg waits_Stuck_r3) (.seq (.seq (.reg waits_Stuck_r4) (.block 0 (.loop waits_Stuck_l18))) (.seq (.reg waits_Stuck_r19) (.seq (.block 4 (.loop waits_Stuck_l32)) (.seq (.reg waits_Stuck_r33) (.seq (.seq (.reg waits_Stuck_r34) (.block 8 (.loop waits_Stuck_l40))) (.seq (.reg waits_Stuck_r41) .ret))))))))))
theorem waits_Stuck_is : fnV prog n_waits_Stuck = some (121, waits_Stuck, [.tmp 2]) := by kernel_rfl

/- ratlineref12_Stuck -/
@[simp] def ratlineref12_Stuck_r0 : List VOp :=
  [⟨(some 2), none, .nils 1⟩]
@[simp] def ratlineref12_Stuck_r1 : List VOp :=
  [⟨(some 3), none, .nils 1⟩]
@[simp] def ratlineref12_Stuck_r2 : List VOp :=
  [⟨(some 4), none, .mov (.const (.bool true))⟩]
@[simp] def ratlineref12_Stuck_r3 : List VOp :=
  [⟨(some 11), none, .mov (.tmp 4)⟩]
@[simp] def ratlineref12_Stuck_r4 : List VOp :=
  [⟨(some 4), none, .mov (.const (.bool false))⟩]
@[simp] def ratlineref12_Stuck_r5 : List VOp :=
  [⟨(some 5), none, .mov (.const (.int .i64 0))⟩]
@[simp] def ratlineref12_Stuck_r6 : List VOp :=
  [⟨(some 12), none, .mov (.tmp 5)⟩,
   ⟨(some 13), none, .mov (.tmp 0)⟩,
   ⟨(some 14), none, .len (.tmp 13)⟩,
   ⟨(some 15), none, .bin .lss (.tmp 12) (.tmp 14)⟩]
@[simp] def ratlineref12_Stuck_r7 : List VOp :=
  [⟨(some 18), none, .mov (.tmp 3)⟩,
   ⟨(some 19), none, .mov (.tmp 5)⟩,
   ⟨(some 20), none, .call n_ratlineref12_in [(.tmp 18), (.tmp 19)]⟩,
   ⟨(some 21), none, .un .not (.tmp 20)⟩,
   ⟨(some 6), none, .mov (.tmp 21)⟩]
@[simp] def ratlineref12_Stuck_r8 : List VOp :=
  [⟨(some 7), none, .mov (.const (.int .i64 0))⟩]
@[simp] def ratlineref12_Stuck_r9 : List VOp :=
  [⟨(some 22), none, .mov (.tmp 7)⟩,
   ⟨(some 23), none, .mov (.tmp 0)⟩,
   ⟨(some 24), none, .mov (.tmp 5)⟩,
   ⟨(some 25), none, .ia 1 (.tmp 23) (.tmp 24)⟩,
   ⟨(some 26), none, .ld (.tmp 25) none⟩,
   ⟨(some 27), none, .len (.tmp 26)⟩,
   ⟨(some 28), none, .bin .lss (.tmp 22) (.tmp 27)⟩,
   ⟨(some 29), none, .mov (.tmp 28)⟩,
   ⟨(some 30), (some (29, true)), .mov (.tmp 6)⟩,
   ⟨(some 31), none, .pick (.tmp 29) (.tmp 30) (.const (.bool false))⟩]
@[simp] def ratlineref12_Stuck_r10 : List VOp :=
  [⟨(some 34), none, .mov (.tmp 0)⟩,
   ⟨(some 35), none, .mov (.tmp 5)⟩,
   ⟨(some 36), none, .ia 1 (.tmp 34) (.tmp 35)⟩,
   ⟨(some 37), none, .ld (.tmp 36) none⟩,
   ⟨(some 38), none, .mov (.tmp 7)⟩,
   ⟨(some 39), none, .ia 1 (.tmp 37) (.tmp 38)⟩,
   ⟨(some 40), none, .ld (.tmp 39) none⟩,
   ⟨(some 8), none, .mov (.tmp 40)⟩]
@[simp] def ratlineref12_Stuck_r11 : List VOp :=
  [⟨(some 41), none, .mov (.tmp 8)⟩,
   ⟨(some 42), none, .bin .lss (.tmp 41) (.const (.int .i64 0))⟩,
   ⟨(some 43), none, .mov (.tmp 42)⟩,
   ⟨(some 44), (some (43, false)), .mov (.tmp 8)⟩,
   ⟨(some 45), (some (43, false)), .mov (.tmp 0)⟩,
   ⟨(some 46), (some (43, false)), .len (.tmp 45)⟩,
   ⟨(some 47), (some (43, false)), .bin .geq (.tmp 44) (.tmp 46)⟩,
   ⟨(some 48), none, .pick (.tmp 43) (.const (.bool true)) (.tmp 47)⟩,
   ⟨(some 49), none, .mov (.tmp 48)⟩,
   ⟨(some 50), (some (49, false)), .mov (.tmp 3)⟩,
   ⟨(some 51), (some (49, false)), .mov (.tmp 8)⟩,
   ⟨(some 52), (some (49, false)), .call n_ratlineref12_in [(.tmp 50), (.tmp 51)]⟩,
   ⟨(some 53), none, .pick (.tmp 49) (.const (.bool true)) (.tmp 52)⟩,
   ⟨(some 6), none, .mov (.tmp 53)⟩]
@[simp] def ratlineref12_Stuck_r12 : List VOp :=
  [⟨(some 32), none, .mov (.tmp 7)⟩,
   ⟨(some 33), none, .bin .add (.tmp 32) (.const (.int .i64 1))⟩,
   ⟨(some 7), none, .mov (.tmp 33)⟩]
def ratlineref12_Stuck_l13 : VCode :=
  (.seq (.seq (.reg ratlineref12_Stuck_r9) (.cond (.tmp 31) .skip (.exit 4))) (.seq (.block 5 (.seq (.reg ratlineref12_Stuck_r10) (.reg ratlineref12_Stuck_r11))) (.reg ratlineref12_Stuck_r12)))
@[simp] def ratlineref12_Stuck_r14 : List VOp :=
  [⟨(some 54), none, .mov (.tmp 6)⟩]
@[simp] def ratlineref12_Stuck_r15 : List VOp :=
  [⟨(some 55), none, .mov (.tmp 3)⟩,
   ⟨(some 56), none, .mov (.tmp 5)⟩,
   ⟨(some 57), none, .lit 1 1 [(0, (.tmp 56))]⟩,
   ⟨(some 58), none, .app 1 8 (.tmp 55) (.tmp 57)⟩,
   ⟨(some 3), none, .mov (.tmp 58)⟩]
@[simp] def ratlineref12_Stuck_r16 : List VOp :=
  [⟨(some 4), none, .mov (.const (.bool true))⟩]
@[simp] def ratlineref12_Stuck_r17 : List VOp :=
  [⟨(some 16), none, .mov (.tmp 5)⟩,
   ⟨(some 17), none, .bin .add (.tmp 16) (.const (.int .i64 1))⟩,
   ⟨(some 5), none, .mov (.tmp 17)⟩]
def ratlineref12_Stuck_l18 : VCode :=
  (.seq (.seq (.reg ratlineref12_Stuck_r6) (.cond (.tmp 15) .skip (.exit 2))) (.seq (.block 3 (.seq (.reg ratlineref12_Stuck_r7) (.seq (.seq (.reg ratlineref12_Stuck_r8) (.block 4 (.loop ratlineref12_Stuck_l13))) (.seq (.reg ratlineref12_Stuck_r14) (.cond (.tmp 54) (.seq (.reg ratlineref12_Stuck_r15) (.reg ratlineref12_Stuck_r16)) .skip))))) (.reg ratlineref12_Stuck_r17)))
def ratlineref12_Stuck_l19 : VCode :=
  (.seq (.seq (.reg ratlineref12_Stuck_r3) (.cond (.tmp 11) .skip (.exit 0))) (.block 1 (.seq (.reg ratlineref12_Stuck_r4) (.seq (.reg ratlineref12_Stuck_r5) (.block 2 (.loop ratlineref12_Stuck_l18))))))
@[simp] def ratlineref12_Stuck_r20 : List VOp :=
  [⟨(some 9), none, .nils 1⟩]
@[simp] def ratlineref12_Stuck_r21 : List VOp :=
  [⟨(some 10), none, .mov (.const (.int .i64 0))⟩]
@[simp] def ratlineref12_Stuck_r22 : List VOp :=
  [⟨(some 59), none, .mov (.tmp 10)⟩,
   ⟨(some 60), none, .mov (.tmp 0)⟩,
   ⟨(some 61), none, .len (.tmp 60)⟩,
   ⟨(some 62), none, .bin .lss (.tmp 59) (.tmp 61)⟩]
@[simp] def ratlineref12_Stuck_r23 : List VOp :=
  [⟨(some 65), none, .mov (.tmp 3)⟩,
   ⟨(some 66), none, .mov (.tmp 10)⟩,
   ⟨(some 67), none, .call n_ratlineref12_in [(.tmp 65), (.tmp 66)]⟩,
   ⟨(some 68), none, .un .not (.tmp 67)⟩]
@[simp] def ratlineref12_Stuck_r24 : List VOp :=
  [⟨(some 69), none, .mov (.tmp 9)⟩,
   ⟨(some 70), none, .mov (.tmp 10)⟩,
   ⟨(some 71), none, .lit 1 1 [(0, (.tmp 70))]⟩,
   ⟨(some 72), none, .app 1 8 (.tmp 69) (.tmp 71)⟩,
   ⟨(some 9), none, .mov (.tmp 72)⟩]
@[simp] def ratlineref12_Stuck_r25 : List VOp :=
  [⟨(some 63), none, .mov (.tmp 10)⟩,
   ⟨(some 64), none, .bin .add (.tmp 63) (.const (.int .i64 1))⟩,
   ⟨(some 10), none, .mov (.tmp 64)⟩]
def ratlineref12_Stuck_l26 : VCode :=
  (.seq (.seq (.reg ratlineref12_Stuck_r22) (.cond (.tmp 62) .skip (.exit 6))) (.seq (.block 7 (.seq (.reg ratlineref12_Stuck_r23) (.cond (.tmp 68) (.reg ratlineref12_Stuck_r24) .skip))) (.reg ratlineref12_Stuck_r25)))
@[simp] def ratlineref12_Stuck_r27 : List VOp :=
  [⟨(some 73), none, .mov (.tmp 9)⟩,
   ⟨(some 2), none, .mov (.tmp 73)⟩]
def ratlineref12_Stuck : VCode := (.seq (.reg ratlineref12_Stuck_r0) (.seq (.reg ratlineref12_Stuck_r1) (.seq (.seq (.reg ratlineref12_Stuck_r2) (.block 0 (.loop ratlineref12_Stuck_l19))) (.seq (.reg ratlineref12_Stuck_r20) (.seq (.seq (.reg ratlineref12_Stuck_r21) (.block 6 (.loop ratlineref12_Stuck_l26))) (.seq (.reg ratlineref12_Stuck_r27) .ret))))))
theorem ratlineref12_Stuck_is : fnV prog n_ratlineref12_Stuck = some (74, ratlineref12_Stuck, [.tmp 2]) := by kernel_rfl

/- waits_Victim -/
@[simp] def waits_Victim_r0 : List VOp :=
  [⟨(some 3), none, .box (.tmp 1)⟩,
   ⟨(some 4), none, .mov (.const (.int .i64 0))⟩]
@[simp] def waits_Victim_r1 : List VOp :=
  [⟨(some 5), none, .mov (.const (.int .i64 (-1)))⟩]
@[simp] def waits_Victim_r2 : List VOp :=
  [⟨(some 9), none, .mkfn n_waits_Victim_1 [] [(.tmp 3)]⟩,
   ⟨(some 6), none, .mov (.tmp 9)⟩]
@[simp] def waits_Victim_r3 : List VOp :=
  [⟨(some 10), none, .mov (.tmp 0)⟩,
   ⟨(some 11), none, .len (.tmp 10)⟩,
   ⟨(some 12), none, .mov (.const (.int .i64 0))⟩]
@[simp] def waits_Victim_r4 : List VOp :=
  [⟨(some 13), none, .bin .lss (.tmp 12) (.tmp 11)⟩]
@[simp] def waits_Victim_r5 : List VOp :=
  [⟨(some 14), none, .ia 1 (.tmp 10) (.tmp 12)⟩,
   ⟨(some 15), none, .ld (.tmp 14) none⟩,
   ⟨(some 8), none, .mov (.tmp 15)⟩]
@[simp] def waits_Victim_r6 : List VOp :=
  [⟨(some 16), none, .mov (.tmp 8)⟩,
   ⟨(some 17), none, .bin .geq (.tmp 16) (.const (.int .i64 0))⟩,
   ⟨(some 18), none, .mov (.tmp 17)⟩,
   ⟨(some 19), (some (18, true)), .mov (.tmp 8)⟩,
   ⟨(some 20), (some (18, true)), .ld (.tmp 3) none⟩,
   ⟨(some 21), (some (18, true)), .len (.tmp 20)⟩,
   ⟨(some 22), (some (18, true)), .bin .lss (.tmp 19) (.tmp 21)⟩,
   ⟨(some 23), none, .pick (.tmp 18) (.tmp 22) (.const (.bool false))⟩,
   ⟨(some 24), none, .mov (.tmp 23)⟩,
   ⟨(some 25), (some (24, true)), .mov (.tmp 5)⟩,
   ⟨(some 26), (some (24, true)), .bin .lss (.tmp 25) (.const (.int .i64 0))⟩,
   ⟨(some 27), (some (24, true)), .mov (.tmp 26)⟩,
   ⟨(some 28), (some (27, false)), .mov (.tmp 6)⟩,
   ⟨(some 29), (some (27, false)), .mov (.tmp 8)⟩,
   ⟨(some 30), (some (27, false)), .mov (.tmp 5)⟩,
   ⟨(some 31), (some (27, false)), .callv (.tmp 28) [(.tmp 29), (.tmp 30)]⟩,
   ⟨(some 32), (some (24, true)), .pick (.tmp 27) (.const (.bool true)) (.tmp 31)⟩,
   ⟨(some 33), none, .pick (.tmp 24) (.tmp 32) (.const (.bool false))⟩]
@[simp] def waits_Victim_r7 : List VOp :=
  [⟨(some 34), none, .mov (.tmp 8)⟩,
   ⟨(some 5), none, .mov (.tmp 34)⟩]
@[simp] def waits_Victim_r8 : List VOp :=
  [⟨(some 35), none, .bin .add (.tmp 12) (.const (.int .i64 1))⟩,
   ⟨(some 12), none, .mov (.tmp 35)⟩]
def waits_Victim_l9 : VCode :=
  (.seq (.reg waits_Victim_r4) (.seq (.cond (.tmp 13) .skip (.exit 0)) (.seq (.block 1 (.seq (.reg waits_Victim_r5) (.seq (.reg waits_Victim_r6) (.cond (.tmp 33) (.reg waits_Victim_r7) .skip)))) (.reg waits_Victim_r8))))
@[simp] def waits_Victim_r10 : List VOp :=
  [⟨(some 36), none, .mov (.tmp 5)⟩,
   ⟨(some 4), none, .mov (.tmp 36)⟩]
def waits_Victim : VCode := (.seq (.reg waits_Victim_r0) (.seq (.reg waits_Victim_r1) (.seq (.reg waits_Victim_r2) (.seq (.seq (.reg waits_Victim_r3) (.block 0 (.loop waits_Victim_l9))) (.seq (.reg waits_Victim_r10) .ret)))))
theorem waits_Victim_is : fnV prog n_waits_Victim = some (37, waits_Victim, [.tmp 4]) := by kernel_rfl

/- ratlineref12_Victim -/
@[simp] def ratlineref12_Victim_r0 : List VOp :=
  [⟨(some 4), none, .mov (.const (.int .i64 0))⟩]
@[simp] def ratlineref12_Victim_r1 : List VOp :=
  [⟨(some 5), none, .mov (.const (.int .i64 (-1)))⟩]
@[simp] def ratlineref12_Victim_r2 : List VOp :=
  [⟨(some 6), none, .mov (.const (.int .i64 0))⟩]
@[simp] def ratlineref12_Victim_r3 : List VOp :=
  [⟨(some 8), none, .mov (.tmp 6)⟩,
   ⟨(some 9), none, .mov (.tmp 0)⟩,
   ⟨(some 10), none, .len (.tmp 9)⟩,
   ⟨(some 11), none, .bin .lss (.tmp 8) (.tmp 10)⟩]
@[simp] def ratlineref12_Victim_r4 : List VOp :=
  [⟨(some 14), none, .mov (.tmp 0)⟩,
   ⟨(some 15), none, .mov (.tmp 6)⟩,
   ⟨(some 16), none, .ia 1 (.tmp 14) (.tmp 15)⟩,
   ⟨(some 17), none, .ld (.tmp 16) none⟩,
   ⟨(some 7), none, .mov (.tmp 17)⟩]
@[simp] def ratlineref12_Victim_r5 : List VOp :=
  [⟨(some 18), none, .mov (.tmp 7)⟩,
   ⟨(some 19), none, .bin .lss (.tmp 18) (.const (.int .i64 0))⟩,
   ⟨(some 20), none, .mov (.tmp 19)⟩,
   ⟨(some 21), (some (20, false)), .mov (.tmp 7)⟩,
   ⟨(some 22), (some (20, false)), .mov (.tmp 1)⟩,
   ⟨(some 23), (some (20, false)), .len (.tmp 22)⟩,
   ⟨(some 24), (some (20, false)), .bin .geq (.tmp 21) (.tmp 23)⟩,
   ⟨(some 25), none, .pick (.tmp 20) (.const (.bool true)) (.tmp 24)⟩]
@[simp] def ratlineref12_Victim_t6 : VT :=
  .op ⟨(some 26), none, .mov (.tmp 5)⟩ <|
  .op ⟨(some 27), none, .bin .lss (.tmp 26) (.const (.int .i64 0))⟩ <|
  .op ⟨(some 28), none, .mov (.tmp 27)⟩ <|
  .op ⟨(some 29), (some (28, false)), .mov (.tmp 1)⟩ <|
  .op ⟨(some 30), (some (28, false)), .mov (.tmp 7)⟩ <|
  .op ⟨(some 31), (some (28, false)), .ia 1 (.tmp 29) (.tmp 30)⟩ <|
  .op ⟨(some 32), (some (28, false)), .ld (.tmp 31) none⟩ <|
  .op ⟨(some 33), (some (28, false)), .mov (.tmp 1)⟩ <|
  .op ⟨(some 34), (some (28, false)), .mov (.tmp 5)⟩ <|
  .op ⟨(some 35), (some (28, false)), .ia 1 (.tmp 33) (.tmp 34)⟩ <|
  .op ⟨(some 36), (some (28, false)), .ld (.tmp 35) none⟩ <|
  .op ⟨(some 37), (some (28, false)), .bin .gtr (.tmp 32) (.tmp 36)⟩ <|
  .op ⟨(some 38), none, .pick (.tmp 28) (.const (.bool true)) (.tmp 37)⟩ <|
  .op ⟨(some 39), none, .mov (.tmp 38)⟩ <|
  .op ⟨(some 40), (some (39, false)), .mov (.tmp 1)⟩ <|
  .op ⟨(some 41), (some (39, false)), .mov (.tmp 7)⟩ <|
  .op ⟨(some 42), (some (39, false)), .ia 1 (.tmp 40) (.tmp 41)⟩ <|
  .op ⟨(some 43), (some (39, false)), .ld (.tmp 42) none⟩ <|
  .op ⟨(some 44), (some (39, false)), .mov (.tmp 1)⟩ <|
  .op ⟨(some 45), (some (39, false)), .mov (.tmp 5)⟩ <|
  .op ⟨(some 46), (some (39, false)), .ia 1 (.tmp 44) (.tmp 45)⟩ <|
  .op ⟨(some 47), (some (39, false)), .ld (.tmp 46) none⟩ <|
  .op ⟨(some 48), (some (39, false)), .bin .eql (.tmp 43) (.tmp 47)⟩ <|
  .op ⟨(some 49), (some (39, false)), .mov (.tmp 48)⟩ <|
  .op ⟨(some 50), (some (49, true)), .mov (.tmp 7)⟩ <|
  .op ⟨(some 51), (some (49, true)), .mov (.tmp 5)⟩ <|
  .op ⟨(some 52), (some (49, true)), .bin .gtr (.tmp 50) (.tmp 51)⟩ <|
  .op ⟨(some 53), (some (39, false)), .pick (.tmp 49) (.tmp 52) (.const (.bool false))⟩ <|
  .op ⟨(some 54), none, .pick (.tmp 39) (.const (.bool true)) (.tmp 53)⟩ <|
  .done
@[simp] def ratlineref12_Victim_r7 : List VOp :=
  [⟨(some 55), none, .mov (.tmp 7)⟩,
   ⟨(some 5), none, .mov (.tmp 55)⟩]
@[simp] def ratlineref12_Victim_r8 : List VOp :=
  [⟨(some 12), none, .mov (.tmp 6)⟩,
   ⟨(some 13), none, .bin .add (.tmp 12) (.const (.int .i64 1))⟩,
   ⟨(some 6), none, .mov (.tmp 13)⟩]
def ratlineref12_Victim_l9 : VCode :=
  (.seq (.seq (.reg ratlineref12_Victim_r3) (.cond (.tmp 11) .skip (.exit 0))) (.seq (.block 1 (.seq (.reg ratlineref12_Victim_r4) (.seq (.seq (.reg ratlineref12_Victim_r5) (.cond (.tmp 25) (.exit 1) .skip)) (.seq (.any ratlineref12_Victim_t6) (.cond (.tmp 54) (.reg ratlineref12_Victim_r7) .skip))))) (.reg ratlineref12_Victim_r8)))
@[simp] def ratlineref12_Victim_r10 : List VOp :=
  [⟨(some 56), none, .mov (.tmp 5)⟩,
   ⟨(some 4), none, .mov (.tmp 56)⟩]
def ratlineref12_Victim : VCode := (.seq (.reg ratlineref12_Victim_r0) (.seq (.reg ratlineref12_Victim_r1) (.seq (.seq (.reg ratlineref12_Victim_r2) (.block 0 (.loop ratlineref12_Victim_l9))) (.seq (.reg ratlineref12_Victim_r10) .ret))))
theorem ratlineref12_Victim_is : fnV prog n_ratlineref12_Victim = some (57, ratlineref12_Victim, [.tmp 4]) := by kernel_rfl

/- ratlinelaw12_in -/
@[simp] def ratlinelaw12_in_r0 : List VOp :=
  [⟨(some 4), none, .mov (.const (.bool false))⟩]
@[simp] def ratlinelaw12_in_r1 : List VOp :=
  [⟨(some 5), none, .mov (.const (.int .i64 0))⟩]
@[simp] def ratlinelaw12_in_r2 : List VOp :=
  [⟨(some 6), none, .mov (.tmp 5)⟩,
   ⟨(some 7), none, .mov (.tmp 0)⟩,
   ⟨(some 8), none, .len (.tmp 7)⟩,
   ⟨(some 9), none, .bin .lss (.tmp 6) (.tmp 8)⟩]
@[simp] def ratlinelaw12_in_r3 : List VOp :=
  [⟨(some 12), none, .mov (.tmp 0)⟩,
   ⟨(some 13), none, .mov (.tmp 5)⟩,
   ⟨(some 14), none, .ia 1 (.tmp 12) (.tmp 13)⟩,
   ⟨(some 15), none, .ld (.tmp 14) none⟩,
   ⟨(some 16), none, .mov (.tmp 1)⟩,
   ⟨(some 17), none, .bin .eql (.tmp 15) (.tmp 16)⟩]
@[simp] def ratlinelaw12_in_r4 : List VOp :=
  [⟨(some 4), none, .mov (.const (.bool true))⟩]
@[simp] def ratlinelaw12_in_r5 : List VOp :=
  [⟨(some 10), none, .mov (.tmp 5)⟩,
   ⟨(some 11), none, .bin .add (.tmp 10) (.const (.int .i64 1))⟩,
   ⟨(some 5), none, .mov (.tmp 11)⟩]
def ratlinelaw12_in_l6 : VCode :=
  (.seq (.seq (.reg ratlinelaw12_in_r2) (.cond (.tmp 9) .skip (.exit 0))) (.seq (.block 1 (.seq (.reg ratlinelaw12_in_r3) (.cond (.tmp 17) (.seq (.reg ratlinelaw12_in_r4) .ret) .skip))) (.reg ratlinelaw12_in_r5)))
@[simp] def ratlinelaw12_in_r7 : List VOp :=
  [⟨(some 4), none, .mov (.const (.bool false))⟩]
def ratlinelaw12_in : VCode := (.seq (.reg ratlinelaw12_in_r0) (.seq (.seq (.reg ratlinelaw12_in_r1) (.block 0 (.loop ratlinelaw12_in_l6))) (.seq (.reg ratlinelaw12_in_r7) .ret)))
theorem ratlinelaw12_in_is : fnV prog n_ratlinelaw12_in = some (18, ratlinelaw12_in, [.tmp 4]) := by kernel_rfl

/- slices_Clone_int_int -/
@[simp] def slices_Clone_int_int_r0 : List VOp :=
  [⟨(some 2), none, .nils 1⟩]
@[simp] def slices_Clone_int_int_r1 : List VOp :=
  [⟨(some 3), none, .mov (.tmp 0)⟩,
   ⟨(some 4), none, .snil false (.tmp 3)⟩]
@[simp] def slices_Clone_int_int_r2 : List VOp :=
  [⟨(some 2), none, .nils 1⟩]
@[simp] def slices_Clone_int_int_r3 : List VOp :=
  [⟨(some 5), none, .lit 1 0 []⟩,
   ⟨(some 6), none, .mov (.tmp 0)⟩,
   ⟨(some 7), none, .app 1 8 (.tmp 5) (.tmp 6)⟩,
   ⟨(some 2), none, .mov (.tmp 7)⟩]
def slices_Clone_int_int : VCode := (.seq (.reg slices_Clone_int_int_r0) (.seq (.seq (.reg slices_Clone_int_int_r1) (.cond (.tmp 4) (.seq (.reg slices_Clone_int_int_r2) .ret) .skip)) (.seq (.reg slices_Clone_int_int_r3) .ret)))
theorem slices_Clone_int_int_is : fnV prog n_slices_Clone_int_int = some (8, slices_Clone_int_int, [.tmp 2]) := by kernel_rfl

/- slices_BinarySearch_int_int -/
@[simp] def slices_BinarySearch_int_int_r0 : List VOp :=
  [⟨(some 4), none, .mov (.const (.int .i64 0))⟩,
   ⟨(some 5), none, .mov (.const (.bool false))⟩]
@[simp] def slices_BinarySearch_int_int_r1 : List VOp :=
  [⟨(some 10), none, .mov (.tmp 0)⟩,
   ⟨(some 11), none, .len (.tmp 10)⟩,
   ⟨(some 6), none, .mov (.tmp 11)⟩]
@[simp] def slices_BinarySearch_int_int_r2 : List VOp :=
  [⟨(some 12), none, .mov (.tmp 6)⟩,
   ⟨(some 7), none, .mov (.const (.int .i64 0))⟩,
   ⟨(some 8), none, .mov (.tmp 12)⟩]
@[simp] def slices_BinarySearch_int_int_r3 : List VOp :=
  [⟨(some 13), none, .mov (.tmp 7)⟩,
   ⟨(some 14), none, .mov (.tmp 8)⟩,
   ⟨(some 15), none, .bin .lss (.tmp 13) (.tmp 14)⟩]
@[simp] def slices_BinarySearch_int_int_r4 : List VOp :=
  [⟨(some 16), none, .mov (.tmp 7)⟩,
   ⟨(some 17), none, .mov (.tmp 8)⟩,
   ⟨(some 18), none, .bin .add (.tmp 16) (.tmp 17)⟩,
   ⟨(some 19), none, .cvt .u64 (.tmp 18)⟩,
   ⟨(some 20), none, .bin .shr (.tmp 19) (.const (.int .u64 1))⟩,
   ⟨(some 21), none, .cvt .i64 (.tmp 20)⟩,
   ⟨(some 9), none, .mov (.tmp 21)⟩]
@[simp] def slices_BinarySearch_int_int_r5 : List VOp :=
  [⟨(some 22), none, .mov (.tmp 0)⟩,
   ⟨(some 23), none, .mov (.tmp 9)⟩,
   ⟨(some 24), none, .ia 1 (.tmp 22) (.tmp 23)⟩,
   ⟨(some 25), none, .ld (.tmp 24) none⟩,
   ⟨(some 26), none, .mov (.tmp 1)⟩,
   ⟨(some 27), none, .call n_cmp_Less_int [(.tmp 25), (.tmp 26)]⟩]
@[simp] def slices_BinarySearch_int_int_r6 : List VOp :=
  [⟨(some 28), none, .mov (.tmp 9)⟩,
   ⟨(some 29), none, .bin .add (.tmp 28) (.const (.int .i64 1))⟩,
   ⟨(some 7), none, .mov (.tmp 29)⟩]
@[simp] def slices_BinarySearch_int_int_r7 : List VOp :=
  [⟨(some 30), none, .mov (.tmp 9)⟩,
   ⟨(some 8), none, .mov (.tmp 30)⟩]
def slices_BinarySearch_int_int_l8 : VCode :=
  (.seq (.seq (.reg slices_BinarySearch_int_int_r3) (.cond (.tmp 15) .skip (.exit 0))) (.block 1 (.seq (.reg slices_BinarySearch_int_int_r4) (.seq (.reg slices_BinarySearch_int_int_r5) (.cond (.tmp 27) (.reg slices_BinarySearch_int_int_r6) (.reg slices_BinarySearch_int_int_r7))))))
@[simp] def slices_BinarySearch_int_int_r9 : List VOp :=
  [⟨(some 31), none, .mov (.tmp 7)⟩,
   ⟨(some 32), none, .mov (.tmp 7)⟩,
   ⟨(some 33), none, .mov (.tmp 6)⟩,
   ⟨(some 34), none, .bin .lss (.tmp 32) (.tmp 33)⟩,
   ⟨(some 35), none, .mov (.tmp 34)⟩,
   ⟨(some 36), (some (35, true)), .mov (.tmp 0)⟩,
   ⟨(some 37), (some (35, true)), .mov (.tmp 7)⟩,
   ⟨(some 38), (some (35, true)), .ia 1 (.tmp 36) (.tmp 37)⟩,
   ⟨(some 39), (some (35, true)), .ld (.tmp 38) none⟩,
   ⟨(some 40), (some (35, true)), .mov (.tmp 1)⟩,
   ⟨(some 41), (some (35, true)), .bin .eql (.tmp 39) (.tmp 40)⟩,
   ⟨(some 42), (some (35, true)), .mov (.tmp 41)⟩,
   ⟨(some 43), (some (42, false)), .mov (.tmp 0)⟩,
   ⟨(some 44), (some (42, false)), .mov (.tmp 7)⟩,
   ⟨(some 45), (some (42, false)), .ia 1 (.tmp 43) (.tmp 44)⟩,
   ⟨(some 46), (some (42, false)), .ld (.tmp 45) none⟩,
   ⟨(some 47), (some (42, false)), .call n_slices_isNaN_int [(.tmp 46)]⟩,
   ⟨(some 48), (some (42, false)), .mov (.tmp 47)⟩,
   ⟨(some 49), (some (48, true)), .mov (.tmp 1)⟩,
   ⟨(some 50), (some (48, true)), .call n_slices_isNaN_int [(.tmp 49)]⟩,
   ⟨(some 51), (some (42, false)), .pick (.tmp 48) (.tmp 50) (.const (.bool false))⟩,
   ⟨(some 52), (some (35, true)), .pick (.tmp 42) (.const (.bool true)) (.tmp 51)⟩,
   ⟨(some 53), none, .pick (.tmp 35) (.tmp 52) (.const (.bool false))⟩,
   ⟨(some 4), none, .mov (.tmp 31)⟩,
   ⟨(some 5), none, .mov (.tmp 53)⟩]
def slices_BinarySearch_int_int : VCode := (.seq (.reg slices_BinarySearch_int_int_r0) (.seq (.reg slices_BinarySearch_int_int_r1) (.seq (.reg slices_BinarySearch_int_int_r2) (.seq (.block 0 (.loop slices_BinarySearch_int_int_l8)) (.seq (.reg slices_BinarySearch_int_int_r9) .ret)))))
theorem slices_BinarySearch_int_int_is : fnV prog n_slices_BinarySearch_int_int = some (54, slices_BinarySearch_int_int, [.tmp 4, .tmp 5]) := by kernel_rfl

/- slices_Reverse_int_int -/
@[simp] def slices_Reverse_int_int_r0 : List VOp :=
  [⟨(some 4), none, .mov (.tmp 0)⟩,
   ⟨(some 5), none, .len (.tmp 4)⟩,
   ⟨(some 6), none, .bin .sub (.tmp 5) (.const (.int .i64 1))⟩,
   ⟨(some 2), none, .mov (.const (.int .i64 0))⟩,
   ⟨(some 3), none, .mov (.tmp 6)⟩]
@[simp] def slices_Reverse_int_int_r1 : List VOp :=
  [⟨(some 7), none, .mov (.tmp 2)⟩,
   ⟨(some 8), none, .mov (.tmp 3)⟩,
   ⟨(some 9), none, .bin .lss (.tmp 7) (.tmp 8)⟩]
@[simp] def slices_Reverse_int_int_t2 : VT :=
  .op ⟨(some 14), none, .mov (.tmp 0)⟩ <|
  .op ⟨(some 15), none, .mov (.tmp 2)⟩ <|
  .op ⟨(some 16), none, .mov (.tmp 0)⟩ <|
  .op ⟨(some 17), none, .mov (.tmp 3)⟩ <|
  .op ⟨(some 18), none, .mov (.tmp 0)⟩ <|
  .op ⟨(some 19), none, .mov (.tmp 3)⟩ <|
  .op ⟨(some 20), none, .ia 1 (.tmp 18) (.tmp 19)⟩ <|
  .op ⟨(some 21), none, .ld (.tmp 20) none⟩ <|
  .op ⟨(some 22), none, .mov (.tmp 0)⟩ <|
  .op ⟨(some 23), none, .mov (.tmp 2)⟩ <|
  .op ⟨(some 24), none, .ia 1 (.tmp 22) (.tmp 23)⟩ <|
  .op ⟨(some 25), none, .ld (.tmp 24) none⟩ <|
  .op ⟨(some 26), none, .ia 1 (.tmp 14) (.tmp 15)⟩ <|
  .op ⟨none, none, .st (.tmp 26) (.tmp 21) 1⟩ <|
  .op ⟨(some 27), none, .ia 1 (.tmp 16) (.tmp 17)⟩ <|
  .op ⟨none, none, .st (.tmp 27) (.tmp 25) 1⟩ <|
  .done
@[simp] def slices_Reverse_int_int_r3 : List VOp :=
  [⟨(some 10), none, .mov (.tmp 2)⟩,
   ⟨(some 11), none, .bin .add (.tmp 10) (.const (.int .i64 1))⟩,
   ⟨(some 12), none, .mov (.tmp 3)⟩,
   ⟨(some 13), none, .bin .sub (.tmp 12) (.const (.int .i64 1))⟩,
   ⟨(some 2), none, .mov (.tmp 11)⟩,
   ⟨(some 3), none, .mov (.tmp 13)⟩]
def slices_Reverse_int_int_l4 : VCode :=
  (.seq (.seq (.reg slices_Reverse_int_int_r1) (.cond (.tmp 9) .skip (.exit 0))) (.seq (.block 1 (.any slices_Reverse_int_int_t2)) (.reg slices_Reverse_int_int_r3)))
def slices_Reverse_int_int : VCode := (.seq (.reg slices_Reverse_int_int_r0) (.block 0 (.loop slices_Reverse_int_int_l4)))
theorem slices_Reverse_int_int_is : fnV prog n_slices_Reverse_int_int = some (28, slices_Reverse_int_int, []) := by kernel_rfl

/- ratlineref12_way -/
@[simp] def ratlineref12_way_r0 : List VOp :=
  [⟨(some 6), none, .nils 1⟩]
@[simp] def ratlineref12_way_r1 : List VOp :=
  [⟨(some 11), none, .mov (.tmp 1)⟩,
   ⟨(some 12), none, .mov (.tmp 1)⟩,
   ⟨(some 13), none, .len (.tmp 12)⟩,
   ⟨(some 14), none, .bin .sub (.tmp 13) (.const (.int .i64 1))⟩,
   ⟨(some 15), none, .ia 1 (.tmp 11) (.tmp 14)⟩,
   ⟨(some 16), none, .ld (.tmp 15) none⟩,
   ⟨(some 7), none, .mov (.tmp 16)⟩]
@[simp] def ratlineref12_way_r2 : List VOp :=
  [⟨(some 17), none, .mov (.tmp 2)⟩,
   ⟨(some 18), none, .bin .eql (.tmp 17) (.const (.int .i64 0))⟩]
@[simp] def ratlineref12_way_t3 : VT :=
  .op ⟨(some 19), none, .mov (.tmp 0)⟩ <|
  .op ⟨(some 20), none, .mov (.tmp 7)⟩ <|
  .op ⟨(some 21), none, .ia 1 (.tmp 19) (.tmp 20)⟩ <|
  .op ⟨(some 22), none, .ld (.tmp 21) none⟩ <|
  .op ⟨(some 23), none, .mov (.tmp 1)⟩ <|
  .op ⟨(some 24), none, .ia 1 (.tmp 23) (.const (.int .i64 0))⟩ <|
  .op ⟨(some 25), none, .ld (.tmp 24) none⟩ <|
  .op ⟨(some 26), none, .call n_ratlineref12_in [(.tmp 22), (.tmp 25)]⟩ <|
  .done
@[simp] def ratlineref12_way_r4 : List VOp :=
  [⟨(some 27), none, .mov (.tmp 1)⟩,
   ⟨(some 6), none, .mov (.tmp 27)⟩]
@[simp] def ratlineref12_way_r5 : List VOp :=
  [⟨(some 6), none, .nils 1⟩]
@[simp] def ratlineref12_way_r6 : List VOp :=
  [⟨(some 8), none, .mov (.const (.int .i64 0))⟩]
@[simp] def ratlineref12_way_r7 : List VOp :=
  [⟨(some 28), none, .mov (.tmp 8)⟩,
   ⟨(some 29), none, .mov (.tmp 0)⟩,
   ⟨(some 30), none, .len (.tmp 29)⟩,
   ⟨(some 31), none, .bin .lss (.tmp 28) (.tmp 30)⟩]
@[simp] def ratlineref12_way_r8 : List VOp :=
  [⟨(some 34), none, .mov (.tmp 1)⟩,
   ⟨(some 35), none, .mov (.tmp 8)⟩,
   ⟨(some 36), none, .call n_ratlineref12_in [(.tmp 34), (.tmp 35)]⟩,
   ⟨(some 37), none, .mov (.tmp 36)⟩,
   ⟨(some 38), (some (37, false)), .mov (.tmp 0)⟩,
   ⟨(some 39), (some (37, false)), .mov (.tmp 7)⟩,
   ⟨(some 40), (some (37, false)), .ia 1 (.tmp 38) (.tmp 39)⟩,
   ⟨(some 41), (some (37, false)), .ld (.tmp 40) none⟩,
   ⟨(some 42), (some (37, false)), .mov (.tmp 8)⟩,
   ⟨(some 43), (some (37, false)), .call n_ratlineref12_in [(.tmp 41), (.tmp 42)]⟩,
   ⟨(some 44), (some (37, false)), .un .not (.tmp 43)⟩,
   ⟨(some 45), none, .pick (.tmp 37) (.const (.bool true)) (.tmp 44)⟩]
@[simp] def ratlineref12_way_r9 : List VOp :=
  [⟨(some 9), none, .nils 1⟩]
@[simp] def ratlineref12_way_r10 : List VOp :=
  [⟨(some 46), none, .mov (.tmp 9)⟩,
   ⟨(some 47), none, .mov (.tmp 1)⟩,
   ⟨(some 48), none, .app 1 8 (.tmp 46) (.tmp 47)⟩,
   ⟨(some 9), none, .mov (.tmp 48)⟩]
@[simp] def ratlineref12_way_r11 : List VOp :=
  [⟨(some 49), none, .mov (.tmp 9)⟩,
   ⟨(some 50), none, .mov (.tmp 8)⟩,
   ⟨(some 51), none, .lit 1 1 [(0, (.tmp 50))]⟩,
   ⟨(some 52), none, .app 1 8 (.tmp 49) (.tmp 51)⟩,
   ⟨(some 9), none, .mov (.tmp 52)⟩]
@[simp] def ratlineref12_way_r12 : List VOp :=
  [⟨(some 53), none, .mov (.tmp 0)⟩,
   ⟨(some 54), none, .mov (.tmp 9)⟩,
   ⟨(some 55), none, .mov (.tmp 2)⟩,
   ⟨(some 56), none, .bin .sub (.tmp 55) (.const (.int .i64 1))⟩,
   ⟨(some 57), none, .call n_ratlineref12_way [(.tmp 53), (.tmp 54), (.tmp 56)]⟩,
   ⟨(some 10), none, .mov (.tmp 57)⟩]
@[simp] def ratlineref12_way_r13 : List VOp :=
  [⟨(some 58), none, .mov (.tmp 10)⟩,
   ⟨(some 59), none, .len (.tmp 58)⟩,
   ⟨(some 60), none, .bin .gtr (.tmp 59) (.const (.int .i64 0))⟩]
@[simp] def ratlineref12_way_r14 : List VOp :=
  [⟨(some 61), none, .mov (.tmp 10)⟩,
   ⟨(some 6), none, .mov (.tmp 61)⟩]
@[simp] def ratlineref12_way_r15 : List VOp :=
  [⟨(some 32), none, .mov (.tmp 8)⟩,
   ⟨(some 33), none, .bin .add (.tmp 32) (.const (.int .i64 1))⟩,
   ⟨(some 8), none, .mov (.tmp 33)⟩]
def ratlineref12_way_l16 : VCode :=
  (.seq (.seq (.reg ratlineref12_way_r7) (.cond (.tmp 31) .skip (.exit 0))) (.seq (.block 1 (.seq (.seq (.reg ratlineref12_way_r8) (.cond (.tmp 45) (.exit 1) .skip)) (.seq (.reg ratlineref12_way_r9) (.seq (.reg ratlineref12_way_r10) (.seq (.reg ratlineref12_way_r11) (.seq (.reg ratlineref12_way_r12) (.seq (.reg ratlineref12_way_r13) (.cond (.tmp 60) (.seq (.reg ratlineref12_way_r14) .ret) .skip)))))))) (.reg ratlineref12_way_r15)))
@[simp] def ratlineref12_way_r17 : List VOp :=
  [⟨(some 6), none, .nils 1⟩]
def ratlineref12_way : VCode := (.seq (.reg ratlineref12_way_r0) (.seq (.reg ratlineref12_way_r1) (.seq (.seq (.reg ratlineref12_way_r2) (.cond (.tmp 18) (.seq (.seq (.any ratlineref12_way_t3) (.cond (.tmp 26) (.seq (.reg ratlineref12_way_r4) .ret) .skip)) (.seq (.reg ratlineref12_way_r5) .ret)) .skip)) (.seq (.seq (.reg ratlineref12_way_r6) (.block 0 (.loop ratlineref12_way_l16))) (.seq (.reg ratlineref12_way_r17) .ret)))))
theorem ratlineref12_way_is : fnV prog n_ratlineref12_way = some (62, ratlineref12_way, [.tmp 6]) := by kernel_rfl

/- ratlineref12_in -/
@[simp] def ratlineref12_in_r0 : List VOp :=
  [⟨(some 4), none, .mov (.const (.bool false))⟩]
@[simp] def ratlineref12_in_r1 : List VOp :=
  [⟨(some 5), none, .mov (.const (.int .i64 0))⟩]
@[simp] def ratlineref12_in_r2 : List VOp :=
  [⟨(some 6), none, .mov (.tmp 5)⟩,
   ⟨(some 7), none, .mov (.tmp 0)⟩,
   ⟨(some 8), none, .len (.tmp 7)⟩,
   ⟨(some 9), none, .bin .lss (.tmp 6) (.tmp 8)⟩]
@[simp] def ratlineref12_in_r3 : List VOp :=
  [⟨(some 12), none, .mov (.tmp 0)⟩,
   ⟨(some 13), none, .mov (.tmp 5)⟩,
   ⟨(some 14), none, .ia 1 (.tmp 12) (.tmp 13)⟩,
   ⟨(some 15), none, .ld (.tmp 14) none⟩,
   ⟨(some 16), none, .mov (.tmp 1)⟩,
   ⟨(some 17), none, .bin .eql (.tmp 15) (.tmp 16)⟩]
@[simp] def ratlineref12_in_r4 : List VOp :=
  [⟨(some 4), none, .mov (.const (.bool true))⟩]
@[simp] def ratlineref12_in_r5 : List VOp :=
  [⟨(some 10), none, .mov (.tmp 5)⟩,
   ⟨(some 11), none, .bin .add (.tmp 10) (.const (.int .i64 1))⟩,
   ⟨(some 5), none, .mov (.tmp 11)⟩]
def ratlineref12_in_l6 : VCode :=
  (.seq (.seq (.reg ratlineref12_in_r2) (.cond (.tmp 9) .skip (.exit 0))) (.seq (.block 1 (.seq (.reg ratlineref12_in_r3) (.cond (.tmp 17) (.seq (.reg ratlineref12_in_r4) .ret) .skip))) (.reg ratlineref12_in_r5)))
@[simp] def ratlineref12_in_r7 : List VOp :=
  [⟨(some 4), none, .mov (.const (.bool false))⟩]
def ratlineref12_in : VCode := (.seq (.reg ratlineref12_in_r0) (.seq (.seq (.reg ratlineref12_in_r1) (.block 0 (.loop ratlineref12_in_l6))) (.seq (.reg ratlineref12_in_r7) .ret)))
theorem ratlineref12_in_is : fnV prog n_ratlineref12_in = some (18, ratlineref12_in, [.tmp 4]) := by kernel_rfl

/- waits_Victim_1 -/
@[simp] def waits_Victim_1_r0 : List VOp :=
  [⟨(some 5), none, .mov (.const (.bool false))⟩]
@[simp] def waits_Victim_1_t1 : VT :=
  .op ⟨(some 6), none, .ld (.tmp 2) none⟩ <|
  .op ⟨(some 7), none, .mov (.tmp 0)⟩ <|
  .op ⟨(some 8), none, .ia 1 (.tmp 6) (.tmp 7)⟩ <|
  .op ⟨(some 9), none, .ld (.tmp 8) none⟩ <|
  .op ⟨(some 10), none, .ld (.tmp 2) none⟩ <|
  .op ⟨(some 11), none, .mov (.tmp 1)⟩ <|
  .op ⟨(some 12), none, .ia 1 (.tmp 10) (.tmp 11)⟩ <|
  .op ⟨(some 13), none, .ld (.tmp 12) none⟩ <|
  .op ⟨(some 14), none, .bin .gtr (.tmp 9) (.tmp 13)⟩ <|
  .op ⟨(some 15), none, .mov (.tmp 14)⟩ <|
  .op ⟨(some 16), (some (15, false)), .ld (.tmp 2) none⟩ <|
  .op ⟨(some 17), (some (15, false)), .mov (.tmp 0)⟩ <|
  .op ⟨(some 18), (some (15, false)), .ia 1 (.tmp 16) (.tmp 17)⟩ <|
  .op ⟨(some 19), (some (15, false)), .ld (.tmp 18) none⟩ <|
  .op ⟨(some 20), (some (15, false)), .ld (.tmp 2) none⟩ <|
  .op ⟨(some 21), (some (15, false)), .mov (.tmp 1)⟩ <|
  .op ⟨(some 22), (some (15, false)), .ia 1 (.tmp 20) (.tmp 21)⟩ <|
  .op ⟨(some 23), (some (15, false)), .ld (.tmp 22) none⟩ <|
  .op ⟨(some 24), (some (15, false)), .bin .eql (.tmp 19) (.tmp 23)⟩ <|
  .op ⟨(some 25), (some (15, false)), .mov (.tmp 24)⟩ <|
  .op ⟨(some 26), (some (25, true)), .mov (.tmp 0)⟩ <|
  .op ⟨(some 27), (some (25, true)), .mov (.tmp 1)⟩ <|
  .op ⟨(some 28), (some (25, true)), .bin .gtr (.tmp 26) (.tmp 27)⟩ <|
  .op ⟨(some 29), (some (15, false)), .pick (.tmp 25) (.tmp 28) (.const (.bool false))⟩ <|
  .op ⟨(some 30), none, .pick (.tmp 15) (.const (.bool true)) (.tmp 29)⟩ <|
  .op ⟨(some 5), none, .mov (.tmp 30)⟩ <|
  .done
def waits_Victim_1 : VCode := (.seq (.reg waits_Victim_1_r0) (.seq (.any waits_Victim_1_t1) .ret))
theorem waits_Victim_1_is : fnV prog n_waits_Victim_1 = some (31, waits_Victim_1, [.tmp 5]) := by kernel_rfl

/- cmp_Less_int -/
@[simp] def cmp_Less_int_r0 : List VOp :=
  [⟨(some 4), none, .mov (.const (.bool false))⟩]
@[simp] def cmp_Less_int_r1 : List VOp :=
  [⟨(some 5), none, .mov (.tmp 0)⟩,
   ⟨(some 6), none, .call n_cmp_isNaN_int [(.tmp 5)]⟩,
   ⟨(some 7), none, .mov (.tmp 6)⟩,
   ⟨(some 8), (some (7, true)), .mov (.tmp 1)⟩,
   ⟨(some 9), (some (7, true)), .call n_cmp_isNaN_int [(.tmp 8)]⟩,
   ⟨(some 10), (some (7, true)), .un .not (.tmp 9)⟩,
   ⟨(some 11), none, .pick (.tmp 7) (.tmp 10) (.const (.bool false))⟩,
   ⟨(some 12), none, .mov (.tmp 11)⟩,
   ⟨(some 13), (some (12, false)), .mov (.tmp 0)⟩,
   ⟨(some 14), (some (12, false)), .mov (.tmp 1)⟩,
   ⟨(some 15), (some (12, false)), .bin .lss (.tmp 13) (.tmp 14)⟩,
   ⟨(some 16), none, .pick (.tmp 12) (.const (.bool true)) (.tmp 15)⟩,
   ⟨(some 4), none, .mov (.tmp 16)⟩]
def cmp_Less_int : VCode := (.seq (.reg cmp_Less_int_r0) (.seq (.reg cmp_Less_int_r1) .ret))
theorem cmp_Less_int_is : fnV prog n_cmp_Less_int = some (17, cmp_Less_int, [.tmp 4]) := by kernel_rfl

/- slices_isNaN_int -/
@[simp] def slices_isNaN_int_r0 : List VOp :=
  [⟨(some 2), none, .mov (.const (.bool false))⟩]
@[simp] def slices_isNaN_int_r1 : List VOp :=
  [⟨(some 3), none, .mov (.tmp 0)⟩,
   ⟨(some 4), none, .mov (.tmp 0)⟩,
   ⟨(some 5), none, .bin .neq (.tmp 3) (.tmp 4)⟩,
   ⟨(some 2), none, .mov (.tmp 5)⟩]
def slices_isNaN_int : VCode := (.seq (.reg slices_isNaN_int_r0) (.seq (.reg slices_isNaN_int_r1) .ret))
theorem slices_isNaN_int_is : fnV prog n_slices_isNaN_int = some (6, slices_isNaN_int, [.tmp 2]) := by kernel_rfl

/- cmp_isNaN_int -/
@[simp] def cmp_isNaN_int_r0 : List VOp :=
  [⟨(some 2), none, .mov (.const (.bool false))⟩]
@[simp] def cmp_isNaN_int_r1 : List VOp :=
  [⟨(some 3), none, .mov (.tmp 0)⟩,
   ⟨(some 4), none, .mov (.tmp 0)⟩,
   ⟨(some 5), none, .bin .neq (.tmp 3) (.tmp 4)⟩,
   ⟨(some 2), none, .mov (.tmp 5)⟩]
def cmp_isNaN_int : VCode := (.seq (.reg cmp_isNaN_int_r0) (.seq (.reg cmp_isNaN_int_r1) .ret))
theorem cmp_isNaN_int_is : fnV prog n_cmp_isNaN_int = some (6, cmp_isNaN_int, [.tmp 2]) := by kernel_rfl

end Go.Rt
end
