/- Contracts of functions of the program, and what they lean on. Conditions: those of each theorem. -/
import Derived.Test.YtiabgaimhgifeaaPA

set_option linter.unusedVariables false
set_option linter.unusedSimpArgs false

/- Functions as the abstract machine has them (printed by GenV.lean). -/
section
namespace Go.Rt
open Go.Vm
/- ratlinelaw18_HistCompletes -/
@[simp] def ratlinelaw18_HistCompletes_r0 : List VOp :=
  [⟨(some 2), none, .box (.tmp 0)⟩,
   ⟨(some 4), none, .mov (.const (.bool false))⟩]
@[simp] def ratlinelaw18_HistCompletes_r1 : List VOp :=
  [⟨(some 7), none, .call n_ratlinelaw18_awake []⟩,
   ⟨(some 5), none, .mov (.tmp 7)⟩]
@[simp] def ratlinelaw18_HistCompletes_r2 : List VOp :=
  [⟨(some 8), none, .mov (.tmp 5)⟩,
   ⟨(some 9), none, .un .not (.tmp 8)⟩]
@[simp] def ratlinelaw18_HistCompletes_r3 : List VOp :=
  [⟨(some 4), none, .mov (.const (.bool false))⟩]
@[simp] def ratlinelaw18_HistCompletes_r4 : List VOp :=
  [⟨(some 10), none, .ld (.tmp 2) (some 3)⟩,
   ⟨(some 11), none, .call n_ratlineref18_Small [(.tmp 10)]⟩,
   ⟨(some 6), none, .mov (.tmp 11)⟩]
@[simp] def ratlinelaw18_HistCompletes_r5 : List VOp :=
  [⟨(some 12), none, .mov (.tmp 6)⟩,
   ⟨(some 13), none, .un .not (.tmp 12)⟩]
@[simp] def ratlinelaw18_HistCompletes_r6 : List VOp :=
  [⟨(some 4), none, .mov (.const (.bool true))⟩]
@[simp] def ratlinelaw18_HistCompletes_t7 : VT :=
  .op ⟨(some 14), none, .ld (.tmp 2) (some 3)⟩ <|
  .alt (
   .op ⟨(some 15), none, .call n_hist_Complete [(.tmp 14)]⟩ <|
   .op ⟨(some 16), none, .ld (.tmp 2) (some 3)⟩ <|
   .op ⟨(some 17), none, .call n_ratlineref18_Complete [(.tmp 16)]⟩ <|
   .op ⟨(some 18), none, .call n_ratlineref18_Same [(.tmp 15), (.tmp 17)]⟩ <|
   .op ⟨(some 19), none, .mov (.tmp 18)⟩ <|
   .op ⟨(some 20), (some (19, true)), .ld (.tmp 2) (some 3)⟩ <|
   .op ⟨(some 21), (some (19, true)), .mov (.tmp 1)⟩ <|
   .op ⟨(some 24), (some (19, true)), .mov (.tmp 1)⟩ <|
   .alt (
    .op ⟨(some 22), (some (19, true)), .call n_hist_Ended [(.tmp 20), (.tmp 21)]⟩ <|
    .op ⟨(some 23), (some (19, true)), .ld (.tmp 2) (some 3)⟩ <|
    .op ⟨(some 25), (some (19, true)), .call n_ratlineref18_Ended [(.tmp 23), (.tmp 24)]⟩ <|
    .op ⟨(some 26), (some (19, true)), .bin .eql (.tmp 22) (.tmp 25)⟩ <|
    .op ⟨(some 27), none, .pick (.tmp 19) (.tmp 26) (.const (.bool false))⟩ <|
    .op ⟨(some 4), none, .mov (.tmp 27)⟩ <|
    .done) (
    .op ⟨(some 23), (some (19, true)), .ld (.tmp 2) (some 3)⟩ <|
    .op ⟨(some 22), (some (19, true)), .call n_hist_Ended [(.tmp 20), (.tmp 21)]⟩ <|
    .op ⟨(some 25), (some (19, true)), .call n_ratlineref18_Ended [(.tmp 23), (.tmp 24)]⟩ <|
    .op ⟨(some 26), (some (19, true)), .bin .eql (.tmp 22) (.tmp 25)⟩ <|
    .op ⟨(some 27), none, .pick (.tmp 19) (.tmp 26) (.const (.bool false))⟩ <|
    .op ⟨(some 4), none, .mov (.tmp 27)⟩ <|
    .done)) (
   .op ⟨(some 16), none, .ld (.tmp 2) (some 3)⟩ <|
   .op ⟨(some 15), none, .call n_hist_Complete [(.tmp 14)]⟩ <|
   .op ⟨(some 17), none, .call n_ratlineref18_Complete [(.tmp 16)]⟩ <|
   .op ⟨(some 18), none, .call n_ratlineref18_Same [(.tmp 15), (.tmp 17)]⟩ <|
   .op ⟨(some 19), none, .mov (.tmp 18)⟩ <|
   .op ⟨(some 20), (some (19, true)), .ld (.tmp 2) (some 3)⟩ <|
   .op ⟨(some 21), (some (19, true)), .mov (.tmp 1)⟩ <|
   .op ⟨(some 24), (some (19, true)), .mov (.tmp 1)⟩ <|
   .alt (
    .op ⟨(some 22), (some (19, true)), .call n_hist_Ended [(.tmp 20), (.tmp 21)]⟩ <|
    .op ⟨(some 23), (some (19, true)), .ld (.tmp 2) (some 3)⟩ <|
    .op ⟨(some 25), (some (19, true)), .call n_ratlineref18_Ended [(.tmp 23), (.tmp 24)]⟩ <|
    .op ⟨(some 26), (some (19, true)), .bin .eql (.tmp 22) (.tmp 25)⟩ <|
    .op ⟨(some 27), none, .pick (.tmp 19) (.tmp 26) (.const (.bool false))⟩ <|
    .op ⟨(some 4), none, .mov (.tmp 27)⟩ <|
    .done) (
    .op ⟨(some 23), (some (19, true)), .ld (.tmp 2) (some 3)⟩ <|
    .op ⟨(some 22), (some (19, true)), .call n_hist_Ended [(.tmp 20), (.tmp 21)]⟩ <|
    .op ⟨(some 25), (some (19, true)), .call n_ratlineref18_Ended [(.tmp 23), (.tmp 24)]⟩ <|
    .op ⟨(some 26), (some (19, true)), .bin .eql (.tmp 22) (.tmp 25)⟩ <|
    .op ⟨(some 27), none, .pick (.tmp 19) (.tmp 26) (.const (.bool false))⟩ <|
    .op ⟨(some 4), none, .mov (.tmp 27)⟩ <|
    .done))
def ratlinelaw18_HistCompletes : VCode := (.seq (.reg ratlinelaw18_HistCompletes_r0) (.seq (.reg ratlinelaw18_HistCompletes_r1) (.seq (.seq (.reg ratlinelaw18_HistCompletes_r2) (.cond (.tmp 9) (.seq (.reg ratlinelaw18_HistCompletes_r3) .ret) .skip)) (.seq (.reg ratlinelaw18_HistCompletes_r4) (.seq (.seq (.reg ratlinelaw18_HistCompletes_r5) (.cond (.tmp 13) (.seq (.reg ratlinelaw18_HistCompletes_r6) .ret) .skip)) (.seq (.any ratlinelaw18_HistCompletes_t7) .ret))))))
theorem ratlinelaw18_HistCompletes_is : fnV prog n_ratlinelaw18_HistCompletes = some (28, ratlinelaw18_HistCompletes, [.tmp 4]) := by kernel_rfl

/- ratlineref18_Same -/
@[simp] def ratlineref18_Same_r0 : List VOp :=
  [⟨(some 2), none, .box (.tmp 0)⟩,
   ⟨(some 3), none, .box (.tmp 1)⟩,
   ⟨(some 4), none, .mov (.const (.bool false))⟩]
@[simp] def ratlineref18_Same_r1 : List VOp :=
  [⟨(some 15), none, .fa 0 (.tmp 2)⟩,
   ⟨(some 16), none, .ld (.tmp 15) none⟩,
   ⟨(some 17), none, .len (.tmp 16)⟩,
   ⟨(some 18), none, .fa 0 (.tmp 3)⟩,
   ⟨(some 19), none, .ld (.tmp 18) none⟩,
   ⟨(some 20), none, .len (.tmp 19)⟩,
   ⟨(some 21), none, .bin .neq (.tmp 17) (.tmp 20)⟩,
   ⟨(some 22), none, .mov (.tmp 21)⟩,
   ⟨(some 23), (some (22, false)), .fa 1 (.tmp 2)⟩,
   ⟨(some 24), (some (22, false)), .ld (.tmp 23) none⟩,
   ⟨(some 25), (some (22, false)), .len (.tmp 24)⟩,
   ⟨(some 26), (some (22, false)), .fa 1 (.tmp 3)⟩,
   ⟨(some 27), (some (22, false)), .ld (.tmp 26) none⟩,
   ⟨(some 28), (some (22, false)), .len (.tmp 27)⟩,
   ⟨(some 29), (some (22, false)), .bin .neq (.tmp 25) (.tmp 28)⟩,
   ⟨(some 30), none, .pick (.tmp 22) (.const (.bool true)) (.tmp 29)⟩,
   ⟨(some 31), none, .mov (.tmp 30)⟩,
   ⟨(some 32), (some (31, false)), .fa 2 (.tmp 2)⟩,
   ⟨(some 33), (some (31, false)), .ld (.tmp 32) none⟩,
   ⟨(some 34), (some (31, false)), .len (.tmp 33)⟩,
   ⟨(some 35), (some (31, false)), .fa 2 (.tmp 3)⟩,
   ⟨(some 36), (some (31, false)), .ld (.tmp 35) none⟩,
   ⟨(some 37), (some (31, false)), .len (.tmp 36)⟩,
   ⟨(some 38), (some (31, false)), .bin .neq (.tmp 34) (.tmp 37)⟩,
   ⟨(some 39), none, .pick (.tmp 31) (.const (.bool true)) (.tmp 38)⟩]
@[simp] def ratlineref18_Same_r2 : List VOp :=
  [⟨(some 4), none, .mov (.const (.bool false))⟩]
@[simp] def ratlineref18_Same_r3 : List VOp :=
  [⟨(some 5), none, .mov (.const (.int .i64 0))⟩]
@[simp] def ratlineref18_Same_r4 : List VOp :=
  [⟨(some 40), none, .mov (.tmp 5)⟩,
   ⟨(some 41), none, .fa 0 (.tmp 2)⟩,
   ⟨(some 42), none, .ld (.tmp 41) none⟩,
   ⟨(some 43), none, .len (.tmp 42)⟩,
   ⟨(some 44), none, .bin .lss (.tmp 40) (.tmp 43)⟩]
@[simp] def ratlineref18_Same_r5 : List VOp :=
  [⟨(some 47), none, .fa 0 (.tmp 2)⟩,
   ⟨(some 48), none, .ld (.tmp 47) none⟩,
   ⟨(some 49), none, .mov (.tmp 5)⟩,
   ⟨(some 50), none, .ia 1 (.tmp 48) (.tmp 49)⟩,
   ⟨(some 51), none, .fa 0 (.tmp 50)⟩,
   ⟨(some 52), none, .ld (.tmp 51) none⟩,
   ⟨(some 6), none, .mov (.tmp 52)⟩]
@[simp] def ratlineref18_Same_r6 : List VOp :=
  [⟨(some 53), none, .fa 0 (.tmp 3)⟩,
   ⟨(some 54), none, .ld (.tmp 53) none⟩,
   ⟨(some 55), none, .mov (.tmp 5)⟩,
   ⟨(some 56), none, .ia 1 (.tmp 54) (.tmp 55)⟩,
   ⟨(some 57), none, .fa 0 (.tmp 56)⟩,
   ⟨(some 58), none, .ld (.tmp 57) none⟩,
   ⟨(some 7), none, .mov (.tmp 58)⟩]
@[simp] def ratlineref18_Same_r7 : List VOp :=
  [⟨(some 59), none, .mov (.tmp 6)⟩,
   ⟨(some 60), none, .len (.tmp 59)⟩,
   ⟨(some 61), none, .mov (.tmp 7)⟩,
   ⟨(some 62), none, .len (.tmp 61)⟩,
   ⟨(some 63), none, .bin .neq (.tmp 60) (.tmp 62)⟩]
@[simp] def ratlineref18_Same_r8 : List VOp :=
  [⟨(some 4), none, .mov (.const (.bool false))⟩]
@[simp] def ratlineref18_Same_r9 : List VOp :=
  [⟨(some 8), none, .mov (.const (.int .i64 0))⟩]
@[simp] def ratlineref18_Same_r10 : List VOp :=
  [⟨(some 64), none, .mov (.tmp 8)⟩,
   ⟨(some 65), none, .mov (.tmp 6)⟩,
   ⟨(some 66), none, .len (.tmp 65)⟩,
   ⟨(some 67), none, .bin .lss (.tmp 64) (.tmp 66)⟩]
@[simp] def ratlineref18_Same_t11 : VT :=
  .op ⟨(some 70), none, .mov (.tmp 6)⟩ <|
  .op ⟨(some 71), none, .mov (.tmp 8)⟩ <|
  .op ⟨(some 72), none, .ia 1 (.tmp 70) (.tmp 71)⟩ <|
  .op ⟨(some 73), none, .ld (.tmp 72) none⟩ <|
  .op ⟨(some 74), none, .mov (.tmp 7)⟩ <|
  .op ⟨(some 75), none, .mov (.tmp 8)⟩ <|
  .op ⟨(some 76), none, .ia 1 (.tmp 74) (.tmp 75)⟩ <|
  .op ⟨(some 77), none, .ld (.tmp 76) none⟩ <|
  .op ⟨(some 78), none, .beq true (.tmp 73) (.tmp 77)⟩ <|
  .done
@[simp] def ratlineref18_Same_r12 : List VOp :=
  [⟨(some 4), none, .mov (.const (.bool false))⟩]
@[simp] def ratlineref18_Same_r13 : List VOp :=
  [⟨(some 68), none, .mov (.tmp 8)⟩,
   ⟨(some 69), none, .bin .add (.tmp 68) (.const (.int .i64 1))⟩,
   ⟨(some 8), none, .mov (.tmp 69)⟩]
def ratlineref18_Same_l14 : VCode :=
  (.seq (.seq (.reg ratlineref18_Same_r10) (.cond (.tmp 67) .skip (.exit 2))) (.seq (.block 3 (.seq (.any ratlineref18_Same_t11) (.cond (.tmp 78) (.seq (.reg ratlineref18_Same_r12) .ret) .skip))) (.reg ratlineref18_Same_r13)))
@[simp] def ratlineref18_Same_r15 : List VOp :=
  [⟨(some 45), none, .mov (.tmp 5)⟩,
   ⟨(some 46), none, .bin .add (.tmp 45) (.const (.int .i64 1))⟩,
   ⟨(some 5), none, .mov (.tmp 46)⟩]
def ratlineref18_Same_l16 : VCode :=
  (.seq (.seq (.reg ratlineref18_Same_r4) (.cond (.tmp 44) .skip (.exit 0))) (.seq (.block 1 (.seq (.reg ratlineref18_Same_r5) (.seq (.reg ratlineref18_Same_r6) (.seq (.seq (.reg ratlineref18_Same_r7) (.cond (.tmp 63) (.seq (.reg ratlineref18_Same_r8) .ret) .skip)) (.seq (.reg ratlineref18_Same_r9) (.block 2 (.loop ratlineref18_Same_l14))))))) (.reg ratlineref18_Same_r15)))
@[simp] def ratlineref18_Same_r17 : List VOp :=
  [⟨(some 9), none, .mov (.const (.int .i64 0))⟩]
@[simp] def ratlineref18_Same_r18 : List VOp :=
  [⟨(some 79), none, .mov (.tmp 9)⟩,
   ⟨(some 80), none, .fa 1 (.tmp 2)⟩,
   ⟨(some 81), none, .ld (.tmp 80) none⟩,
   ⟨(some 82), none, .len (.tmp 81)⟩,
   ⟨(some 83), none, .bin .lss (.tmp 79) (.tmp 82)⟩]
@[simp] def ratlineref18_Same_t19 : VT :=
  .op ⟨(some 86), none, .fa 1 (.tmp 2)⟩ <|
  .op ⟨(some 87), none, .ld (.tmp 86) none⟩ <|
  .op ⟨(some 88), none, .mov (.tmp 9)⟩ <|
  .op ⟨(some 89), none, .ia 22 (.tmp 87) (.tmp 88)⟩ <|
  .op ⟨(some 90), none, .ld (.tmp 89) (some 22)⟩ <|
  .op ⟨(some 91), none, .fa 1 (.tmp 3)⟩ <|
  .op ⟨(some 92), none, .ld (.tmp 91) none⟩ <|
  .op ⟨(some 93), none, .mov (.tmp 9)⟩ <|
  .op ⟨(some 94), none, .ia 22 (.tmp 92) (.tmp 93)⟩ <|
  .op ⟨(some 95), none, .ld (.tmp 94) (some 22)⟩ <|
  .op ⟨(some 96), none, .call n_ratlineref18_Event [(.tmp 90), (.tmp 95)]⟩ <|
  .op ⟨(some 10), none, .mov (.tmp 96)⟩ <|
  .done
@[simp] def ratlineref18_Same_r20 : List VOp :=
  [⟨(some 97), none, .mov (.tmp 10)⟩,
   ⟨(some 98), none, .un .not (.tmp 97)⟩]
@[simp] def ratlineref18_Same_r21 : List VOp :=
  [⟨(some 4), none, .mov (.const (.bool false))⟩]
@[simp] def ratlineref18_Same_r22 : List VOp :=
  [⟨(some 84), none, .mov (.tmp 9)⟩,
   ⟨(some 85), none, .bin .add (.tmp 84) (.const (.int .i64 1))⟩,
   ⟨(some 9), none, .mov (.tmp 85)⟩]
def ratlineref18_Same_l23 : VCode :=
  (.seq (.seq (.reg ratlineref18_Same_r18) (.cond (.tmp 83) .skip (.exit 4))) (.seq (.block 5 (.seq (.any ratlineref18_Same_t19) (.seq (.reg ratlineref18_Same_r20) (.cond (.tmp 98) (.seq (.reg ratlineref18_Same_r21) .ret) .skip)))) (.reg ratlineref18_Same_r22)))
@[simp] def ratlineref18_Same_r24 : List VOp :=
  [⟨(some 11), none, .mov (.const (.int .i64 0))⟩]
@[simp] def ratlineref18_Same_r25 : List VOp :=
  [⟨(some 99), none, .mov (.tmp 11)⟩,
   ⟨(some 100), none, .fa 2 (.tmp 2)⟩,
   ⟨(some 101), none, .ld (.tmp 100) none⟩,
   ⟨(some 102), none, .len (.tmp 101)⟩,
   ⟨(some 103), none, .bin .lss (.tmp 99) (.tmp 102)⟩]
@[simp] def ratlineref18_Same_r26 : List VOp :=
  [⟨(some 106), none, .fa 2 (.tmp 2)⟩,
   ⟨(some 107), none, .ld (.tmp 106) none⟩,
   ⟨(some 108), none, .mov (.tmp 11)⟩,
   ⟨(some 109), none, .ia 5 (.tmp 107) (.tmp 108)⟩,
   ⟨(some 110), none, .ld (.tmp 109) (some 5)⟩,
   ⟨(some 12), none, .alloc [.iv (.v (.int .i64 0)), .iv (.v (.bool false)), .iv (.v (.int .i64 0)), .iv (.v (.string ⟨#[]⟩)), .nil 1]⟩,
   ⟨none, none, .st (.tmp 12) (.tmp 110) 5⟩]
@[simp] def ratlineref18_Same_r27 : List VOp :=
  [⟨(some 111), none, .fa 2 (.tmp 3)⟩,
   ⟨(some 112), none, .ld (.tmp 111) none⟩,
   ⟨(some 113), none, .mov (.tmp 11)⟩,
   ⟨(some 114), none, .ia 5 (.tmp 112) (.tmp 113)⟩,
   ⟨(some 115), none, .ld (.tmp 114) (some 5)⟩,
   ⟨(some 13), none, .alloc [.iv (.v (.int .i64 0)), .iv (.v (.bool false)), .iv (.v (.int .i64 0)), .iv (.v (.string ⟨#[]⟩)), .nil 1]⟩,
   ⟨none, none, .st (.tmp 13) (.tmp 115) 5⟩]
@[simp] def ratlineref18_Same_r28 : List VOp :=
  [⟨(some 116), none, .fa 0 (.tmp 12)⟩,
   ⟨(some 117), none, .ld (.tmp 116) none⟩,
   ⟨(some 118), none, .fa 0 (.tmp 13)⟩,
   ⟨(some 119), none, .ld (.tmp 118) none⟩,
   ⟨(some 120), none, .bin .neq (.tmp 117) (.tmp 119)⟩,
   ⟨(some 121), none, .mov (.tmp 120)⟩,
   ⟨(some 122), (some (121, false)), .fa 1 (.tmp 12)⟩,
   ⟨(some 123), (some (121, false)), .ld (.tmp 122) (some 3)⟩,
   ⟨(some 124), (some (121, false)), .fa 1 (.tmp 13)⟩,
   ⟨(some 125), (some (121, false)), .ld (.tmp 124) (some 3)⟩,
   ⟨(some 126), (some (121, false)), .eqs true [.b, .i .i64, .s] (.tmp 123) (.tmp 125)⟩,
   ⟨(some 127), none, .pick (.tmp 121) (.const (.bool true)) (.tmp 126)⟩,
   ⟨(some 128), none, .mov (.tmp 127)⟩,
   ⟨(some 129), (some (128, false)), .fa 4 (.tmp 12)⟩,
   ⟨(some 130), (some (128, false)), .ld (.tmp 129) none⟩,
   ⟨(some 131), (some (128, false)), .len (.tmp 130)⟩,
   ⟨(some 132), (some (128, false)), .fa 4 (.tmp 13)⟩,
   ⟨(some 133), (some (128, false)), .ld (.tmp 132) none⟩,
   ⟨(some 134), (some (128, false)), .len (.tmp 133)⟩,
   ⟨(some 135), (some (128, false)), .bin .neq (.tmp 131) (.tmp 134)⟩,
   ⟨(some 136), none, .pick (.tmp 128) (.const (.bool true)) (.tmp 135)⟩]
@[simp] def ratlineref18_Same_r29 : List VOp :=
  [⟨(some 4), none, .mov (.const (.bool false))⟩]
@[simp] def ratlineref18_Same_r30 : List VOp :=
  [⟨(some 14), none, .mov (.const (.int .i64 0))⟩]
@[simp] def ratlineref18_Same_r31 : List VOp :=
  [⟨(some 137), none, .mov (.tmp 14)⟩,
   ⟨(some 138), none, .fa 4 (.tmp 12)⟩,
   ⟨(some 139), none, .ld (.tmp 138) none⟩,
   ⟨(some 140), none, .len (.tmp 139)⟩,
   ⟨(some 141), none, .bin .lss (.tmp 137) (.tmp 140)⟩]
@[simp] def ratlineref18_Same_t32 : VT :=
  .op ⟨(some 144), none, .fa 4 (.tmp 12)⟩ <|
  .op ⟨(some 145), none, .ld (.tmp 144) none⟩ <|
  .op ⟨(some 146), none, .mov (.tmp 14)⟩ <|
  .op ⟨(some 147), none, .ia 1 (.tmp 145) (.tmp 146)⟩ <|
  .op ⟨(some 148), none, .ld (.tmp 147) none⟩ <|
  .op ⟨(some 149), none, .fa 4 (.tmp 13)⟩ <|
  .op ⟨(some 150), none, .ld (.tmp 149) none⟩ <|
  .op ⟨(some 151), none, .mov (.tmp 14)⟩ <|
  .op ⟨(some 152), none, .ia 1 (.tmp 150) (.tmp 151)⟩ <|
  .op ⟨(some 153), none, .ld (.tmp 152) none⟩ <|
  .op ⟨(some 154), none, .bin .neq (.tmp 148) (.tmp 153)⟩ <|
  .done
@[simp] def ratlineref18_Same_r33 : List VOp :=
  [⟨(some 4), none, .mov (.const (.bool false))⟩]
@[simp] def ratlineref18_Same_r34 : List VOp :=
  [⟨(some 142), none, .mov (.tmp 14)⟩,
   ⟨(some 143), none, .bin .add (.tmp 142) (.const (.int .i64 1))⟩,
   ⟨(some 14), none, .mov (.tmp 143)⟩]
def ratlineref18_Same_l35 : VCode :=
  (.seq (.seq (.reg ratlineref18_Same_r31) (.cond (.tmp 141) .skip (.exit 8))) (.seq (.block 9 (.seq (.any ratlineref18_Same_t32) (.cond (.tmp 154) (.seq (.reg ratlineref18_Same_r33) .ret) .skip))) (.reg ratlineref18_Same_r34)))
@[simp] def ratlineref18_Same_r36 : List VOp :=
  [⟨(some 104), none, .mov (.tmp 11)⟩,
   ⟨(some 105), none, .bin .add (.tmp 104) (.const (.int .i64 1))⟩,
   ⟨(some 11), none, .mov (.tmp 105)⟩]
def ratlineref18_Same_l37 : VCode :=
  (.seq (.seq (.reg ratlineref18_Same_r25) (.cond (.tmp 103) .skip (.exit 6))) (.seq (.block 7 (.seq (.reg ratlineref18_Same_r26) (.seq (.reg ratlineref18_Same_r27) (.seq (.seq (.reg ratlineref18_Same_r28) (.cond (.tmp 136) (.seq (.reg ratlineref18_Same_r29) .ret) .skip)) (.seq (.reg ratlineref18_Same_r30) (.block 8 (.loop ratlineref18_Same_l35))))))) (.reg ratlineref18_Same_r36)))
@[simp] def ratlineref18_Same_r38 : List VOp :=
  [⟨(some 4), none, .mov (.const (.bool true))⟩]
def ratlineref18_Same : VCode := (.seq (.reg ratlineref18_Same_r0) (.seq (.seq (.reg ratlineref18_Same_r1) (.cond (.tmp 39) (.seq (.reg ratlineref18_Same_r2) .ret) .skip)) (.seq (.seq (.reg ratlineref18_Same_r3) (.block 0 (.loop ratlineref18_Same_l16))) (.seq (.seq (.reg ratlineref18_Same_r17) (.block 4 (.loop ratlineref18_Same_l23))) (.seq (.seq (.reg ratlineref18_Same_r24) (.block 6 (.loop ratlineref18_Same_l37))) (.seq (.reg ratlineref18_Same_r38) .ret))))))
theorem ratlineref18_Same_is : fnV prog n_ratlineref18_Same = some (155, ratlineref18_Same, [.tmp 4]) := by kernel_rfl

/- hist_Complete -/
@[simp] def hist_Complete_r0 : List VOp :=
  [⟨(some 1), none, .box (.tmp 0)⟩,
   ⟨(some 2), none, .alloc [.nil 1, .nil 22, .nil 5]⟩]
@[simp] def hist_Complete_r1 : List VOp :=
  [⟨(some 3), none, .alloc [.nil 1, .nil 22, .nil 5]⟩]
@[simp] def hist_Complete_r2 : List VOp :=
  [⟨(some 13), none, .fa 0 (.tmp 1)⟩,
   ⟨(some 14), none, .ld (.tmp 13) none⟩,
   ⟨(some 15), none, .len (.tmp 14)⟩,
   ⟨(some 16), none, .mov (.const (.int .i64 0))⟩]
@[simp] def hist_Complete_r3 : List VOp :=
  [⟨(some 17), none, .bin .lss (.tmp 16) (.tmp 15)⟩]
@[simp] def hist_Complete_r4 : List VOp :=
  [⟨(some 18), none, .ia 1 (.tmp 14) (.tmp 16)⟩,
   ⟨(some 19), none, .ld (.tmp 18) (some 1)⟩,
   ⟨(some 5), none, .alloc [.nil 1]⟩,
   ⟨none, none, .st (.tmp 5) (.tmp 19) 1⟩]
@[simp] def hist_Complete_t5 : VT :=
  .op ⟨(some 20), none, .fa 0 (.tmp 3)⟩ <|
  .op ⟨(some 22), none, .fa 0 (.tmp 5)⟩ <|
  .op ⟨(some 23), none, .ld (.tmp 22) none⟩ <|
  .alt (
   .op ⟨(some 21), none, .ld (.tmp 20) none⟩ <|
   .op ⟨(some 24), none, .call n_slices_Clone_bool_bool [(.tmp 23)]⟩ <|
   .op ⟨(some 25), none, .build [.nil 1] [(0, 1, (.tmp 24))]⟩ <|
   .op ⟨(some 26), none, .lit 1 1 [(0, (.tmp 25))]⟩ <|
   .op ⟨(some 27), none, .app 1 24 (.tmp 21) (.tmp 26)⟩ <|
   .op ⟨(some 28), none, .fa 0 (.tmp 3)⟩ <|
   .op ⟨none, none, .st (.tmp 28) (.tmp 27) 1⟩ <|
   .done) (
   .op ⟨(some 24), none, .call n_slices_Clone_bool_bool [(.tmp 23)]⟩ <|
   .op ⟨(some 21), none, .ld (.tmp 20) none⟩ <|
   .op ⟨(some 25), none, .build [.nil 1] [(0, 1, (.tmp 24))]⟩ <|
   .op ⟨(some 26), none, .lit 1 1 [(0, (.tmp 25))]⟩ <|
   .op ⟨(some 27), none, .app 1 24 (.tmp 21) (.tmp 26)⟩ <|
   .op ⟨(some 28), none, .fa 0 (.tmp 3)⟩ <|
   .op ⟨none, none, .st (.tmp 28) (.tmp 27) 1⟩ <|
   .done)
@[simp] def hist_Complete_r6 : List VOp :=
  [⟨(some 29), none, .bin .add (.tmp 16) (.const (.int .i64 1))⟩,
   ⟨(some 16), none, .mov (.tmp 29)⟩]
def hist_Complete_l7 : VCode :=
  (.seq (.reg hist_Complete_r3) (.seq (.cond (.tmp 17) .skip (.exit 0)) (.seq (.block 1 (.seq (.reg hist_Complete_r4) (.any hist_Complete_t5))) (.reg hist_Complete_r6))))
@[simp] def hist_Complete_r8 : List VOp :=
  [⟨(some 30), none, .fa 2 (.tmp 1)⟩,
   ⟨(some 31), none, .ld (.tmp 30) none⟩,
   ⟨(some 32), none, .len (.tmp 31)⟩,
   ⟨(some 33), none, .mov (.const (.int .i64 0))⟩]
@[simp] def hist_Complete_r9 : List VOp :=
  [⟨(some 34), none, .bin .lss (.tmp 33) (.tmp 32)⟩]
@[simp] def hist_Complete_r10 : List VOp :=
  [⟨(some 35), none, .ia 5 (.tmp 31) (.tmp 33)⟩,
   ⟨(some 36), none, .ld (.tmp 35) (some 5)⟩,
   ⟨(some 7), none, .alloc [.iv (.v (.int .i64 0)), .iv (.v (.bool false)), .iv (.v (.int .i64 0)), .iv (.v (.string ⟨#[]⟩)), .nil 1]⟩,
   ⟨none, none, .st (.tmp 7) (.tmp 36) 5⟩]
@[simp] def hist_Complete_r11 : List VOp :=
  [⟨(some 37), none, .fa 4 (.tmp 7)⟩,
   ⟨(some 38), none, .ld (.tmp 37) none⟩,
   ⟨(some 39), none, .call n_slices_Clone_int_int [(.tmp 38)]⟩,
   ⟨(some 40), none, .fa 4 (.tmp 7)⟩,
   ⟨none, none, .st (.tmp 40) (.tmp 39) 1⟩]
@[simp] def hist_Complete_r12 : List VOp :=
  [⟨(some 41), none, .fa 2 (.tmp 3)⟩,
   ⟨(some 42), none, .ld (.tmp 41) none⟩,
   ⟨(some 43), none, .ld (.tmp 7) (some 5)⟩,
   ⟨(some 44), none, .lit 5 1 [(0, (.tmp 43))]⟩,
   ⟨(some 45), none, .app 5 64 (.tmp 42) (.tmp 44)⟩,
   ⟨(some 46), none, .fa 2 (.tmp 3)⟩,
   ⟨none, none, .st (.tmp 46) (.tmp 45) 1⟩]
@[simp] def hist_Complete_r13 : List VOp :=
  [⟨(some 47), none, .bin .add (.tmp 33) (.const (.int .i64 1))⟩,
   ⟨(some 33), none, .mov (.tmp 47)⟩]
def hist_Complete_l14 : VCode :=
  (.seq (.reg hist_Complete_r9) (.seq (.cond (.tmp 34) .skip (.exit 2)) (.seq (.block 3 (.seq (.reg hist_Complete_r10) (.seq (.reg hist_Complete_r11) (.reg hist_Complete_r12)))) (.reg hist_Complete_r13))))
@[simp] def hist_Complete_r15 : List VOp :=
  [⟨(some 48), none, .mkmap (false, [.i .i64], false)⟩,
   ⟨(some 8), none, .mov (.tmp 48)⟩]
@[simp] def hist_Complete_r16 : List VOp :=
  [⟨(some 49), none, .fa 1 (.tmp 1)⟩,
   ⟨(some 50), none, .ld (.tmp 49) none⟩,
   ⟨(some 51), none, .len (.tmp 50)⟩,
   ⟨(some 52), none, .mov (.const (.int .i64 0))⟩]
@[simp] def hist_Complete_r17 : List VOp :=
  [⟨(some 53), none, .bin .lss (.tmp 52) (.tmp 51)⟩]
@[simp] def hist_Complete_r18 : List VOp :=
  [⟨(some 54), none, .ia 22 (.tmp 50) (.tmp 52)⟩,
   ⟨(some 55), none, .ld (.tmp 54) (some 22)⟩,
   ⟨(some 10), none, .alloc [.iv (.v (.int .i64 0)), .iv (.v (.int .i64 0)), .iv (.v (.int .i64 0)), .iv (.v (.int .i64 0)), .iv (.v (.bool false)), .iv (.v (.int .i64 0)), .iv (.v (.string ⟨#[]⟩)), .iv (.v (.int .i64 0)), .iv (.v (.int .i64 0)), .iv (.v (.int .i64 0)), .nil 3, .iv (.v (.int .i64 0)), .iv (.v (.int .i64 0)), .iv (.v (.bool false)), .iv (.v (.int .i64 0)), .iv (.v (.string ⟨#[]⟩)), .iv (.v (.bool false)), .iv (.v (.int .i64 0)), .iv (.v (.string ⟨#[]⟩)), .nil 9, .nil 5, .iv (.v (.bool false))]⟩,
   ⟨none, none, .st (.tmp 10) (.tmp 55) 22⟩]
@[simp] def hist_Complete_t19 : VT :=
  .op ⟨(some 56), none, .fa 10 (.tmp 10)⟩ <|
  .op ⟨(some 57), none, .ld (.tmp 56) none⟩ <|
  .op ⟨(some 59), none, .fa 20 (.tmp 10)⟩ <|
  .op ⟨(some 62), none, .fa 11 (.tmp 10)⟩ <|
  .alt (
   .op ⟨(some 58), none, .call n_row_Clone [(.tmp 57)]⟩ <|
   .op ⟨(some 60), none, .ld (.tmp 59) none⟩ <|
   .alt (
    .op ⟨(some 61), none, .call n_slices_Clone_api_Ref_api_Ref [(.tmp 60)]⟩ <|
    .op ⟨(some 63), none, .ld (.tmp 62) (some 9)⟩ <|
    .op ⟨(some 65), none, .fa 10 (.tmp 10)⟩ <|
    .op ⟨(some 64), none, .call n_pred_Clone [(.tmp 63)]⟩ <|
    .op ⟨none, none, .st (.tmp 65) (.tmp 58) 1⟩ <|
    .op ⟨(some 66), none, .fa 20 (.tmp 10)⟩ <|
    .op ⟨none, none, .st (.tmp 66) (.tmp 61) 1⟩ <|
    .op ⟨(some 67), none, .fa 11 (.tmp 10)⟩ <|
    .op ⟨none, none, .st (.tmp 67) (.tmp 64) 9⟩ <|
    .done) (
    .op ⟨(some 63), none, .ld (.tmp 62) (some 9)⟩ <|
    .op ⟨(some 65), none, .fa 10 (.tmp 10)⟩ <|
    .op ⟨(some 61), none, .call n_slices_Clone_api_Ref_api_Ref [(.tmp 60)]⟩ <|
    .op ⟨(some 64), none, .call n_pred_Clone [(.tmp 63)]⟩ <|
    .op ⟨none, none, .st (.tmp 65) (.tmp 58) 1⟩ <|
    .op ⟨(some 66), none, .fa 20 (.tmp 10)⟩ <|
    .op ⟨none, none, .st (.tmp 66) (.tmp 61) 1⟩ <|
    .op ⟨(some 67), none, .fa 11 (.tmp 10)⟩ <|
    .op ⟨none, none, .st (.tmp 67) (.tmp 64) 9⟩ <|
    .done)) (
   .alt (
    .op ⟨(some 60), none, .ld (.tmp 59) none⟩ <|
    .alt (
     .op ⟨(some 58), none, .call n_row_Clone [(.tmp 57)]⟩ <|
     .alt (
      .op ⟨(some 61), none, .call n_slices_Clone_api_Ref_api_Ref [(.tmp 60)]⟩ <|
      .op ⟨(some 63), none, .ld (.tmp 62) (some 9)⟩ <|
      .op ⟨(some 65), none, .fa 10 (.tmp 10)⟩ <|
      .op ⟨(some 64), none, .call n_pred_Clone [(.tmp 63)]⟩ <|
      .op ⟨none, none, .st (.tmp 65) (.tmp 58) 1⟩ <|
      .op ⟨(some 66), none, .fa 20 (.tmp 10)⟩ <|
      .op ⟨none, none, .st (.tmp 66) (.tmp 61) 1⟩ <|
      .op ⟨(some 67), none, .fa 11 (.tmp 10)⟩ <|
      .op ⟨none, none, .st (.tmp 67) (.tmp 64) 9⟩ <|
      .done) (
      .op ⟨(some 63), none, .ld (.tmp 62) (some 9)⟩ <|
      .op ⟨(some 65), none, .fa 10 (.tmp 10)⟩ <|
      .op ⟨(some 61), none, .call n_slices_Clone_api_Ref_api_Ref [(.tmp 60)]⟩ <|
      .op ⟨(some 64), none, .call n_pred_Clone [(.tmp 63)]⟩ <|
      .op ⟨none, none, .st (.tmp 65) (.tmp 58) 1⟩ <|
      .op ⟨(some 66), none, .fa 20 (.tmp 10)⟩ <|
      .op ⟨none, none, .st (.tmp 66) (.tmp 61) 1⟩ <|
      .op ⟨(some 67), none, .fa 11 (.tmp 10)⟩ <|
      .op ⟨none, none, .st (.tmp 67) (.tmp 64) 9⟩ <|
      .done)) (
     .op ⟨(some 63), none, .ld (.tmp 62) (some 9)⟩ <|
     .op ⟨(some 58), none, .call n_row_Clone [(.tmp 57)]⟩ <|
     .op ⟨(some 65), none, .fa 10 (.tmp 10)⟩ <|
     .op ⟨(some 61), none, .call n_slices_Clone_api_Ref_api_Ref [(.tmp 60)]⟩ <|
     .op ⟨(some 64), none, .call n_pred_Clone [(.tmp 63)]⟩ <|
     .op ⟨none, none, .st (.tmp 65) (.tmp 58) 1⟩ <|
     .op ⟨(some 66), none, .fa 20 (.tmp 10)⟩ <|
     .op ⟨none, none, .st (.tmp 66) (.tmp 61) 1⟩ <|
     .op ⟨(some 67), none, .fa 11 (.tmp 10)⟩ <|
     .op ⟨none, none, .st (.tmp 67) (.tmp 64) 9⟩ <|
     .done)) (
    .op ⟨(some 63), none, .ld (.tmp 62) (some 9)⟩ <|
    .alt (
     .op ⟨(some 58), none, .call n_row_Clone [(.tmp 57)]⟩ <|
     .op ⟨(some 60), none, .ld (.tmp 59) none⟩ <|
     .op ⟨(some 65), none, .fa 10 (.tmp 10)⟩ <|
     .op ⟨(some 61), none, .call n_slices_Clone_api_Ref_api_Ref [(.tmp 60)]⟩ <|
     .op ⟨(some 64), none, .call n_pred_Clone [(.tmp 63)]⟩ <|
     .op ⟨none, none, .st (.tmp 65) (.tmp 58) 1⟩ <|
     .op ⟨(some 66), none, .fa 20 (.tmp 10)⟩ <|
     .op ⟨none, none, .st (.tmp 66) (.tmp 61) 1⟩ <|
     .op ⟨(some 67), none, .fa 11 (.tmp 10)⟩ <|
     .op ⟨none, none, .st (.tmp 67) (.tmp 64) 9⟩ <|
     .done) (
     .op ⟨(some 60), none, .ld (.tmp 59) none⟩ <|
     .op ⟨(some 58), none, .call n_row_Clone [(.tmp 57)]⟩ <|
     .op ⟨(some 65), none, .fa 10 (.tmp 10)⟩ <|
     .op ⟨(some 61), none, .call n_slices_Clone_api_Ref_api_Ref [(.tmp 60)]⟩ <|
     .op ⟨(some 64), none, .call n_pred_Clone [(.tmp 63)]⟩ <|
     .op ⟨none, none, .st (.tmp 65) (.tmp 58) 1⟩ <|
     .op ⟨(some 66), none, .fa 20 (.tmp 10)⟩ <|
     .op ⟨none, none, .st (.tmp 66) (.tmp 61) 1⟩ <|
     .op ⟨(some 67), none, .fa 11 (.tmp 10)⟩ <|
     .op ⟨none, none, .st (.tmp 67) (.tmp 64) 9⟩ <|
     .done)))
@[simp] def hist_Complete_r20 : List VOp :=
  [⟨(some 68), none, .fa 1 (.tmp 3)⟩,
   ⟨(some 69), none, .ld (.tmp 68) none⟩,
   ⟨(some 70), none, .ld (.tmp 10) (some 22)⟩,
   ⟨(some 71), none, .lit 22 1 [(0, (.tmp 70))]⟩,
   ⟨(some 72), none, .app 22 248 (.tmp 69) (.tmp 71)⟩,
   ⟨(some 73), none, .fa 1 (.tmp 3)⟩,
   ⟨none, none, .st (.tmp 73) (.tmp 72) 1⟩]
@[simp] def hist_Complete_r21 : List VOp :=
  [⟨(some 74), none, .fa 1 (.tmp 10)⟩,
   ⟨(some 75), none, .ld (.tmp 74) none⟩,
   ⟨(some 76), none, .bin .eql (.tmp 75) (.const (.int .i64 1))⟩,
   ⟨(some 77), none, .mov (.tmp 76)⟩,
   ⟨(some 78), (some (77, true)), .ld (.tmp 1) (some 3)⟩,
   ⟨(some 79), (some (77, true)), .fa 0 (.tmp 10)⟩,
   ⟨(some 80), (some (77, true)), .ld (.tmp 79) none⟩,
   ⟨(some 81), (some (77, true)), .call n_hist_Ended [(.tmp 78), (.tmp 80)]⟩,
   ⟨(some 82), (some (77, true)), .bin .eql (.tmp 81) (.const (.int .i64 0))⟩,
   ⟨(some 83), none, .pick (.tmp 77) (.tmp 82) (.const (.bool false))⟩]
@[simp] def hist_Complete_r22 : List VOp :=
  [⟨(some 84), none, .mov (.tmp 8)⟩,
   ⟨(some 85), none, .fa 0 (.tmp 10)⟩,
   ⟨(some 86), none, .ld (.tmp 85) none⟩,
   ⟨none, none, .mset (false, [.i .i64], false) (.tmp 84) (.tmp 86) (.const (.int .i64 1))⟩]
@[simp] def hist_Complete_r23 : List VOp :=
  [⟨(some 87), none, .bin .add (.tmp 52) (.const (.int .i64 1))⟩,
   ⟨(some 52), none, .mov (.tmp 87)⟩]
def hist_Complete_l24 : VCode :=
  (.seq (.reg hist_Complete_r17) (.seq (.cond (.tmp 53) .skip (.exit 4)) (.seq (.block 5 (.seq (.reg hist_Complete_r18) (.seq (.any hist_Complete_t19) (.seq (.reg hist_Complete_r20) (.seq (.reg hist_Complete_r21) (.cond (.tmp 83) (.reg hist_Complete_r22) .skip)))))) (.reg hist_Complete_r23))))
@[simp] def hist_Complete_r25 : List VOp :=
  [⟨(some 88), none, .mov (.tmp 8)⟩,
   ⟨(some 89), none, .call n_maps_Keys_map_int_int_int_int [(.tmp 88)]⟩,
   ⟨(some 90), none, .call n_slices_Sorted_int [(.tmp 89)]⟩,
   ⟨(some 91), none, .len (.tmp 90)⟩,
   ⟨(some 92), none, .mov (.const (.int .i64 0))⟩]
@[simp] def hist_Complete_r26 : List VOp :=
  [⟨(some 93), none, .bin .lss (.tmp 92) (.tmp 91)⟩]
@[simp] def hist_Complete_r27 : List VOp :=
  [⟨(some 94), none, .ia 1 (.tmp 90) (.tmp 92)⟩,
   ⟨(some 95), none, .ld (.tmp 94) none⟩,
   ⟨(some 12), none, .mov (.tmp 95)⟩]
@[simp] def hist_Complete_r28 : List VOp :=
  [⟨(some 96), none, .fa 1 (.tmp 3)⟩,
   ⟨(some 97), none, .ld (.tmp 96) none⟩,
   ⟨(some 98), none, .mov (.tmp 12)⟩,
   ⟨(some 99), none, .build [.iv (.v (.int .i64 0)), .iv (.v (.int .i64 0)), .iv (.v (.int .i64 0)), .iv (.v (.int .i64 0)), .iv (.v (.bool false)), .iv (.v (.int .i64 0)), .iv (.v (.string ⟨#[]⟩)), .iv (.v (.int .i64 0)), .iv (.v (.int .i64 0)), .iv (.v (.int .i64 0)), .nil 3, .iv (.v (.int .i64 0)), .iv (.v (.int .i64 0)), .iv (.v (.bool false)), .iv (.v (.int .i64 0)), .iv (.v (.string ⟨#[]⟩)), .iv (.v (.bool false)), .iv (.v (.int .i64 0)), .iv (.v (.string ⟨#[]⟩)), .nil 9, .nil 5, .iv (.v (.bool false))] [(0, 1, (.tmp 98)), (1, 1, (.const (.int .i64 6)))]⟩,
   ⟨(some 100), none, .lit 22 1 [(0, (.tmp 99))]⟩,
   ⟨(some 101), none, .app 22 248 (.tmp 97) (.tmp 100)⟩,
   ⟨(some 102), none, .fa 1 (.tmp 3)⟩,
   ⟨none, none, .st (.tmp 102) (.tmp 101) 1⟩]
@[simp] def hist_Complete_r29 : List VOp :=
  [⟨(some 103), none, .bin .add (.tmp 92) (.const (.int .i64 1))⟩,
   ⟨(some 92), none, .mov (.tmp 103)⟩]
def hist_Complete_l30 : VCode :=
  (.seq (.reg hist_Complete_r26) (.seq (.cond (.tmp 93) .skip (.exit 6)) (.seq (.block 7 (.seq (.reg hist_Complete_r27) (.reg hist_Complete_r28))) (.reg hist_Complete_r29))))
@[simp] def hist_Complete_r31 : List VOp :=
  [⟨(some 104), none, .ld (.tmp 3) (some 3)⟩,
   ⟨none, none, .st (.tmp 2) (.tmp 104) 3⟩]
def hist_Complete : VCode := (.seq (.reg hist_Complete_r0) (.seq (.reg hist_Complete_r1) (.seq (.seq (.reg hist_Complete_r2) (.block 0 (.loop hist_Complete_l7))) (.seq (.seq (.reg hist_Complete_r8) (.block 2 (.loop hist_Complete_l14))) (.seq (.reg hist_Complete_r15) (.seq (.seq (.reg hist_Complete_r16) (.block 4 (.loop hist_Complete_l24))) (.seq (.seq (.reg hist_Complete_r25) (.block 6 (.loop hist_Complete_l30))) (.seq (.reg hist_Complete_r31) .ret))))))))
theorem hist_Complete_is : fnV prog n_hist_Complete = some (105, hist_Complete, [.cell 2 (some 3)]) := by kernel_rfl

/- ratlineref18_Complete -/
@[simp] def ratlineref18_Complete_r0 : List VOp :=
  [⟨(some 1), none, .box (.tmp 0)⟩,
   ⟨(some 2), none, .alloc [.nil 1, .nil 22, .nil 5]⟩]
@[simp] def ratlineref18_Complete_r1 : List VOp :=
  [⟨(some 3), none, .nils 22⟩]
@[simp] def ratlineref18_Complete_r2 : List VOp :=
  [⟨(some 6), none, .mov (.tmp 3)⟩,
   ⟨(some 7), none, .fa 1 (.tmp 1)⟩,
   ⟨(some 8), none, .ld (.tmp 7) none⟩,
   ⟨(some 9), none, .app 22 248 (.tmp 6) (.tmp 8)⟩,
   ⟨(some 3), none, .mov (.tmp 9)⟩]
@[simp] def ratlineref18_Complete_r3 : List VOp :=
  [⟨(some 10), none, .ld (.tmp 1) (some 3)⟩,
   ⟨(some 11), none, .call n_ratlineref18_Txns [(.tmp 10)]⟩,
   ⟨(some 4), none, .mov (.tmp 11)⟩]
@[simp] def ratlineref18_Complete_r4 : List VOp :=
  [⟨(some 5), none, .mov (.const (.int .i64 0))⟩]
@[simp] def ratlineref18_Complete_r5 : List VOp :=
  [⟨(some 12), none, .mov (.tmp 5)⟩,
   ⟨(some 13), none, .mov (.tmp 4)⟩,
   ⟨(some 14), none, .len (.tmp 13)⟩,
   ⟨(some 15), none, .bin .lss (.tmp 12) (.tmp 14)⟩]
@[simp] def ratlineref18_Complete_t6 : VT :=
  .op ⟨(some 18), none, .ld (.tmp 1) (some 3)⟩ <|
  .op ⟨(some 19), none, .mov (.tmp 4)⟩ <|
  .op ⟨(some 20), none, .mov (.tmp 5)⟩ <|
  .op ⟨(some 21), none, .ia 1 (.tmp 19) (.tmp 20)⟩ <|
  .op ⟨(some 22), none, .ld (.tmp 21) none⟩ <|
  .op ⟨(some 23), none, .call n_ratlineref18_Ended [(.tmp 18), (.tmp 22)]⟩ <|
  .op ⟨(some 24), none, .bin .eql (.tmp 23) (.const (.int .i64 0))⟩ <|
  .done
@[simp] def ratlineref18_Complete_r7 : List VOp :=
  [⟨(some 25), none, .mov (.tmp 3)⟩,
   ⟨(some 26), none, .mov (.tmp 4)⟩,
   ⟨(some 27), none, .mov (.tmp 5)⟩,
   ⟨(some 28), none, .ia 1 (.tmp 26) (.tmp 27)⟩,
   ⟨(some 29), none, .ld (.tmp 28) none⟩,
   ⟨(some 30), none, .build [.iv (.v (.int .i64 0)), .iv (.v (.int .i64 0)), .iv (.v (.int .i64 0)), .iv (.v (.int .i64 0)), .iv (.v (.bool false)), .iv (.v (.int .i64 0)), .iv (.v (.string ⟨#[]⟩)), .iv (.v (.int .i64 0)), .iv (.v (.int .i64 0)), .iv (.v (.int .i64 0)), .nil 3, .iv (.v (.int .i64 0)), .iv (.v (.int .i64 0)), .iv (.v (.bool false)), .iv (.v (.int .i64 0)), .iv (.v (.string ⟨#[]⟩)), .iv (.v (.bool false)), .iv (.v (.int .i64 0)), .iv (.v (.string ⟨#[]⟩)), .nil 9, .nil 5, .iv (.v (.bool false))] [(0, 1, (.tmp 29)), (1, 1, (.const (.int .i64 6)))]⟩,
   ⟨(some 31), none, .lit 22 1 [(0, (.tmp 30))]⟩,
   ⟨(some 32), none, .app 22 248 (.tmp 25) (.tmp 31)⟩,
   ⟨(some 3), none, .mov (.tmp 32)⟩]
@[simp] def ratlineref18_Complete_r8 : List VOp :=
  [⟨(some 16), none, .mov (.tmp 5)⟩,
   ⟨(some 17), none, .bin .add (.tmp 16) (.const (.int .i64 1))⟩,
   ⟨(some 5), none, .mov (.tmp 17)⟩]
def ratlineref18_Complete_l9 : VCode :=
  (.seq (.seq (.reg ratlineref18_Complete_r5) (.cond (.tmp 15) .skip (.exit 0))) (.seq (.block 1 (.seq (.any ratlineref18_Complete_t6) (.cond (.tmp 24) (.reg ratlineref18_Complete_r7) .skip))) (.reg ratlineref18_Complete_r8)))
@[simp] def ratlineref18_Complete_r10 : List VOp :=
  [⟨(some 33), none, .mov (.tmp 3)⟩,
   ⟨(some 34), none, .fa 1 (.tmp 1)⟩,
   ⟨none, none, .st (.tmp 34) (.tmp 33) 1⟩]
@[simp] def ratlineref18_Complete_r11 : List VOp :=
  [⟨(some 35), none, .ld (.tmp 1) (some 3)⟩,
   ⟨none, none, .st (.tmp 2) (.tmp 35) 3⟩]
def ratlineref18_Complete : VCode := (.seq (.reg ratlineref18_Complete_r0) (.seq (.reg ratlineref18_Complete_r1) (.seq (.reg ratlineref18_Complete_r2) (.seq (.reg ratlineref18_Complete_r3) (.seq (.seq (.reg ratlineref18_Complete_r4) (.block 0 (.loop ratlineref18_Complete_l9))) (.seq (.reg ratlineref18_Complete_r10) (.seq (.reg ratlineref18_Complete_r11) .ret)))))))
theorem ratlineref18_Complete_is : fnV prog n_ratlineref18_Complete = some (36, ratlineref18_Complete, [.cell 2 (some 3)]) := by kernel_rfl

/- ratlineref18_Event -/
@[simp] def ratlineref18_Event_r0 : List VOp :=
  [⟨(some 2), none, .box (.tmp 0)⟩,
   ⟨(some 3), none, .box (.tmp 1)⟩,
   ⟨(some 4), none, .mov (.const (.bool false))⟩]
@[simp] def ratlineref18_Event_r1 : List VOp :=
  [⟨(some 8), none, .fa 20 (.tmp 2)⟩,
   ⟨(some 9), none, .ld (.tmp 8) none⟩,
   ⟨(some 10), none, .len (.tmp 9)⟩,
   ⟨(some 11), none, .fa 20 (.tmp 3)⟩,
   ⟨(some 12), none, .ld (.tmp 11) none⟩,
   ⟨(some 13), none, .len (.tmp 12)⟩,
   ⟨(some 14), none, .bin .neq (.tmp 10) (.tmp 13)⟩]
@[simp] def ratlineref18_Event_r2 : List VOp :=
  [⟨(some 4), none, .mov (.const (.bool false))⟩]
@[simp] def ratlineref18_Event_r3 : List VOp :=
  [⟨(some 5), none, .mov (.const (.int .i64 0))⟩]
@[simp] def ratlineref18_Event_r4 : List VOp :=
  [⟨(some 15), none, .mov (.tmp 5)⟩,
   ⟨(some 16), none, .fa 20 (.tmp 2)⟩,
   ⟨(some 17), none, .ld (.tmp 16) none⟩,
   ⟨(some 18), none, .len (.tmp 17)⟩,
   ⟨(some 19), none, .bin .lss (.tmp 15) (.tmp 18)⟩]
@[simp] def ratlineref18_Event_t5 : VT :=
  .op ⟨(some 22), none, .fa 20 (.tmp 2)⟩ <|
  .op ⟨(some 23), none, .ld (.tmp 22) none⟩ <|
  .op ⟨(some 24), none, .mov (.tmp 5)⟩ <|
  .op ⟨(some 25), none, .ia 5 (.tmp 23) (.tmp 24)⟩ <|
  .op ⟨(some 26), none, .ld (.tmp 25) (some 5)⟩ <|
  .op ⟨(some 27), none, .fa 20 (.tmp 3)⟩ <|
  .op ⟨(some 28), none, .ld (.tmp 27) none⟩ <|
  .op ⟨(some 29), none, .mov (.tmp 5)⟩ <|
  .op ⟨(some 30), none, .ia 5 (.tmp 28) (.tmp 29)⟩ <|
  .op ⟨(some 31), none, .ld (.tmp 30) (some 5)⟩ <|
  .op ⟨(some 32), none, .eqs true [.b, .i .i64, .s, .i .i64, .i .i64] (.tmp 26) (.tmp 31)⟩ <|
  .done
@[simp] def ratlineref18_Event_r6 : List VOp :=
  [⟨(some 4), none, .mov (.const (.bool false))⟩]
@[simp] def ratlineref18_Event_r7 : List VOp :=
  [⟨(some 20), none, .mov (.tmp 5)⟩,
   ⟨(some 21), none, .bin .add (.tmp 20) (.const (.int .i64 1))⟩,
   ⟨(some 5), none, .mov (.tmp 21)⟩]
def ratlineref18_Event_l8 : VCode :=
  (.seq (.seq (.reg ratlineref18_Event_r4) (.cond (.tmp 19) .skip (.exit 0))) (.seq (.block 1 (.seq (.any ratlineref18_Event_t5) (.cond (.tmp 32) (.seq (.reg ratlineref18_Event_r6) .ret) .skip))) (.reg ratlineref18_Event_r7)))
@[simp] def ratlineref18_Event_r9 : List VOp :=
  [⟨(some 33), none, .fa 11 (.tmp 2)⟩,
   ⟨(some 34), none, .ld (.tmp 33) (some 9)⟩,
   ⟨(some 35), none, .fa 11 (.tmp 3)⟩,
   ⟨(some 36), none, .ld (.tmp 35) (some 9)⟩,
   ⟨(some 37), none, .call n_ratlineref03_Same [(.tmp 34), (.tmp 36)]⟩,
   ⟨(some 6), none, .mov (.tmp 37)⟩]
@[simp] def ratlineref18_Event_r10 : List VOp :=
  [⟨(some 38), none, .fa 10 (.tmp 2)⟩,
   ⟨(some 39), none, .ld (.tmp 38) none⟩,
   ⟨(some 40), none, .fa 10 (.tmp 3)⟩,
   ⟨(some 41), none, .ld (.tmp 40) none⟩,
   ⟨(some 42), none, .call n_ratlineref02_Same [(.tmp 39), (.tmp 41)]⟩,
   ⟨(some 7), none, .mov (.tmp 42)⟩]
@[simp] def ratlineref18_Event_r11 : List VOp :=
  [⟨(some 43), none, .mov (.tmp 6)⟩,
   ⟨(some 44), none, .mov (.tmp 43)⟩,
   ⟨(some 45), (some (44, true)), .mov (.tmp 7)⟩,
   ⟨(some 46), none, .pick (.tmp 44) (.tmp 45) (.const (.bool false))⟩,
   ⟨(some 47), none, .mov (.tmp 46)⟩,
   ⟨(some 48), (some (47, true)), .fa 0 (.tmp 2)⟩,
   ⟨(some 49), (some (47, true)), .ld (.tmp 48) none⟩,
   ⟨(some 50), (some (47, true)), .fa 0 (.tmp 3)⟩,
   ⟨(some 51), (some (47, true)), .ld (.tmp 50) none⟩,
   ⟨(some 52), (some (47, true)), .bin .eql (.tmp 49) (.tmp 51)⟩,
   ⟨(some 53), none, .pick (.tmp 47) (.tmp 52) (.const (.bool false))⟩,
   ⟨(some 54), none, .mov (.tmp 53)⟩,
   ⟨(some 55), (some (54, true)), .fa 1 (.tmp 2)⟩,
   ⟨(some 56), (some (54, true)), .ld (.tmp 55) none⟩,
   ⟨(some 57), (some (54, true)), .fa 1 (.tmp 3)⟩,
   ⟨(some 58), (some (54, true)), .ld (.tmp 57) none⟩,
   ⟨(some 59), (some (54, true)), .bin .eql (.tmp 56) (.tmp 58)⟩,
   ⟨(some 60), none, .pick (.tmp 54) (.tmp 59) (.const (.bool false))⟩,
   ⟨(some 61), none, .mov (.tmp 60)⟩,
   ⟨(some 62), (some (61, true)), .fa 2 (.tmp 2)⟩,
   ⟨(some 63), (some (61, true)), .ld (.tmp 62) none⟩,
   ⟨(some 64), (some (61, true)), .fa 2 (.tmp 3)⟩,
   ⟨(some 65), (some (61, true)), .ld (.tmp 64) none⟩,
   ⟨(some 66), (some (61, true)), .bin .eql (.tmp 63) (.tmp 65)⟩,
   ⟨(some 67), none, .pick (.tmp 61) (.tmp 66) (.const (.bool false))⟩,
   ⟨(some 68), none, .mov (.tmp 67)⟩,
   ⟨(some 69), (some (68, true)), .fa 3 (.tmp 2)⟩,
   ⟨(some 70), (some (68, true)), .ld (.tmp 69) none⟩,
   ⟨(some 71), (some (68, true)), .fa 3 (.tmp 3)⟩,
   ⟨(some 72), (some (68, true)), .ld (.tmp 71) none⟩,
   ⟨(some 73), (some (68, true)), .bin .eql (.tmp 70) (.tmp 72)⟩,
   ⟨(some 74), none, .pick (.tmp 68) (.tmp 73) (.const (.bool false))⟩,
   ⟨(some 75), none, .mov (.tmp 74)⟩,
   ⟨(some 76), (some (75, true)), .fa 4 (.tmp 2)⟩,
   ⟨(some 77), (some (75, true)), .ld (.tmp 76) (some 3)⟩,
   ⟨(some 78), (some (75, true)), .fa 4 (.tmp 3)⟩,
   ⟨(some 79), (some (75, true)), .ld (.tmp 78) (some 3)⟩,
   ⟨(some 80), (some (75, true)), .eqs false [.b, .i .i64, .s] (.tmp 77) (.tmp 79)⟩,
   ⟨(some 81), none, .pick (.tmp 75) (.tmp 80) (.const (.bool false))⟩,
   ⟨(some 82), none, .mov (.tmp 81)⟩,
   ⟨(some 83), (some (82, true)), .fa 7 (.tmp 2)⟩,
   ⟨(some 84), (some (82, true)), .ld (.tmp 83) (some 2)⟩,
   ⟨(some 85), (some (82, true)), .fa 7 (.tmp 3)⟩,
   ⟨(some 86), (some (82, true)), .ld (.tmp 85) (some 2)⟩,
   ⟨(some 87), (some (82, true)), .eqs false [.i .i64, .i .i64] (.tmp 84) (.tmp 86)⟩,
   ⟨(some 88), none, .pick (.tmp 82) (.tmp 87) (.const (.bool false))⟩,
   ⟨(some 89), none, .mov (.tmp 88)⟩,
   ⟨(some 90), (some (89, true)), .fa 9 (.tmp 2)⟩,
   ⟨(some 91), (some (89, true)), .ld (.tmp 90) none⟩,
   ⟨(some 92), (some (89, true)), .fa 9 (.tmp 3)⟩,
   ⟨(some 93), (some (89, true)), .ld (.tmp 92) none⟩,
   ⟨(some 94), (some (89, true)), .bin .eql (.tmp 91) (.tmp 93)⟩,
   ⟨(some 95), none, .pick (.tmp 89) (.tmp 94) (.const (.bool false))⟩,
   ⟨(some 96), none, .mov (.tmp 95)⟩,
   ⟨(some 97), (some (96, true)), .fa 21 (.tmp 2)⟩,
   ⟨(some 98), (some (96, true)), .ld (.tmp 97) none⟩,
   ⟨(some 99), (some (96, true)), .fa 21 (.tmp 3)⟩,
   ⟨(some 100), (some (96, true)), .ld (.tmp 99) none⟩,
   ⟨(some 101), (some (96, true)), .beq false (.tmp 98) (.tmp 100)⟩,
   ⟨(some 102), none, .pick (.tmp 96) (.tmp 101) (.const (.bool false))⟩,
   ⟨(some 4), none, .mov (.tmp 102)⟩]
def ratlineref18_Event : VCode := (.seq (.reg ratlineref18_Event_r0) (.seq (.seq (.reg ratlineref18_Event_r1) (.cond (.tmp 14) (.seq (.reg ratlineref18_Event_r2) .ret) .skip)) (.seq (.seq (.reg ratlineref18_Event_r3) (.block 0 (.loop ratlineref18_Event_l8))) (.seq (.reg ratlineref18_Event_r9) (.seq (.reg ratlineref18_Event_r10) (.seq (.reg ratlineref18_Event_r11) .ret))))))
theorem ratlineref18_Event_is : fnV prog n_ratlineref18_Event = some (103, ratlineref18_Event, [.tmp 4]) := by kernel_rfl

/- slices_Clone_bool_bool -/
@[simp] def slices_Clone_bool_bool_r0 : List VOp :=
  [⟨(some 2), none, .nils 1⟩]
@[simp] def slices_Clone_bool_bool_r1 : List VOp :=
  [⟨(some 3), none, .mov (.tmp 0)⟩,
   ⟨(some 4), none, .snil false (.tmp 3)⟩]
@[simp] def slices_Clone_bool_bool_r2 : List VOp :=
  [⟨(some 2), none, .nils 1⟩]
@[simp] def slices_Clone_bool_bool_r3 : List VOp :=
  [⟨(some 5), none, .lit 1 0 []⟩,
   ⟨(some 6), none, .mov (.tmp 0)⟩,
   ⟨(some 7), none, .app 1 1 (.tmp 5) (.tmp 6)⟩,
   ⟨(some 2), none, .mov (.tmp 7)⟩]
def slices_Clone_bool_bool : VCode := (.seq (.reg slices_Clone_bool_bool_r0) (.seq (.seq (.reg slices_Clone_bool_bool_r1) (.cond (.tmp 4) (.seq (.reg slices_Clone_bool_bool_r2) .ret) .skip)) (.seq (.reg slices_Clone_bool_bool_r3) .ret)))
theorem slices_Clone_bool_bool_is : fnV prog n_slices_Clone_bool_bool = some (8, slices_Clone_bool_bool, [.tmp 2]) := by kernel_rfl

/- slices_Clone_int_int -/
@[simp] def slices_Clone_int_int_r0 : List VOp :=
  [⟨(some 2), none, .nils 1⟩]
@[simp] def slices_Clone_int_int_r1 : List VOp :=
  [⟨(some 3), none, .mov (.tmp 0)⟩,
   ⟨(some 4), none, .snil false (.tmp 3)⟩]
@[simp] def slices_Clone_int_int_r2 : List VOp :=
  [⟨(some 2), none, .nils 1⟩]
@[simp] def slices_Clone_int_int_r3 : List VOp :=
  [⟨(some 5), none, .lit 1 0 []⟩,
   ⟨(some 6), none, .mov (.tmp 0)⟩,
   ⟨(some 7), none, .app 1 8 (.tmp 5) (.tmp 6)⟩,
   ⟨(some 2), none, .mov (.tmp 7)⟩]
def slices_Clone_int_int : VCode := (.seq (.reg slices_Clone_int_int_r0) (.seq (.seq (.reg slices_Clone_int_int_r1) (.cond (.tmp 4) (.seq (.reg slices_Clone_int_int_r2) .ret) .skip)) (.seq (.reg slices_Clone_int_int_r3) .ret)))
theorem slices_Clone_int_int_is : fnV prog n_slices_Clone_int_int = some (8, slices_Clone_int_int, [.tmp 2]) := by kernel_rfl

/- row_Clone -/
@[simp] def row_Clone_r0 : List VOp :=
  [⟨(some 2), none, .nils 3⟩]
@[simp] def row_Clone_r1 : List VOp :=
  [⟨(some 3), none, .mov (.tmp 0)⟩,
   ⟨(some 4), none, .call n_slices_Clone_api_Row_api_Value [(.tmp 3)]⟩,
   ⟨(some 2), none, .mov (.tmp 4)⟩]
def row_Clone : VCode := (.seq (.reg row_Clone_r0) (.seq (.reg row_Clone_r1) .ret))
theorem row_Clone_is : fnV prog n_row_Clone = some (5, row_Clone, [.tmp 2]) := by kernel_rfl

/- slices_Clone_api_Ref_api_Ref -/
@[simp] def slices_Clone_api_Ref_api_Ref_r0 : List VOp :=
  [⟨(some 2), none, .nils 5⟩]
@[simp] def slices_Clone_api_Ref_api_Ref_r1 : List VOp :=
  [⟨(some 3), none, .mov (.tmp 0)⟩,
   ⟨(some 4), none, .snil false (.tmp 3)⟩]
@[simp] def slices_Clone_api_Ref_api_Ref_r2 : List VOp :=
  [⟨(some 2), none, .nils 5⟩]
@[simp] def slices_Clone_api_Ref_api_Ref_r3 : List VOp :=
  [⟨(some 5), none, .lit 5 0 []⟩,
   ⟨(some 6), none, .mov (.tmp 0)⟩,
   ⟨(some 7), none, .app 5 48 (.tmp 5) (.tmp 6)⟩,
   ⟨(some 2), none, .mov (.tmp 7)⟩]
def slices_Clone_api_Ref_api_Ref : VCode := (.seq (.reg slices_Clone_api_Ref_api_Ref_r0) (.seq (.seq (.reg slices_Clone_api_Ref_api_Ref_r1) (.cond (.tmp 4) (.seq (.reg slices_Clone_api_Ref_api_Ref_r2) .ret) .skip)) (.seq (.reg slices_Clone_api_Ref_api_Ref_r3) .ret)))
theorem slices_Clone_api_Ref_api_Ref_is : fnV prog n_slices_Clone_api_Ref_api_Ref = some (8, slices_Clone_api_Ref_api_Ref, [.tmp 2]) := by kernel_rfl

/- pred_Clone -/
@[simp] def pred_Clone_r0 : List VOp :=
  [⟨(some 1), none, .box (.tmp 0)⟩,
   ⟨(some 2), none, .alloc [.iv (.v (.int .i64 0)), .iv (.v (.int .i64 0)), .iv (.v (.bool false)), .iv (.v (.int .i64 0)), .iv (.v (.string ⟨#[]⟩)), .iv (.v (.bool false)), .iv (.v (.int .i64 0)), .iv (.v (.string ⟨#[]⟩)), .nil 9]⟩]
@[simp] def pred_Clone_r1 : List VOp :=
  [⟨(some 4), none, .fa 8 (.tmp 1)⟩,
   ⟨(some 5), none, .ld (.tmp 4) none⟩,
   ⟨(some 6), none, .call n_slices_Clone_api_Pred_api_Pred [(.tmp 5)]⟩,
   ⟨(some 7), none, .fa 8 (.tmp 1)⟩,
   ⟨none, none, .st (.tmp 7) (.tmp 6) 1⟩]
@[simp] def pred_Clone_r2 : List VOp :=
  [⟨(some 8), none, .fa 8 (.tmp 1)⟩,
   ⟨(some 9), none, .ld (.tmp 8) none⟩,
   ⟨(some 10), none, .len (.tmp 9)⟩,
   ⟨(some 11), none, .mov (.const (.int .i64 0))⟩]
@[simp] def pred_Clone_r3 : List VOp :=
  [⟨(some 12), none, .bin .lss (.tmp 11) (.tmp 10)⟩]
@[simp] def pred_Clone_r4 : List VOp :=
  [⟨(some 13), none, .mov (.tmp 11)⟩,
   ⟨(some 3), none, .mov (.tmp 13)⟩]
@[simp] def pred_Clone_t5 : VT :=
  .op ⟨(some 14), none, .fa 8 (.tmp 1)⟩ <|
  .op ⟨(some 16), none, .mov (.tmp 3)⟩ <|
  .op ⟨(some 17), none, .fa 8 (.tmp 1)⟩ <|
  .op ⟨(some 18), none, .ld (.tmp 17) none⟩ <|
  .op ⟨(some 19), none, .mov (.tmp 3)⟩ <|
  .op ⟨(some 20), none, .ia 9 (.tmp 18) (.tmp 19)⟩ <|
  .op ⟨(some 21), none, .ld (.tmp 20) (some 9)⟩ <|
  .alt (
   .op ⟨(some 15), none, .ld (.tmp 14) none⟩ <|
   .op ⟨(some 22), none, .call n_pred_Clone [(.tmp 21)]⟩ <|
   .op ⟨(some 23), none, .ia 9 (.tmp 15) (.tmp 16)⟩ <|
   .op ⟨none, none, .st (.tmp 23) (.tmp 22) 9⟩ <|
   .done) (
   .op ⟨(some 22), none, .call n_pred_Clone [(.tmp 21)]⟩ <|
   .op ⟨(some 15), none, .ld (.tmp 14) none⟩ <|
   .op ⟨(some 23), none, .ia 9 (.tmp 15) (.tmp 16)⟩ <|
   .op ⟨none, none, .st (.tmp 23) (.tmp 22) 9⟩ <|
   .done)
@[simp] def pred_Clone_r6 : List VOp :=
  [⟨(some 24), none, .bin .add (.tmp 11) (.const (.int .i64 1))⟩,
   ⟨(some 11), none, .mov (.tmp 24)⟩]
def pred_Clone_l7 : VCode :=
  (.seq (.reg pred_Clone_r3) (.seq (.cond (.tmp 12) .skip (.exit 0)) (.seq (.block 1 (.seq (.reg pred_Clone_r4) (.any pred_Clone_t5))) (.reg pred_Clone_r6))))
@[simp] def pred_Clone_r8 : List VOp :=
  [⟨(some 25), none, .ld (.tmp 1) (some 9)⟩,
   ⟨none, none, .st (.tmp 2) (.tmp 25) 9⟩]
def pred_Clone : VCode := (.seq (.reg pred_Clone_r0) (.seq (.reg pred_Clone_r1) (.seq (.seq (.reg pred_Clone_r2) (.block 0 (.loop pred_Clone_l7))) (.seq (.reg pred_Clone_r8) .ret))))
theorem pred_Clone_is : fnV prog n_pred_Clone = some (26, pred_Clone, [.cell 2 (some 9)]) := by kernel_rfl

/- maps_Keys_map_int_int_int_int -/
@[simp] def maps_Keys_map_int_int_int_int_r0 : List VOp :=
  [⟨(some 1), none, .box (.tmp 0)⟩,
   ⟨(some 2), none, .mov (.const .nilFunc)⟩]
@[simp] def maps_Keys_map_int_int_int_int_r1 : List VOp :=
  [⟨(some 3), none, .mkfn n_maps_Keys_map_int_int_int_int_1 [] [(.tmp 1)]⟩,
   ⟨(some 2), none, .mov (.tmp 3)⟩]
def maps_Keys_map_int_int_int_int : VCode := (.seq (.reg maps_Keys_map_int_int_int_int_r0) (.seq (.reg maps_Keys_map_int_int_int_int_r1) .ret))
theorem maps_Keys_map_int_int_int_int_is : fnV prog n_maps_Keys_map_int_int_int_int = some (4, maps_Keys_map_int_int_int_int, [.tmp 2]) := by kernel_rfl

/- ratlineref18_Txns -/
@[simp] def ratlineref18_Txns_r0 : List VOp :=
  [⟨(some 1), none, .box (.tmp 0)⟩,
   ⟨(some 2), none, .nils 1⟩]
@[simp] def ratlineref18_Txns_r1 : List VOp :=
  [⟨(some 3), none, .nils 1⟩]
@[simp] def ratlineref18_Txns_r2 : List VOp :=
  [⟨(some 4), none, .mov (.const (.int .i64 0))⟩]
@[simp] def ratlineref18_Txns_r3 : List VOp :=
  [⟨(some 8), none, .mov (.tmp 4)⟩,
   ⟨(some 9), none, .fa 1 (.tmp 1)⟩,
   ⟨(some 10), none, .ld (.tmp 9) none⟩,
   ⟨(some 11), none, .len (.tmp 10)⟩,
   ⟨(some 12), none, .bin .lss (.tmp 8) (.tmp 11)⟩]
@[simp] def ratlineref18_Txns_r4 : List VOp :=
  [⟨(some 15), none, .fa 1 (.tmp 1)⟩,
   ⟨(some 16), none, .ld (.tmp 15) none⟩,
   ⟨(some 17), none, .mov (.tmp 4)⟩,
   ⟨(some 18), none, .ia 22 (.tmp 16) (.tmp 17)⟩,
   ⟨(some 19), none, .ld (.tmp 18) (some 22)⟩,
   ⟨(some 5), none, .alloc [.iv (.v (.int .i64 0)), .iv (.v (.int .i64 0)), .iv (.v (.int .i64 0)), .iv (.v (.int .i64 0)), .iv (.v (.bool false)), .iv (.v (.int .i64 0)), .iv (.v (.string ⟨#[]⟩)), .iv (.v (.int .i64 0)), .iv (.v (.int .i64 0)), .iv (.v (.int .i64 0)), .nil 3, .iv (.v (.int .i64 0)), .iv (.v (.int .i64 0)), .iv (.v (.bool false)), .iv (.v (.int .i64 0)), .iv (.v (.string ⟨#[]⟩)), .iv (.v (.bool false)), .iv (.v (.int .i64 0)), .iv (.v (.string ⟨#[]⟩)), .nil 9, .nil 5, .iv (.v (.bool false))]⟩,
   ⟨none, none, .st (.tmp 5) (.tmp 19) 22⟩]
@[simp] def ratlineref18_Txns_r5 : List VOp :=
  [⟨(some 20), none, .fa 1 (.tmp 5)⟩,
   ⟨(some 21), none, .ld (.tmp 20) none⟩,
   ⟨(some 22), none, .bin .neq (.tmp 21) (.const (.int .i64 1))⟩]
@[simp] def ratlineref18_Txns_r6 : List VOp :=
  [⟨(some 6), none, .mov (.const (.int .i64 0))⟩]
@[simp] def ratlineref18_Txns_t7 : VT :=
  .op ⟨(some 23), none, .mov (.tmp 6)⟩ <|
  .op ⟨(some 24), none, .mov (.tmp 3)⟩ <|
  .op ⟨(some 25), none, .len (.tmp 24)⟩ <|
  .op ⟨(some 26), none, .bin .lss (.tmp 23) (.tmp 25)⟩ <|
  .op ⟨(some 27), none, .mov (.tmp 26)⟩ <|
  .op ⟨(some 28), (some (27, true)), .mov (.tmp 3)⟩ <|
  .op ⟨(some 29), (some (27, true)), .mov (.tmp 6)⟩ <|
  .op ⟨(some 30), (some (27, true)), .ia 1 (.tmp 28) (.tmp 29)⟩ <|
  .op ⟨(some 31), (some (27, true)), .ld (.tmp 30) none⟩ <|
  .op ⟨(some 32), (some (27, true)), .fa 0 (.tmp 5)⟩ <|
  .op ⟨(some 33), (some (27, true)), .ld (.tmp 32) none⟩ <|
  .op ⟨(some 34), (some (27, true)), .bin .lss (.tmp 31) (.tmp 33)⟩ <|
  .op ⟨(some 35), none, .pick (.tmp 27) (.tmp 34) (.const (.bool false))⟩ <|
  .done
@[simp] def ratlineref18_Txns_r8 : List VOp :=
  [⟨(some 36), none, .mov (.tmp 6)⟩,
   ⟨(some 37), none, .bin .add (.tmp 36) (.const (.int .i64 1))⟩,
   ⟨(some 6), none, .mov (.tmp 37)⟩]
def ratlineref18_Txns_l9 : VCode :=
  (.seq (.seq (.any ratlineref18_Txns_t7) (.cond (.tmp 35) .skip (.exit 2))) (.block 3 (.reg ratlineref18_Txns_r8)))
@[simp] def ratlineref18_Txns_t10 : VT :=
  .op ⟨(some 38), none, .mov (.tmp 6)⟩ <|
  .op ⟨(some 39), none, .mov (.tmp 3)⟩ <|
  .op ⟨(some 40), none, .len (.tmp 39)⟩ <|
  .op ⟨(some 41), none, .bin .lss (.tmp 38) (.tmp 40)⟩ <|
  .op ⟨(some 42), none, .mov (.tmp 41)⟩ <|
  .op ⟨(some 43), (some (42, true)), .mov (.tmp 3)⟩ <|
  .op ⟨(some 44), (some (42, true)), .mov (.tmp 6)⟩ <|
  .op ⟨(some 45), (some (42, true)), .ia 1 (.tmp 43) (.tmp 44)⟩ <|
  .op ⟨(some 46), (some (42, true)), .ld (.tmp 45) none⟩ <|
  .op ⟨(some 47), (some (42, true)), .fa 0 (.tmp 5)⟩ <|
  .op ⟨(some 48), (some (42, true)), .ld (.tmp 47) none⟩ <|
  .op ⟨(some 49), (some (42, true)), .bin .eql (.tmp 46) (.tmp 48)⟩ <|
  .op ⟨(some 50), none, .pick (.tmp 42) (.tmp 49) (.const (.bool false))⟩ <|
  .done
@[simp] def ratlineref18_Txns_r11 : List VOp :=
  [⟨(some 7), none, .nils 1⟩]
@[simp] def ratlineref18_Txns_r12 : List VOp :=
  [⟨(some 51), none, .mov (.tmp 7)⟩,
   ⟨(some 52), none, .mov (.tmp 3)⟩,
   ⟨(some 53), none, .mov (.tmp 6)⟩,
   ⟨(some 54), none, .cut 1 (.tmp 52) none (some (.tmp 53))⟩,
   ⟨(some 55), none, .app 1 8 (.tmp 51) (.tmp 54)⟩,
   ⟨(some 7), none, .mov (.tmp 55)⟩]
@[simp] def ratlineref18_Txns_r13 : List VOp :=
  [⟨(some 56), none, .mov (.tmp 7)⟩,
   ⟨(some 57), none, .fa 0 (.tmp 5)⟩,
   ⟨(some 58), none, .ld (.tmp 57) none⟩,
   ⟨(some 59), none, .lit 1 1 [(0, (.tmp 58))]⟩,
   ⟨(some 60), none, .app 1 8 (.tmp 56) (.tmp 59)⟩,
   ⟨(some 7), none, .mov (.tmp 60)⟩]
@[simp] def ratlineref18_Txns_r14 : List VOp :=
  [⟨(some 61), none, .mov (.tmp 7)⟩,
   ⟨(some 62), none, .mov (.tmp 3)⟩,
   ⟨(some 63), none, .mov (.tmp 6)⟩,
   ⟨(some 64), none, .cut 1 (.tmp 62) (some (.tmp 63)) none⟩,
   ⟨(some 65), none, .app 1 8 (.tmp 61) (.tmp 64)⟩,
   ⟨(some 7), none, .mov (.tmp 65)⟩]
@[simp] def ratlineref18_Txns_r15 : List VOp :=
  [⟨(some 66), none, .mov (.tmp 7)⟩,
   ⟨(some 3), none, .mov (.tmp 66)⟩]
@[simp] def ratlineref18_Txns_r16 : List VOp :=
  [⟨(some 13), none, .mov (.tmp 4)⟩,
   ⟨(some 14), none, .bin .add (.tmp 13) (.const (.int .i64 1))⟩,
   ⟨(some 4), none, .mov (.tmp 14)⟩]
def ratlineref18_Txns_l17 : VCode :=
  (.seq (.seq (.reg ratlineref18_Txns_r3) (.cond (.tmp 12) .skip (.exit 0))) (.seq (.block 1 (.seq (.reg ratlineref18_Txns_r4) (.seq (.seq (.reg ratlineref18_Txns_r5) (.cond (.tmp 22) (.exit 1) .skip)) (.seq (.reg ratlineref18_Txns_r6) (.seq (.block 2 (.loop ratlineref18_Txns_l9)) (.seq (.seq (.any ratlineref18_Txns_t10) (.cond (.tmp 50) (.exit 1) .skip)) (.seq (.reg ratlineref18_Txns_r11) (.seq (.reg ratlineref18_Txns_r12) (.seq (.reg ratlineref18_Txns_r13) (.seq (.reg ratlineref18_Txns_r14) (.reg ratlineref18_Txns_r15))))))))))) (.reg ratlineref18_Txns_r16)))
@[simp] def ratlineref18_Txns_r18 : List VOp :=
  [⟨(some 67), none, .mov (.tmp 3)⟩,
   ⟨(some 2), none, .mov (.tmp 67)⟩]
def ratlineref18_Txns : VCode := (.seq (.reg ratlineref18_Txns_r0) (.seq (.reg ratlineref18_Txns_r1) (.seq (.seq (.reg ratlineref18_Txns_r2) (.block 0 (.loop ratlineref18_Txns_l17))) (.seq (.reg ratlineref18_Txns_r18) .ret))))
theorem ratlineref18_Txns_is : fnV prog n_ratlineref18_Txns = some (68, ratlineref18_Txns, [.tmp 2]) := by kernel_rfl

/- ratlineref03_Same -/
@[simp] def ratlineref03_Same_r0 : List VOp :=
  [⟨(some 2), none, .box (.tmp 0)⟩,
   ⟨(some 3), none, .box (.tmp 1)⟩,
   ⟨(some 4), none, .mov (.const (.bool false))⟩]
@[simp] def ratlineref03_Same_r1 : List VOp :=
  [⟨(some 7), none, .fa 0 (.tmp 2)⟩,
   ⟨(some 8), none, .ld (.tmp 7) none⟩,
   ⟨(some 9), none, .fa 0 (.tmp 3)⟩,
   ⟨(some 10), none, .ld (.tmp 9) none⟩,
   ⟨(some 11), none, .bin .neq (.tmp 8) (.tmp 10)⟩,
   ⟨(some 12), none, .mov (.tmp 11)⟩,
   ⟨(some 13), (some (12, false)), .fa 1 (.tmp 2)⟩,
   ⟨(some 14), (some (12, false)), .ld (.tmp 13) none⟩,
   ⟨(some 15), (some (12, false)), .fa 1 (.tmp 3)⟩,
   ⟨(some 16), (some (12, false)), .ld (.tmp 15) none⟩,
   ⟨(some 17), (some (12, false)), .bin .neq (.tmp 14) (.tmp 16)⟩,
   ⟨(some 18), none, .pick (.tmp 12) (.const (.bool true)) (.tmp 17)⟩,
   ⟨(some 19), none, .mov (.tmp 18)⟩,
   ⟨(some 20), (some (19, false)), .fa 2 (.tmp 2)⟩,
   ⟨(some 21), (some (19, false)), .ld (.tmp 20) (some 3)⟩,
   ⟨(some 22), (some (19, false)), .fa 2 (.tmp 3)⟩,
   ⟨(some 23), (some (19, false)), .ld (.tmp 22) (some 3)⟩,
   ⟨(some 24), (some (19, false)), .eqs true [.b, .i .i64, .s] (.tmp 21) (.tmp 23)⟩,
   ⟨(some 25), none, .pick (.tmp 19) (.const (.bool true)) (.tmp 24)⟩,
   ⟨(some 26), none, .mov (.tmp 25)⟩,
   ⟨(some 27), (some (26, false)), .fa 5 (.tmp 2)⟩,
   ⟨(some 28), (some (26, false)), .ld (.tmp 27) (some 3)⟩,
   ⟨(some 29), (some (26, false)), .fa 5 (.tmp 3)⟩,
   ⟨(some 30), (some (26, false)), .ld (.tmp 29) (some 3)⟩,
   ⟨(some 31), (some (26, false)), .eqs true [.b, .i .i64, .s] (.tmp 28) (.tmp 30)⟩,
   ⟨(some 32), none, .pick (.tmp 26) (.const (.bool true)) (.tmp 31)⟩,
   ⟨(some 33), none, .mov (.tmp 32)⟩,
   ⟨(some 34), (some (33, false)), .fa 8 (.tmp 2)⟩,
   ⟨(some 35), (some (33, false)), .ld (.tmp 34) none⟩,
   ⟨(some 36), (some (33, false)), .len (.tmp 35)⟩,
   ⟨(some 37), (some (33, false)), .fa 8 (.tmp 3)⟩,
   ⟨(some 38), (some (33, false)), .ld (.tmp 37) none⟩,
   ⟨(some 39), (some (33, false)), .len (.tmp 38)⟩,
   ⟨(some 40), (some (33, false)), .bin .neq (.tmp 36) (.tmp 39)⟩,
   ⟨(some 41), none, .pick (.tmp 33) (.const (.bool true)) (.tmp 40)⟩]
@[simp] def ratlineref03_Same_r2 : List VOp :=
  [⟨(some 4), none, .mov (.const (.bool false))⟩]
@[simp] def ratlineref03_Same_r3 : List VOp :=
  [⟨(some 5), none, .mov (.const (.int .i64 0))⟩]
@[simp] def ratlineref03_Same_r4 : List VOp :=
  [⟨(some 42), none, .mov (.tmp 5)⟩,
   ⟨(some 43), none, .fa 8 (.tmp 2)⟩,
   ⟨(some 44), none, .ld (.tmp 43) none⟩,
   ⟨(some 45), none, .len (.tmp 44)⟩,
   ⟨(some 46), none, .bin .lss (.tmp 42) (.tmp 45)⟩]
@[simp] def ratlineref03_Same_t5 : VT :=
  .op ⟨(some 49), none, .fa 8 (.tmp 2)⟩ <|
  .op ⟨(some 50), none, .ld (.tmp 49) none⟩ <|
  .op ⟨(some 51), none, .mov (.tmp 5)⟩ <|
  .op ⟨(some 52), none, .ia 9 (.tmp 50) (.tmp 51)⟩ <|
  .op ⟨(some 53), none, .ld (.tmp 52) (some 9)⟩ <|
  .op ⟨(some 54), none, .fa 8 (.tmp 3)⟩ <|
  .op ⟨(some 55), none, .ld (.tmp 54) none⟩ <|
  .op ⟨(some 56), none, .mov (.tmp 5)⟩ <|
  .op ⟨(some 57), none, .ia 9 (.tmp 55) (.tmp 56)⟩ <|
  .op ⟨(some 58), none, .ld (.tmp 57) (some 9)⟩ <|
  .op ⟨(some 59), none, .call n_ratlineref03_Same [(.tmp 53), (.tmp 58)]⟩ <|
  .op ⟨(some 6), none, .mov (.tmp 59)⟩ <|
  .done
@[simp] def ratlineref03_Same_r6 : List VOp :=
  [⟨(some 60), none, .mov (.tmp 6)⟩,
   ⟨(some 61), none, .un .not (.tmp 60)⟩]
@[simp] def ratlineref03_Same_r7 : List VOp :=
  [⟨(some 4), none, .mov (.const (.bool false))⟩]
@[simp] def ratlineref03_Same_r8 : List VOp :=
  [⟨(some 47), none, .mov (.tmp 5)⟩,
   ⟨(some 48), none, .bin .add (.tmp 47) (.const (.int .i64 1))⟩,
   ⟨(some 5), none, .mov (.tmp 48)⟩]
def ratlineref03_Same_l9 : VCode :=
  (.seq (.seq (.reg ratlineref03_Same_r4) (.cond (.tmp 46) .skip (.exit 0))) (.seq (.block 1 (.seq (.any ratlineref03_Same_t5) (.seq (.reg ratlineref03_Same_r6) (.cond (.tmp 61) (.seq (.reg ratlineref03_Same_r7) .ret) .skip)))) (.reg ratlineref03_Same_r8)))
@[simp] def ratlineref03_Same_r10 : List VOp :=
  [⟨(some 4), none, .mov (.const (.bool true))⟩]
def ratlineref03_Same : VCode := (.seq (.reg ratlineref03_Same_r0) (.seq (.seq (.reg ratlineref03_Same_r1) (.cond (.tmp 41) (.seq (.reg ratlineref03_Same_r2) .ret) .skip)) (.seq (.seq (.reg ratlineref03_Same_r3) (.block 0 (.loop ratlineref03_Same_l9))) (.seq (.reg ratlineref03_Same_r10) .ret))))
theorem ratlineref03_Same_is : fnV prog n_ratlineref03_Same = some (62, ratlineref03_Same, [.tmp 4]) := by kernel_rfl

/- ratlineref02_Same -/
@[simp] def ratlineref02_Same_r0 : List VOp :=
  [⟨(some 4), none, .mov (.const (.bool false))⟩]
@[simp] def ratlineref02_Same_r1 : List VOp :=
  [⟨(some 6), none, .mov (.tmp 0)⟩,
   ⟨(some 7), none, .len (.tmp 6)⟩,
   ⟨(some 8), none, .mov (.tmp 1)⟩,
   ⟨(some 9), none, .len (.tmp 8)⟩,
   ⟨(some 10), none, .bin .neq (.tmp 7) (.tmp 9)⟩]
@[simp] def ratlineref02_Same_r2 : List VOp :=
  [⟨(some 4), none, .mov (.const (.bool false))⟩]
@[simp] def ratlineref02_Same_r3 : List VOp :=
  [⟨(some 5), none, .mov (.const (.int .i64 0))⟩]
@[simp] def ratlineref02_Same_r4 : List VOp :=
  [⟨(some 11), none, .mov (.tmp 5)⟩,
   ⟨(some 12), none, .mov (.tmp 0)⟩,
   ⟨(some 13), none, .len (.tmp 12)⟩,
   ⟨(some 14), none, .bin .lss (.tmp 11) (.tmp 13)⟩]
@[simp] def ratlineref02_Same_t5 : VT :=
  .op ⟨(some 17), none, .mov (.tmp 0)⟩ <|
  .op ⟨(some 18), none, .mov (.tmp 5)⟩ <|
  .op ⟨(some 19), none, .ia 3 (.tmp 17) (.tmp 18)⟩ <|
  .op ⟨(some 20), none, .ld (.tmp 19) (some 3)⟩ <|
  .op ⟨(some 21), none, .mov (.tmp 1)⟩ <|
  .op ⟨(some 22), none, .mov (.tmp 5)⟩ <|
  .op ⟨(some 23), none, .ia 3 (.tmp 21) (.tmp 22)⟩ <|
  .op ⟨(some 24), none, .ld (.tmp 23) (some 3)⟩ <|
  .op ⟨(some 25), none, .eqs true [.b, .i .i64, .s] (.tmp 20) (.tmp 24)⟩ <|
  .done
@[simp] def ratlineref02_Same_r6 : List VOp :=
  [⟨(some 4), none, .mov (.const (.bool false))⟩]
@[simp] def ratlineref02_Same_r7 : List VOp :=
  [⟨(some 15), none, .mov (.tmp 5)⟩,
   ⟨(some 16), none, .bin .add (.tmp 15) (.const (.int .i64 1))⟩,
   ⟨(some 5), none, .mov (.tmp 16)⟩]
def ratlineref02_Same_l8 : VCode :=
  (.seq (.seq (.reg ratlineref02_Same_r4) (.cond (.tmp 14) .skip (.exit 0))) (.seq (.block 1 (.seq (.any ratlineref02_Same_t5) (.cond (.tmp 25) (.seq (.reg ratlineref02_Same_r6) .ret) .skip))) (.reg ratlineref02_Same_r7)))
@[simp] def ratlineref02_Same_r9 : List VOp :=
  [⟨(some 4), none, .mov (.const (.bool true))⟩]
def ratlineref02_Same : VCode := (.seq (.reg ratlineref02_Same_r0) (.seq (.seq (.reg ratlineref02_Same_r1) (.cond (.tmp 10) (.seq (.reg ratlineref02_Same_r2) .ret) .skip)) (.seq (.seq (.reg ratlineref02_Same_r3) (.block 0 (.loop ratlineref02_Same_l8))) (.seq (.reg ratlineref02_Same_r9) .ret))))
theorem ratlineref02_Same_is : fnV prog n_ratlineref02_Same = some (26, ratlineref02_Same, [.tmp 4]) := by kernel_rfl

/- slices_Clone_api_Row_api_Value -/
@[simp] def slices_Clone_api_Row_api_Value_r0 : List VOp :=
  [⟨(some 2), none, .nils 3⟩]
@[simp] def slices_Clone_api_Row_api_Value_r1 : List VOp :=
  [⟨(some 3), none, .mov (.tmp 0)⟩,
   ⟨(some 4), none, .snil false (.tmp 3)⟩]
@[simp] def slices_Clone_api_Row_api_Value_r2 : List VOp :=
  [⟨(some 2), none, .nils 3⟩]
@[simp] def slices_Clone_api_Row_api_Value_r3 : List VOp :=
  [⟨(some 5), none, .lit 3 0 []⟩,
   ⟨(some 6), none, .mov (.tmp 0)⟩,
   ⟨(some 7), none, .app 3 32 (.tmp 5) (.tmp 6)⟩,
   ⟨(some 2), none, .mov (.tmp 7)⟩]
def slices_Clone_api_Row_api_Value : VCode := (.seq (.reg slices_Clone_api_Row_api_Value_r0) (.seq (.seq (.reg slices_Clone_api_Row_api_Value_r1) (.cond (.tmp 4) (.seq (.reg slices_Clone_api_Row_api_Value_r2) .ret) .skip)) (.seq (.reg slices_Clone_api_Row_api_Value_r3) .ret)))
theorem slices_Clone_api_Row_api_Value_is : fnV prog n_slices_Clone_api_Row_api_Value = some (8, slices_Clone_api_Row_api_Value, [.tmp 2]) := by kernel_rfl

/- slices_Clone_api_Pred_api_Pred -/
@[simp] def slices_Clone_api_Pred_api_Pred_r0 : List VOp :=
  [⟨(some 2), none, .nils 9⟩]
@[simp] def slices_Clone_api_Pred_api_Pred_r1 : List VOp :=
  [⟨(some 3), none, .mov (.tmp 0)⟩,
   ⟨(some 4), none, .snil false (.tmp 3)⟩]
@[simp] def slices_Clone_api_Pred_api_Pred_r2 : List VOp :=
  [⟨(some 2), none, .nils 9⟩]
@[simp] def slices_Clone_api_Pred_api_Pred_r3 : List VOp :=
  [⟨(some 5), none, .lit 9 0 []⟩,
   ⟨(some 6), none, .mov (.tmp 0)⟩,
   ⟨(some 7), none, .app 9 104 (.tmp 5) (.tmp 6)⟩,
   ⟨(some 2), none, .mov (.tmp 7)⟩]
def slices_Clone_api_Pred_api_Pred : VCode := (.seq (.reg slices_Clone_api_Pred_api_Pred_r0) (.seq (.seq (.reg slices_Clone_api_Pred_api_Pred_r1) (.cond (.tmp 4) (.seq (.reg slices_Clone_api_Pred_api_Pred_r2) .ret) .skip)) (.seq (.reg slices_Clone_api_Pred_api_Pred_r3) .ret)))
theorem slices_Clone_api_Pred_api_Pred_is : fnV prog n_slices_Clone_api_Pred_api_Pred = some (8, slices_Clone_api_Pred_api_Pred, [.tmp 2]) := by kernel_rfl

end Go.Rt
end

/- Functions as the abstract machine has them (printed by GenV.lean). -/
section
namespace Go.Rt
open Go.Vm
/- slices_Sorted_int -/
@[simp] def slices_Sorted_int_r0 : List VOp :=
  [⟨(some 2), none, .nils 1⟩]
@[simp] def slices_Sorted_int_r1 : List VOp :=
  [⟨(some 4), none, .mov (.tmp 0)⟩,
   ⟨(some 5), none, .call n_slices_Collect_int [(.tmp 4)]⟩,
   ⟨(some 3), none, .mov (.tmp 5)⟩]
@[simp] def slices_Sorted_int_r2 : List VOp :=
  [⟨(some 6), none, .mov (.tmp 3)⟩,
   ⟨(some 7), none, .call n_slices_Sort_int_int [(.tmp 6)]⟩]
@[simp] def slices_Sorted_int_r3 : List VOp :=
  [⟨(some 8), none, .mov (.tmp 3)⟩,
   ⟨(some 2), none, .mov (.tmp 8)⟩]
def slices_Sorted_int : VCode := (.seq (.reg slices_Sorted_int_r0) (.seq (.reg slices_Sorted_int_r1) (.seq (.reg slices_Sorted_int_r2) (.seq (.reg slices_Sorted_int_r3) .ret))))
theorem slices_Sorted_int_is : fnV prog n_slices_Sorted_int = some (9, slices_Sorted_int, [.tmp 2]) := by kernel_rfl

/- slices_Collect_int -/
@[simp] def slices_Collect_int_r0 : List VOp :=
  [⟨(some 2), none, .nils 1⟩]
@[simp] def slices_Collect_int_r1 : List VOp :=
  [⟨(some 3), none, .mov (.tmp 0)⟩,
   ⟨(some 4), none, .call n_slices_AppendSeq_int_int [(.const (.slice none 0 0)), (.tmp 3)]⟩,
   ⟨(some 2), none, .mov (.tmp 4)⟩]
def slices_Collect_int : VCode := (.seq (.reg slices_Collect_int_r0) (.seq (.reg slices_Collect_int_r1) .ret))
theorem slices_Collect_int_is : fnV prog n_slices_Collect_int = some (5, slices_Collect_int, [.tmp 2]) := by kernel_rfl

/- slices_AppendSeq_int_int -/
@[simp] def slices_AppendSeq_int_int_r0 : List VOp :=
  [⟨(some 2), none, .box (.tmp 0)⟩,
   ⟨(some 4), none, .nils 1⟩]
@[simp] def slices_AppendSeq_int_int_r1 : List VOp :=
  [⟨(some 6), none, .mov (.tmp 1)⟩]
@[simp] def slices_AppendSeq_int_int_r2 : List VOp :=
  [⟨(some 5), none, .mov (.tmp 7)⟩]
@[simp] def slices_AppendSeq_int_int_r3 : List VOp :=
  [⟨(some 8), none, .ld (.tmp 2) none⟩,
   ⟨(some 9), none, .mov (.tmp 5)⟩,
   ⟨(some 10), none, .lit 1 1 [(0, (.tmp 9))]⟩,
   ⟨(some 11), none, .app 1 8 (.tmp 8) (.tmp 10)⟩,
   ⟨none, none, .st (.tmp 2) (.tmp 11) 1⟩]
def slices_AppendSeq_int_int_a4 : VCode :=
  (.reg slices_AppendSeq_int_int_r2)
def slices_AppendSeq_int_int_b5 : VCode :=
  (.block 1 (.reg slices_AppendSeq_int_int_r3))
@[simp] def slices_AppendSeq_int_int_r6 : List VOp :=
  [⟨(some 12), none, .ld (.tmp 2) none⟩,
   ⟨(some 4), none, .mov (.tmp 12)⟩]
def slices_AppendSeq_int_int : VCode := (.seq (.reg slices_AppendSeq_int_int_r0) (.seq (.seq (.reg slices_AppendSeq_int_int_r1) (.block 0 (.rng (.tmp 6) [7] slices_AppendSeq_int_int_a4 slices_AppendSeq_int_int_b5))) (.seq (.reg slices_AppendSeq_int_int_r6) .ret)))
theorem slices_AppendSeq_int_int_is : fnV prog n_slices_AppendSeq_int_int = some (13, slices_AppendSeq_int_int, [.tmp 4]) := by kernel_rfl

/- maps_Keys_map_int_int_int_int_1 -/
@[simp] def maps_Keys_map_int_int_int_int_1_r0 : List VOp :=
  [⟨(some 4), none, .ld (.tmp 1) none⟩,
   ⟨(some 5), none, .rng (false, [.i .i64], false) (.tmp 4)⟩]
@[simp] def maps_Keys_map_int_int_int_int_1_r1 : List VOp :=
  [⟨(some 6), none, .nxt (.tmp 5)⟩,
   ⟨(some 7), none, .ext 0 (.tmp 6)⟩]
@[simp] def maps_Keys_map_int_int_int_int_1_r2 : List VOp :=
  [⟨(some 8), none, .ent (.tmp 5)⟩,
   ⟨(some 9), none, .ext 0 (.tmp 8)⟩,
   ⟨(some 3), none, .mov (.tmp 9)⟩]
@[simp] def maps_Keys_map_int_int_int_int_1_r3 : List VOp :=
  [⟨(some 10), none, .mov (.tmp 0)⟩,
   ⟨(some 11), none, .mov (.tmp 3)⟩,
   ⟨(some 12), none, .callv (.tmp 10) [(.tmp 11)]⟩,
   ⟨(some 13), none, .un .not (.tmp 12)⟩]
def maps_Keys_map_int_int_int_int_1_l4 : VCode :=
  (.seq (.reg maps_Keys_map_int_int_int_int_1_r1) (.seq (.cond (.tmp 7) .skip (.exit 0)) (.block 1 (.seq (.reg maps_Keys_map_int_int_int_int_1_r2) (.seq (.reg maps_Keys_map_int_int_int_int_1_r3) (.cond (.tmp 13) .ret .skip))))))
def maps_Keys_map_int_int_int_int_1 : VCode := (.seq (.reg maps_Keys_map_int_int_int_int_1_r0) (.block 0 (.loop maps_Keys_map_int_int_int_int_1_l4)))
theorem maps_Keys_map_int_int_int_int_1_is : fnV prog n_maps_Keys_map_int_int_int_int_1 = some (14, maps_Keys_map_int_int_int_int_1, []) := by kernel_rfl

end Go.Rt
end
