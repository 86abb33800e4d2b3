/- Functions of the program as the abstract machine has them. Conditions: none. -/
import Derived.Test.YtahalmofaboejaaGreatPB
import Derived.Test.YtahalmofaboejaaGreatPA

set_option linter.unusedVariables false
set_option linter.unusedSimpArgs false

/- Functions as the abstract machine has them (printed by GenW.lean). -/
section
namespace Go.Rt
open Go.Vm
/- rl19_OrderTells -/
@[simp] def rl19_OrderTells_r0 : List VOp :=
  [(oo 2 (.box (.tmp 0))),
   (oo 4 (.mov (.const (kb false))))]
@[simp] def rl19_OrderTells_r1 : List VOp :=
  [(oo 15 (.call n_rl19_awake [])),
   (oo 5 (.mov (.tmp 15)))]
@[simp] def rl19_OrderTells_r2 : List VOp :=
  [(oo 16 (.mov (.tmp 5))),
   (oo 17 (.un .not (.tmp 16)))]
@[simp] def rl19_OrderTells_r3 : List VOp :=
  [(oo 4 (.mov (.const (kb false))))]
@[simp] def rl19_OrderTells_r4 : List VOp :=
  [(oo 18 (.ld (.tmp 2) (some 3))),
   (oo 19 (.call n_rr18_Small [(.tmp 18)])),
   (oo 6 (.mov (.tmp 19)))]
@[simp] def rl19_OrderTells_r5 : List VOp :=
  [(oo 20 (.mov (.tmp 6))),
   (oo 21 (.un .not (.tmp 20)))]
@[simp] def rl19_OrderTells_r6 : List VOp :=
  [(oo 4 (.mov (.const (kb true))))]
@[simp] def rl19_OrderTells_r7 : List VOp :=
  [(oo 22 (.ld (.tmp 2) (some 3))),
   (oo 23 (.call n_order_Read [(.tmp 22)])),
   (oo 7 (.mov (.tmp 23)))]
@[simp] def rl19_OrderTells_r8 : List VOp :=
  [(oo 24 (.ld (.tmp 2) (some 3))),
   (oo 25 (.call n_rr18_Well [(.tmp 24)])),
   (oo 8 (.mov (.tmp 25)))]
@[simp] def rl19_OrderTells_r9 : List VOp :=
  [(oo 26 (.mov (.tmp 7))),
   (oo 27 (.peq true (.tmp 26) (.const (.pointer none)))),
   (oo 28 (.mov (.tmp 8))),
   (oo 29 (.beq true (.tmp 27) (.tmp 28)))]
@[simp] def rl19_OrderTells_r10 : List VOp :=
  [(oo 4 (.mov (.const (kb false))))]
@[simp] def rl19_OrderTells_r11 : List VOp :=
  [(oo 30 (.mov (.tmp 7))),
   (oo 31 (.peq false (.tmp 30) (.const (.pointer none))))]
@[simp] def rl19_OrderTells_r12 : List VOp :=
  [(oo 4 (.mov (.const (kb true))))]
@[simp] def rl19_OrderTells_s0 : VT :=
  .op (oo 33 (.call n_order_Book_Committed [(.tmp 32)])) <|
  .op (oo 34 (.ld (.tmp 2) (some 3))) <|
  .op (oo 35 (.call n_rr19_Committed [(.tmp 34)])) <|
  .op (oo 36 (.call n_rr10_Ints [(.tmp 33), (.tmp 35)])) <|
  .op (oo 37 (.un .not (.tmp 36))) <|
  .done
@[simp] def rl19_OrderTells_s1 : VT :=
  .op (oo 34 (.ld (.tmp 2) (some 3))) <|
  .op (oo 33 (.call n_order_Book_Committed [(.tmp 32)])) <|
  .op (oo 35 (.call n_rr19_Committed [(.tmp 34)])) <|
  .op (oo 36 (.call n_rr10_Ints [(.tmp 33), (.tmp 35)])) <|
  .op (oo 37 (.un .not (.tmp 36))) <|
  .done
@[simp] def rl19_OrderTells_t13 : VT :=
  .op (oo 32 (.mov (.tmp 7))) <|
  .alt (rl19_OrderTells_s0) (rl19_OrderTells_s1)
@[simp] def rl19_OrderTells_r14 : List VOp :=
  [(oo 4 (.mov (.const (kb false))))]
@[simp] def rl19_OrderTells_r15 : List VOp :=
  [(oo 9 (.mov (.const (ki 0))))]
@[simp] def rl19_OrderTells_r16 : List VOp :=
  [(oo 38 (.mov (.tmp 9))),
   (oo 39 (.mov (.tmp 1))),
   (oo 40 (.len (.tmp 39))),
   (oo 41 (.bin .lss (.tmp 38) (.tmp 40))),
   (oo 42 (.mov (.tmp 41))),
   (og 43 42 true (.mov (.tmp 9))),
   (og 44 42 true (.bin .lss (.tmp 43) (.const (ki 10)))),
   (oo 45 (.pick (.tmp 42) (.tmp 44) (.const (kb false))))]
@[simp] def rl19_OrderTells_r17 : List VOp :=
  [(oo 48 (.mov (.tmp 1))),
   (oo 49 (.mov (.tmp 9))),
   (oo 50 (.ia 17 (.tmp 48) (.tmp 49))),
   (oo 51 (.ld (.tmp 50) (some 17))),
   (oo 10 (.alloc [zi, zi, zb, zi, zs, zi, zi, zi, zi, zi, zb, zi, zs, zb, zi, zs, .nil 9])),
   (on (.st (.tmp 10) (.tmp 51) 17))]
@[simp] def rl19_OrderTells_r18 : List VOp :=
  [(oo 52 (.fa 8 (.tmp 10))),
   (oo 53 (.ld (.tmp 52) (some 9))),
   (oo 54 (.call n_rr03_Size [(.tmp 53)])),
   (oo 55 (.bin .gtr (.tmp 54) (.const (ki 30))))]
@[simp] def rl19_OrderTells_r19 : List VOp :=
  [(oo 4 (.mov (.const (kb true))))]
@[simp] def rl19_OrderTells_r20 : List VOp :=
  [(oo 57 (.mov (.tmp 7))),
   (oo 58 (.fa 1 (.tmp 10))),
   (oo 59 (.ld (.tmp 58) none)),
   (oo 60 (.fa 2 (.tmp 10))),
   (oo 61 (.ld (.tmp 60) (some 3))),
   (oo 62 (.fa 5 (.tmp 10))),
   (oo 63 (.ld (.tmp 62) (some 2))),
   (oo 64 (.call n_order_Book_Row [(.tmp 57), (.tmp 59), (.tmp 61), (.tmp 63)])),
   (oo 56 (.mov (.tmp 64))),
   (oo 65 (.ext 0 (.tmp 56))),
   (oo 66 (.ext 1 (.tmp 56))),
   (oo 11 (.mov (.tmp 65))),
   (oo 12 (.mov (.tmp 66)))]
@[simp] def rl19_OrderTells_r21 : List VOp :=
  [(oo 68 (.ld (.tmp 2) (some 3))),
   (oo 69 (.fa 1 (.tmp 10))),
   (oo 70 (.ld (.tmp 69) none)),
   (oo 71 (.fa 2 (.tmp 10))),
   (oo 72 (.ld (.tmp 71) (some 3))),
   (oo 73 (.fa 5 (.tmp 10))),
   (oo 74 (.ld (.tmp 73) (some 2))),
   (oo 75 (.call n_rr19_Row [(.tmp 68), (.tmp 70), (.tmp 72), (.tmp 74)])),
   (oo 67 (.mov (.tmp 75))),
   (oo 76 (.ext 0 (.tmp 67))),
   (oo 77 (.ext 1 (.tmp 67))),
   (oo 13 (.mov (.tmp 76))),
   (oo 14 (.mov (.tmp 77)))]
@[simp] def rl19_OrderTells_s2 : VT :=
  .op (og 104 98 false (.call n_order_Book_Chain [(.tmp 99), (.tmp 101), (.tmp 103)])) <|
  .op (og 105 98 false (.ld (.tmp 2) (some 3))) <|
  .op (og 107 98 false (.ld (.tmp 106) none)) <|
  .op (og 109 98 false (.ld (.tmp 108) (some 3))) <|
  .op (og 110 98 false (.call n_rr19_Chain [(.tmp 105), (.tmp 107), (.tmp 109)])) <|
  .op (og 111 98 false (.call n_rr19_Versions [(.tmp 104), (.tmp 110)])) <|
  .op (og 112 98 false (.un .not (.tmp 111))) <|
  .op (oo 113 (.pick (.tmp 98) (.const (kb true)) (.tmp 112))) <|
  .done
@[simp] def rl19_OrderTells_s3 : VT :=
  .op (og 104 98 false (.call n_order_Book_Chain [(.tmp 99), (.tmp 101), (.tmp 103)])) <|
  .op (og 107 98 false (.ld (.tmp 106) none)) <|
  .op (og 109 98 false (.ld (.tmp 108) (some 3))) <|
  .op (og 110 98 false (.call n_rr19_Chain [(.tmp 105), (.tmp 107), (.tmp 109)])) <|
  .op (og 111 98 false (.call n_rr19_Versions [(.tmp 104), (.tmp 110)])) <|
  .op (og 112 98 false (.un .not (.tmp 111))) <|
  .op (oo 113 (.pick (.tmp 98) (.const (kb true)) (.tmp 112))) <|
  .done
@[simp] def rl19_OrderTells_s4 : VT :=
  .op (og 104 98 false (.call n_order_Book_Chain [(.tmp 99), (.tmp 101), (.tmp 103)])) <|
  .op (og 109 98 false (.ld (.tmp 108) (some 3))) <|
  .op (og 110 98 false (.call n_rr19_Chain [(.tmp 105), (.tmp 107), (.tmp 109)])) <|
  .op (og 111 98 false (.call n_rr19_Versions [(.tmp 104), (.tmp 110)])) <|
  .op (og 112 98 false (.un .not (.tmp 111))) <|
  .op (oo 113 (.pick (.tmp 98) (.const (kb true)) (.tmp 112))) <|
  .done
@[simp] def rl19_OrderTells_s5 : VT :=
  .op (og 109 98 false (.ld (.tmp 108) (some 3))) <|
  .op (og 104 98 false (.call n_order_Book_Chain [(.tmp 99), (.tmp 101), (.tmp 103)])) <|
  .op (og 110 98 false (.call n_rr19_Chain [(.tmp 105), (.tmp 107), (.tmp 109)])) <|
  .op (og 111 98 false (.call n_rr19_Versions [(.tmp 104), (.tmp 110)])) <|
  .op (og 112 98 false (.un .not (.tmp 111))) <|
  .op (oo 113 (.pick (.tmp 98) (.const (kb true)) (.tmp 112))) <|
  .done
@[simp] def rl19_OrderTells_s6 : VT :=
  .op (og 107 98 false (.ld (.tmp 106) none)) <|
  .alt (rl19_OrderTells_s4) (rl19_OrderTells_s5)
@[simp] def rl19_OrderTells_s7 : VT :=
  .op (og 104 98 false (.call n_order_Book_Chain [(.tmp 99), (.tmp 101), (.tmp 103)])) <|
  .op (og 107 98 false (.ld (.tmp 106) none)) <|
  .op (og 110 98 false (.call n_rr19_Chain [(.tmp 105), (.tmp 107), (.tmp 109)])) <|
  .op (og 111 98 false (.call n_rr19_Versions [(.tmp 104), (.tmp 110)])) <|
  .op (og 112 98 false (.un .not (.tmp 111))) <|
  .op (oo 113 (.pick (.tmp 98) (.const (kb true)) (.tmp 112))) <|
  .done
@[simp] def rl19_OrderTells_s8 : VT :=
  .op (og 107 98 false (.ld (.tmp 106) none)) <|
  .op (og 104 98 false (.call n_order_Book_Chain [(.tmp 99), (.tmp 101), (.tmp 103)])) <|
  .op (og 110 98 false (.call n_rr19_Chain [(.tmp 105), (.tmp 107), (.tmp 109)])) <|
  .op (og 111 98 false (.call n_rr19_Versions [(.tmp 104), (.tmp 110)])) <|
  .op (og 112 98 false (.un .not (.tmp 111))) <|
  .op (oo 113 (.pick (.tmp 98) (.const (kb true)) (.tmp 112))) <|
  .done
@[simp] def rl19_OrderTells_s9 : VT :=
  .op (og 109 98 false (.ld (.tmp 108) (some 3))) <|
  .alt (rl19_OrderTells_s7) (rl19_OrderTells_s8)
@[simp] def rl19_OrderTells_s10 : VT :=
  .alt (rl19_OrderTells_s6) (rl19_OrderTells_s9)
@[simp] def rl19_OrderTells_s11 : VT :=
  .op (og 105 98 false (.ld (.tmp 2) (some 3))) <|
  .alt (rl19_OrderTells_s3) (rl19_OrderTells_s10)
@[simp] def rl19_OrderTells_s12 : VT :=
  .op (og 104 98 false (.call n_order_Book_Chain [(.tmp 99), (.tmp 101), (.tmp 103)])) <|
  .op (og 105 98 false (.ld (.tmp 2) (some 3))) <|
  .op (og 109 98 false (.ld (.tmp 108) (some 3))) <|
  .op (og 110 98 false (.call n_rr19_Chain [(.tmp 105), (.tmp 107), (.tmp 109)])) <|
  .op (og 111 98 false (.call n_rr19_Versions [(.tmp 104), (.tmp 110)])) <|
  .op (og 112 98 false (.un .not (.tmp 111))) <|
  .op (oo 113 (.pick (.tmp 98) (.const (kb true)) (.tmp 112))) <|
  .done
@[simp] def rl19_OrderTells_s13 : VT :=
  .op (og 105 98 false (.ld (.tmp 2) (some 3))) <|
  .alt (rl19_OrderTells_s4) (rl19_OrderTells_s5)
@[simp] def rl19_OrderTells_s14 : VT :=
  .op (og 104 98 false (.call n_order_Book_Chain [(.tmp 99), (.tmp 101), (.tmp 103)])) <|
  .op (og 105 98 false (.ld (.tmp 2) (some 3))) <|
  .op (og 110 98 false (.call n_rr19_Chain [(.tmp 105), (.tmp 107), (.tmp 109)])) <|
  .op (og 111 98 false (.call n_rr19_Versions [(.tmp 104), (.tmp 110)])) <|
  .op (og 112 98 false (.un .not (.tmp 111))) <|
  .op (oo 113 (.pick (.tmp 98) (.const (kb true)) (.tmp 112))) <|
  .done
@[simp] def rl19_OrderTells_s15 : VT :=
  .op (og 105 98 false (.ld (.tmp 2) (some 3))) <|
  .op (og 104 98 false (.call n_order_Book_Chain [(.tmp 99), (.tmp 101), (.tmp 103)])) <|
  .op (og 110 98 false (.call n_rr19_Chain [(.tmp 105), (.tmp 107), (.tmp 109)])) <|
  .op (og 111 98 false (.call n_rr19_Versions [(.tmp 104), (.tmp 110)])) <|
  .op (og 112 98 false (.un .not (.tmp 111))) <|
  .op (oo 113 (.pick (.tmp 98) (.const (kb true)) (.tmp 112))) <|
  .done
@[simp] def rl19_OrderTells_s16 : VT :=
  .op (og 109 98 false (.ld (.tmp 108) (some 3))) <|
  .alt (rl19_OrderTells_s14) (rl19_OrderTells_s15)
@[simp] def rl19_OrderTells_s17 : VT :=
  .alt (rl19_OrderTells_s13) (rl19_OrderTells_s16)
@[simp] def rl19_OrderTells_s18 : VT :=
  .op (og 107 98 false (.ld (.tmp 106) none)) <|
  .alt (rl19_OrderTells_s12) (rl19_OrderTells_s17)
@[simp] def rl19_OrderTells_s19 : VT :=
  .op (og 104 98 false (.call n_order_Book_Chain [(.tmp 99), (.tmp 101), (.tmp 103)])) <|
  .op (og 105 98 false (.ld (.tmp 2) (some 3))) <|
  .op (og 107 98 false (.ld (.tmp 106) none)) <|
  .op (og 110 98 false (.call n_rr19_Chain [(.tmp 105), (.tmp 107), (.tmp 109)])) <|
  .op (og 111 98 false (.call n_rr19_Versions [(.tmp 104), (.tmp 110)])) <|
  .op (og 112 98 false (.un .not (.tmp 111))) <|
  .op (oo 113 (.pick (.tmp 98) (.const (kb true)) (.tmp 112))) <|
  .done
@[simp] def rl19_OrderTells_s20 : VT :=
  .op (og 105 98 false (.ld (.tmp 2) (some 3))) <|
  .alt (rl19_OrderTells_s7) (rl19_OrderTells_s8)
@[simp] def rl19_OrderTells_s21 : VT :=
  .op (og 107 98 false (.ld (.tmp 106) none)) <|
  .alt (rl19_OrderTells_s14) (rl19_OrderTells_s15)
@[simp] def rl19_OrderTells_s22 : VT :=
  .alt (rl19_OrderTells_s20) (rl19_OrderTells_s21)
@[simp] def rl19_OrderTells_s23 : VT :=
  .op (og 109 98 false (.ld (.tmp 108) (some 3))) <|
  .alt (rl19_OrderTells_s19) (rl19_OrderTells_s22)
@[simp] def rl19_OrderTells_s24 : VT :=
  .alt (rl19_OrderTells_s18) (rl19_OrderTells_s23)
@[simp] def rl19_OrderTells_s25 : VT :=
  .alt (rl19_OrderTells_s11) (rl19_OrderTells_s24)
@[simp] def rl19_OrderTells_s26 : VT :=
  .op (og 91 87 false (.call n_order_Book_Level [(.tmp 88), (.tmp 90)])) <|
  .op (og 92 87 false (.ld (.tmp 2) (some 3))) <|
  .op (og 94 87 false (.ld (.tmp 93) none)) <|
  .op (og 95 87 false (.call n_rr19_Level [(.tmp 92), (.tmp 94)])) <|
  .op (og 96 87 false (.bin .neq (.tmp 91) (.tmp 95))) <|
  .op (oo 97 (.pick (.tmp 87) (.const (kb true)) (.tmp 96))) <|
  .op (oo 98 (.mov (.tmp 97))) <|
  .op (og 99 98 false (.mov (.tmp 7))) <|
  .op (og 100 98 false (.fa 1 (.tmp 10))) <|
  .op (og 101 98 false (.ld (.tmp 100) none)) <|
  .op (og 102 98 false (.fa 2 (.tmp 10))) <|
  .op (og 103 98 false (.ld (.tmp 102) (some 3))) <|
  .op (og 106 98 false (.fa 1 (.tmp 10))) <|
  .op (og 108 98 false (.fa 2 (.tmp 10))) <|
  .alt (rl19_OrderTells_s2) (rl19_OrderTells_s25)
@[simp] def rl19_OrderTells_s27 : VT :=
  .op (og 91 87 false (.call n_order_Book_Level [(.tmp 88), (.tmp 90)])) <|
  .op (og 94 87 false (.ld (.tmp 93) none)) <|
  .op (og 95 87 false (.call n_rr19_Level [(.tmp 92), (.tmp 94)])) <|
  .op (og 96 87 false (.bin .neq (.tmp 91) (.tmp 95))) <|
  .op (oo 97 (.pick (.tmp 87) (.const (kb true)) (.tmp 96))) <|
  .op (oo 98 (.mov (.tmp 97))) <|
  .op (og 99 98 false (.mov (.tmp 7))) <|
  .op (og 100 98 false (.fa 1 (.tmp 10))) <|
  .op (og 101 98 false (.ld (.tmp 100) none)) <|
  .op (og 102 98 false (.fa 2 (.tmp 10))) <|
  .op (og 103 98 false (.ld (.tmp 102) (some 3))) <|
  .op (og 106 98 false (.fa 1 (.tmp 10))) <|
  .op (og 108 98 false (.fa 2 (.tmp 10))) <|
  .alt (rl19_OrderTells_s2) (rl19_OrderTells_s25)
@[simp] def rl19_OrderTells_s28 : VT :=
  .op (og 94 87 false (.ld (.tmp 93) none)) <|
  .op (og 91 87 false (.call n_order_Book_Level [(.tmp 88), (.tmp 90)])) <|
  .op (og 95 87 false (.call n_rr19_Level [(.tmp 92), (.tmp 94)])) <|
  .op (og 96 87 false (.bin .neq (.tmp 91) (.tmp 95))) <|
  .op (oo 97 (.pick (.tmp 87) (.const (kb true)) (.tmp 96))) <|
  .op (oo 98 (.mov (.tmp 97))) <|
  .op (og 99 98 false (.mov (.tmp 7))) <|
  .op (og 100 98 false (.fa 1 (.tmp 10))) <|
  .op (og 101 98 false (.ld (.tmp 100) none)) <|
  .op (og 102 98 false (.fa 2 (.tmp 10))) <|
  .op (og 103 98 false (.ld (.tmp 102) (some 3))) <|
  .op (og 106 98 false (.fa 1 (.tmp 10))) <|
  .op (og 108 98 false (.fa 2 (.tmp 10))) <|
  .alt (rl19_OrderTells_s2) (rl19_OrderTells_s25)
@[simp] def rl19_OrderTells_s29 : VT :=
  .op (og 92 87 false (.ld (.tmp 2) (some 3))) <|
  .alt (rl19_OrderTells_s27) (rl19_OrderTells_s28)
@[simp] def rl19_OrderTells_s30 : VT :=
  .op (og 91 87 false (.call n_order_Book_Level [(.tmp 88), (.tmp 90)])) <|
  .op (og 92 87 false (.ld (.tmp 2) (some 3))) <|
  .op (og 95 87 false (.call n_rr19_Level [(.tmp 92), (.tmp 94)])) <|
  .op (og 96 87 false (.bin .neq (.tmp 91) (.tmp 95))) <|
  .op (oo 97 (.pick (.tmp 87) (.const (kb true)) (.tmp 96))) <|
  .op (oo 98 (.mov (.tmp 97))) <|
  .op (og 99 98 false (.mov (.tmp 7))) <|
  .op (og 100 98 false (.fa 1 (.tmp 10))) <|
  .op (og 101 98 false (.ld (.tmp 100) none)) <|
  .op (og 102 98 false (.fa 2 (.tmp 10))) <|
  .op (og 103 98 false (.ld (.tmp 102) (some 3))) <|
  .op (og 106 98 false (.fa 1 (.tmp 10))) <|
  .op (og 108 98 false (.fa 2 (.tmp 10))) <|
  .alt (rl19_OrderTells_s2) (rl19_OrderTells_s25)
@[simp] def rl19_OrderTells_s31 : VT :=
  .op (og 92 87 false (.ld (.tmp 2) (some 3))) <|
  .op (og 91 87 false (.call n_order_Book_Level [(.tmp 88), (.tmp 90)])) <|
  .op (og 95 87 false (.call n_rr19_Level [(.tmp 92), (.tmp 94)])) <|
  .op (og 96 87 false (.bin .neq (.tmp 91) (.tmp 95))) <|
  .op (oo 97 (.pick (.tmp 87) (.const (kb true)) (.tmp 96))) <|
  .op (oo 98 (.mov (.tmp 97))) <|
  .op (og 99 98 false (.mov (.tmp 7))) <|
  .op (og 100 98 false (.fa 1 (.tmp 10))) <|
  .op (og 101 98 false (.ld (.tmp 100) none)) <|
  .op (og 102 98 false (.fa 2 (.tmp 10))) <|
  .op (og 103 98 false (.ld (.tmp 102) (some 3))) <|
  .op (og 106 98 false (.fa 1 (.tmp 10))) <|
  .op (og 108 98 false (.fa 2 (.tmp 10))) <|
  .alt (rl19_OrderTells_s2) (rl19_OrderTells_s25)
@[simp] def rl19_OrderTells_s32 : VT :=
  .op (og 94 87 false (.ld (.tmp 93) none)) <|
  .alt (rl19_OrderTells_s30) (rl19_OrderTells_s31)
@[simp] def rl19_OrderTells_s33 : VT :=
  .alt (rl19_OrderTells_s29) (rl19_OrderTells_s32)
@[simp] def rl19_OrderTells_t22 : VT :=
  .op (oo 78 (.mov (.tmp 12))) <|
  .op (oo 79 (.mov (.tmp 14))) <|
  .op (oo 80 (.beq true (.tmp 78) (.tmp 79))) <|
  .op (oo 81 (.mov (.tmp 80))) <|
  .op (og 82 81 false (.mov (.tmp 11))) <|
  .op (og 83 81 false (.mov (.tmp 13))) <|
  .op (og 84 81 false (.call n_rr02_Same [(.tmp 82), (.tmp 83)])) <|
  .op (og 85 81 false (.un .not (.tmp 84))) <|
  .op (oo 86 (.pick (.tmp 81) (.const (kb true)) (.tmp 85))) <|
  .op (oo 87 (.mov (.tmp 86))) <|
  .op (og 88 87 false (.mov (.tmp 7))) <|
  .op (og 89 87 false (.fa 0 (.tmp 10))) <|
  .op (og 90 87 false (.ld (.tmp 89) none)) <|
  .op (og 93 87 false (.fa 0 (.tmp 10))) <|
  .alt (rl19_OrderTells_s26) (rl19_OrderTells_s33)
@[simp] def rl19_OrderTells_r23 : List VOp :=
  [(oo 4 (.mov (.const (kb false))))]
@[simp] def rl19_OrderTells_s34 : VT :=
  .op (og 141 131 false (.call n_order_Book_Changes [(.tmp 132), (.tmp 134), (.tmp 136), (.tmp 138), (.tmp 140)])) <|
  .op (og 142 131 false (.ld (.tmp 2) (some 3))) <|
  .op (og 144 131 false (.ld (.tmp 143) none)) <|
  .op (og 146 131 false (.ld (.tmp 145) (some 3))) <|
  .op (og 148 131 false (.ld (.tmp 147) none)) <|
  .op (og 150 131 false (.ld (.tmp 149) (some 9))) <|
  .op (og 151 131 false (.call n_rr19_Changes [(.tmp 142), (.tmp 144), (.tmp 146), (.tmp 148), (.tmp 150)])) <|
  .op (og 152 131 false (.beq true (.tmp 141) (.tmp 151))) <|
  .op (oo 153 (.pick (.tmp 131) (.const (kb true)) (.tmp 152))) <|
  .done
@[simp] def rl19_OrderTells_s35 : VT :=
  .op (og 141 131 false (.call n_order_Book_Changes [(.tmp 132), (.tmp 134), (.tmp 136), (.tmp 138), (.tmp 140)])) <|
  .op (og 144 131 false (.ld (.tmp 143) none)) <|
  .op (og 146 131 false (.ld (.tmp 145) (some 3))) <|
  .op (og 148 131 false (.ld (.tmp 147) none)) <|
  .op (og 150 131 false (.ld (.tmp 149) (some 9))) <|
  .op (og 151 131 false (.call n_rr19_Changes [(.tmp 142), (.tmp 144), (.tmp 146), (.tmp 148), (.tmp 150)])) <|
  .op (og 152 131 false (.beq true (.tmp 141) (.tmp 151))) <|
  .op (oo 153 (.pick (.tmp 131) (.const (kb true)) (.tmp 152))) <|
  .done
@[simp] def rl19_OrderTells_s36 : VT :=
  .op (og 141 131 false (.call n_order_Book_Changes [(.tmp 132), (.tmp 134), (.tmp 136), (.tmp 138), (.tmp 140)])) <|
  .op (og 146 131 false (.ld (.tmp 145) (some 3))) <|
  .op (og 148 131 false (.ld (.tmp 147) none)) <|
  .op (og 150 131 false (.ld (.tmp 149) (some 9))) <|
  .op (og 151 131 false (.call n_rr19_Changes [(.tmp 142), (.tmp 144), (.tmp 146), (.tmp 148), (.tmp 150)])) <|
  .op (og 152 131 false (.beq true (.tmp 141) (.tmp 151))) <|
  .op (oo 153 (.pick (.tmp 131) (.const (kb true)) (.tmp 152))) <|
  .done
@[simp] def rl19_OrderTells_s37 : VT :=
  .op (og 141 131 false (.call n_order_Book_Changes [(.tmp 132), (.tmp 134), (.tmp 136), (.tmp 138), (.tmp 140)])) <|
  .op (og 148 131 false (.ld (.tmp 147) none)) <|
  .op (og 150 131 false (.ld (.tmp 149) (some 9))) <|
  .op (og 151 131 false (.call n_rr19_Changes [(.tmp 142), (.tmp 144), (.tmp 146), (.tmp 148), (.tmp 150)])) <|
  .op (og 152 131 false (.beq true (.tmp 141) (.tmp 151))) <|
  .op (oo 153 (.pick (.tmp 131) (.const (kb true)) (.tmp 152))) <|
  .done
@[simp] def rl19_OrderTells_s38 : VT :=
  .op (og 141 131 false (.call n_order_Book_Changes [(.tmp 132), (.tmp 134), (.tmp 136), (.tmp 138), (.tmp 140)])) <|
  .op (og 150 131 false (.ld (.tmp 149) (some 9))) <|
  .op (og 151 131 false (.call n_rr19_Changes [(.tmp 142), (.tmp 144), (.tmp 146), (.tmp 148), (.tmp 150)])) <|
  .op (og 152 131 false (.beq true (.tmp 141) (.tmp 151))) <|
  .op (oo 153 (.pick (.tmp 131) (.const (kb true)) (.tmp 152))) <|
  .done
@[simp] def rl19_OrderTells_s39 : VT :=
  .op (og 150 131 false (.ld (.tmp 149) (some 9))) <|
  .op (og 141 131 false (.call n_order_Book_Changes [(.tmp 132), (.tmp 134), (.tmp 136), (.tmp 138), (.tmp 140)])) <|
  .op (og 151 131 false (.call n_rr19_Changes [(.tmp 142), (.tmp 144), (.tmp 146), (.tmp 148), (.tmp 150)])) <|
  .op (og 152 131 false (.beq true (.tmp 141) (.tmp 151))) <|
  .op (oo 153 (.pick (.tmp 131) (.const (kb true)) (.tmp 152))) <|
  .done
@[simp] def rl19_OrderTells_s40 : VT :=
  .op (og 148 131 false (.ld (.tmp 147) none)) <|
  .alt (rl19_OrderTells_s38) (rl19_OrderTells_s39)
@[simp] def rl19_OrderTells_s41 : VT :=
  .op (og 141 131 false (.call n_order_Book_Changes [(.tmp 132), (.tmp 134), (.tmp 136), (.tmp 138), (.tmp 140)])) <|
  .op (og 148 131 false (.ld (.tmp 147) none)) <|
  .op (og 151 131 false (.call n_rr19_Changes [(.tmp 142), (.tmp 144), (.tmp 146), (.tmp 148), (.tmp 150)])) <|
  .op (og 152 131 false (.beq true (.tmp 141) (.tmp 151))) <|
  .op (oo 153 (.pick (.tmp 131) (.const (kb true)) (.tmp 152))) <|
  .done
@[simp] def rl19_OrderTells_s42 : VT :=
  .op (og 148 131 false (.ld (.tmp 147) none)) <|
  .op (og 141 131 false (.call n_order_Book_Changes [(.tmp 132), (.tmp 134), (.tmp 136), (.tmp 138), (.tmp 140)])) <|
  .op (og 151 131 false (.call n_rr19_Changes [(.tmp 142), (.tmp 144), (.tmp 146), (.tmp 148), (.tmp 150)])) <|
  .op (og 152 131 false (.beq true (.tmp 141) (.tmp 151))) <|
  .op (oo 153 (.pick (.tmp 131) (.const (kb true)) (.tmp 152))) <|
  .done
@[simp] def rl19_OrderTells_s43 : VT :=
  .op (og 150 131 false (.ld (.tmp 149) (some 9))) <|
  .alt (rl19_OrderTells_s41) (rl19_OrderTells_s42)
@[simp] def rl19_OrderTells_s44 : VT :=
  .alt (rl19_OrderTells_s40) (rl19_OrderTells_s43)
@[simp] def rl19_OrderTells_s45 : VT :=
  .op (og 146 131 false (.ld (.tmp 145) (some 3))) <|
  .alt (rl19_OrderTells_s37) (rl19_OrderTells_s44)
@[simp] def rl19_OrderTells_s46 : VT :=
  .op (og 141 131 false (.call n_order_Book_Changes [(.tmp 132), (.tmp 134), (.tmp 136), (.tmp 138), (.tmp 140)])) <|
  .op (og 146 131 false (.ld (.tmp 145) (some 3))) <|
  .op (og 150 131 false (.ld (.tmp 149) (some 9))) <|
  .op (og 151 131 false (.call n_rr19_Changes [(.tmp 142), (.tmp 144), (.tmp 146), (.tmp 148), (.tmp 150)])) <|
  .op (og 152 131 false (.beq true (.tmp 141) (.tmp 151))) <|
  .op (oo 153 (.pick (.tmp 131) (.const (kb true)) (.tmp 152))) <|
  .done
@[simp] def rl19_OrderTells_s47 : VT :=
  .op (og 146 131 false (.ld (.tmp 145) (some 3))) <|
  .alt (rl19_OrderTells_s38) (rl19_OrderTells_s39)
@[simp] def rl19_OrderTells_s48 : VT :=
  .op (og 141 131 false (.call n_order_Book_Changes [(.tmp 132), (.tmp 134), (.tmp 136), (.tmp 138), (.tmp 140)])) <|
  .op (og 146 131 false (.ld (.tmp 145) (some 3))) <|
  .op (og 151 131 false (.call n_rr19_Changes [(.tmp 142), (.tmp 144), (.tmp 146), (.tmp 148), (.tmp 150)])) <|
  .op (og 152 131 false (.beq true (.tmp 141) (.tmp 151))) <|
  .op (oo 153 (.pick (.tmp 131) (.const (kb true)) (.tmp 152))) <|
  .done
@[simp] def rl19_OrderTells_s49 : VT :=
  .op (og 146 131 false (.ld (.tmp 145) (some 3))) <|
  .op (og 141 131 false (.call n_order_Book_Changes [(.tmp 132), (.tmp 134), (.tmp 136), (.tmp 138), (.tmp 140)])) <|
  .op (og 151 131 false (.call n_rr19_Changes [(.tmp 142), (.tmp 144), (.tmp 146), (.tmp 148), (.tmp 150)])) <|
  .op (og 152 131 false (.beq true (.tmp 141) (.tmp 151))) <|
  .op (oo 153 (.pick (.tmp 131) (.const (kb true)) (.tmp 152))) <|
  .done
@[simp] def rl19_OrderTells_s50 : VT :=
  .op (og 150 131 false (.ld (.tmp 149) (some 9))) <|
  .alt (rl19_OrderTells_s48) (rl19_OrderTells_s49)
@[simp] def rl19_OrderTells_s51 : VT :=
  .alt (rl19_OrderTells_s47) (rl19_OrderTells_s50)
@[simp] def rl19_OrderTells_s52 : VT :=
  .op (og 148 131 false (.ld (.tmp 147) none)) <|
  .alt (rl19_OrderTells_s46) (rl19_OrderTells_s51)
@[simp] def rl19_OrderTells_s53 : VT :=
  .op (og 141 131 false (.call n_order_Book_Changes [(.tmp 132), (.tmp 134), (.tmp 136), (.tmp 138), (.tmp 140)])) <|
  .op (og 146 131 false (.ld (.tmp 145) (some 3))) <|
  .op (og 148 131 false (.ld (.tmp 147) none)) <|
  .op (og 151 131 false (.call n_rr19_Changes [(.tmp 142), (.tmp 144), (.tmp 146), (.tmp 148), (.tmp 150)])) <|
  .op (og 152 131 false (.beq true (.tmp 141) (.tmp 151))) <|
  .op (oo 153 (.pick (.tmp 131) (.const (kb true)) (.tmp 152))) <|
  .done
@[simp] def rl19_OrderTells_s54 : VT :=
  .op (og 146 131 false (.ld (.tmp 145) (some 3))) <|
  .alt (rl19_OrderTells_s41) (rl19_OrderTells_s42)
@[simp] def rl19_OrderTells_s55 : VT :=
  .op (og 148 131 false (.ld (.tmp 147) none)) <|
  .alt (rl19_OrderTells_s48) (rl19_OrderTells_s49)
@[simp] def rl19_OrderTells_s56 : VT :=
  .alt (rl19_OrderTells_s54) (rl19_OrderTells_s55)
@[simp] def rl19_OrderTells_s57 : VT :=
  .op (og 150 131 false (.ld (.tmp 149) (some 9))) <|
  .alt (rl19_OrderTells_s53) (rl19_OrderTells_s56)
@[simp] def rl19_OrderTells_s58 : VT :=
  .alt (rl19_OrderTells_s52) (rl19_OrderTells_s57)
@[simp] def rl19_OrderTells_s59 : VT :=
  .alt (rl19_OrderTells_s45) (rl19_OrderTells_s58)
@[simp] def rl19_OrderTells_s60 : VT :=
  .op (og 144 131 false (.ld (.tmp 143) none)) <|
  .alt (rl19_OrderTells_s36) (rl19_OrderTells_s59)
@[simp] def rl19_OrderTells_s61 : VT :=
  .op (og 141 131 false (.call n_order_Book_Changes [(.tmp 132), (.tmp 134), (.tmp 136), (.tmp 138), (.tmp 140)])) <|
  .op (og 144 131 false (.ld (.tmp 143) none)) <|
  .op (og 148 131 false (.ld (.tmp 147) none)) <|
  .op (og 150 131 false (.ld (.tmp 149) (some 9))) <|
  .op (og 151 131 false (.call n_rr19_Changes [(.tmp 142), (.tmp 144), (.tmp 146), (.tmp 148), (.tmp 150)])) <|
  .op (og 152 131 false (.beq true (.tmp 141) (.tmp 151))) <|
  .op (oo 153 (.pick (.tmp 131) (.const (kb true)) (.tmp 152))) <|
  .done
@[simp] def rl19_OrderTells_s62 : VT :=
  .op (og 144 131 false (.ld (.tmp 143) none)) <|
  .alt (rl19_OrderTells_s37) (rl19_OrderTells_s44)
@[simp] def rl19_OrderTells_s63 : VT :=
  .op (og 141 131 false (.call n_order_Book_Changes [(.tmp 132), (.tmp 134), (.tmp 136), (.tmp 138), (.tmp 140)])) <|
  .op (og 144 131 false (.ld (.tmp 143) none)) <|
  .op (og 150 131 false (.ld (.tmp 149) (some 9))) <|
  .op (og 151 131 false (.call n_rr19_Changes [(.tmp 142), (.tmp 144), (.tmp 146), (.tmp 148), (.tmp 150)])) <|
  .op (og 152 131 false (.beq true (.tmp 141) (.tmp 151))) <|
  .op (oo 153 (.pick (.tmp 131) (.const (kb true)) (.tmp 152))) <|
  .done
@[simp] def rl19_OrderTells_s64 : VT :=
  .op (og 144 131 false (.ld (.tmp 143) none)) <|
  .alt (rl19_OrderTells_s38) (rl19_OrderTells_s39)
@[simp] def rl19_OrderTells_s65 : VT :=
  .op (og 141 131 false (.call n_order_Book_Changes [(.tmp 132), (.tmp 134), (.tmp 136), (.tmp 138), (.tmp 140)])) <|
  .op (og 144 131 false (.ld (.tmp 143) none)) <|
  .op (og 151 131 false (.call n_rr19_Changes [(.tmp 142), (.tmp 144), (.tmp 146), (.tmp 148), (.tmp 150)])) <|
  .op (og 152 131 false (.beq true (.tmp 141) (.tmp 151))) <|
  .op (oo 153 (.pick (.tmp 131) (.const (kb true)) (.tmp 152))) <|
  .done
@[simp] def rl19_OrderTells_s66 : VT :=
  .op (og 144 131 false (.ld (.tmp 143) none)) <|
  .op (og 141 131 false (.call n_order_Book_Changes [(.tmp 132), (.tmp 134), (.tmp 136), (.tmp 138), (.tmp 140)])) <|
  .op (og 151 131 false (.call n_rr19_Changes [(.tmp 142), (.tmp 144), (.tmp 146), (.tmp 148), (.tmp 150)])) <|
  .op (og 152 131 false (.beq true (.tmp 141) (.tmp 151))) <|
  .op (oo 153 (.pick (.tmp 131) (.const (kb true)) (.tmp 152))) <|
  .done
@[simp] def rl19_OrderTells_s67 : VT :=
  .op (og 150 131 false (.ld (.tmp 149) (some 9))) <|
  .alt (rl19_OrderTells_s65) (rl19_OrderTells_s66)
@[simp] def rl19_OrderTells_s68 : VT :=
  .alt (rl19_OrderTells_s64) (rl19_OrderTells_s67)
@[simp] def rl19_OrderTells_s69 : VT :=
  .op (og 148 131 false (.ld (.tmp 147) none)) <|
  .alt (rl19_OrderTells_s63) (rl19_OrderTells_s68)
@[simp] def rl19_OrderTells_s70 : VT :=
  .op (og 141 131 false (.call n_order_Book_Changes [(.tmp 132), (.tmp 134), (.tmp 136), (.tmp 138), (.tmp 140)])) <|
  .op (og 144 131 false (.ld (.tmp 143) none)) <|
  .op (og 148 131 false (.ld (.tmp 147) none)) <|
  .op (og 151 131 false (.call n_rr19_Changes [(.tmp 142), (.tmp 144), (.tmp 146), (.tmp 148), (.tmp 150)])) <|
  .op (og 152 131 false (.beq true (.tmp 141) (.tmp 151))) <|
  .op (oo 153 (.pick (.tmp 131) (.const (kb true)) (.tmp 152))) <|
  .done
@[simp] def rl19_OrderTells_s71 : VT :=
  .op (og 144 131 false (.ld (.tmp 143) none)) <|
  .alt (rl19_OrderTells_s41) (rl19_OrderTells_s42)
@[simp] def rl19_OrderTells_s72 : VT :=
  .op (og 148 131 false (.ld (.tmp 147) none)) <|
  .alt (rl19_OrderTells_s65) (rl19_OrderTells_s66)
@[simp] def rl19_OrderTells_s73 : VT :=
  .alt (rl19_OrderTells_s71) (rl19_OrderTells_s72)
@[simp] def rl19_OrderTells_s74 : VT :=
  .op (og 150 131 false (.ld (.tmp 149) (some 9))) <|
  .alt (rl19_OrderTells_s70) (rl19_OrderTells_s73)
@[simp] def rl19_OrderTells_s75 : VT :=
  .alt (rl19_OrderTells_s69) (rl19_OrderTells_s74)
@[simp] def rl19_OrderTells_s76 : VT :=
  .alt (rl19_OrderTells_s62) (rl19_OrderTells_s75)
@[simp] def rl19_OrderTells_s77 : VT :=
  .op (og 146 131 false (.ld (.tmp 145) (some 3))) <|
  .alt (rl19_OrderTells_s61) (rl19_OrderTells_s76)
@[simp] def rl19_OrderTells_s78 : VT :=
  .op (og 141 131 false (.call n_order_Book_Changes [(.tmp 132), (.tmp 134), (.tmp 136), (.tmp 138), (.tmp 140)])) <|
  .op (og 144 131 false (.ld (.tmp 143) none)) <|
  .op (og 146 131 false (.ld (.tmp 145) (some 3))) <|
  .op (og 150 131 false (.ld (.tmp 149) (some 9))) <|
  .op (og 151 131 false (.call n_rr19_Changes [(.tmp 142), (.tmp 144), (.tmp 146), (.tmp 148), (.tmp 150)])) <|
  .op (og 152 131 false (.beq true (.tmp 141) (.tmp 151))) <|
  .op (oo 153 (.pick (.tmp 131) (.const (kb true)) (.tmp 152))) <|
  .done
@[simp] def rl19_OrderTells_s79 : VT :=
  .op (og 144 131 false (.ld (.tmp 143) none)) <|
  .alt (rl19_OrderTells_s46) (rl19_OrderTells_s51)
@[simp] def rl19_OrderTells_s80 : VT :=
  .op (og 146 131 false (.ld (.tmp 145) (some 3))) <|
  .alt (rl19_OrderTells_s63) (rl19_OrderTells_s68)
@[simp] def rl19_OrderTells_s81 : VT :=
  .op (og 141 131 false (.call n_order_Book_Changes [(.tmp 132), (.tmp 134), (.tmp 136), (.tmp 138), (.tmp 140)])) <|
  .op (og 144 131 false (.ld (.tmp 143) none)) <|
  .op (og 146 131 false (.ld (.tmp 145) (some 3))) <|
  .op (og 151 131 false (.call n_rr19_Changes [(.tmp 142), (.tmp 144), (.tmp 146), (.tmp 148), (.tmp 150)])) <|
  .op (og 152 131 false (.beq true (.tmp 141) (.tmp 151))) <|
  .op (oo 153 (.pick (.tmp 131) (.const (kb true)) (.tmp 152))) <|
  .done
@[simp] def rl19_OrderTells_s82 : VT :=
  .op (og 144 131 false (.ld (.tmp 143) none)) <|
  .alt (rl19_OrderTells_s48) (rl19_OrderTells_s49)
@[simp] def rl19_OrderTells_s83 : VT :=
  .op (og 146 131 false (.ld (.tmp 145) (some 3))) <|
  .alt (rl19_OrderTells_s65) (rl19_OrderTells_s66)
@[simp] def rl19_OrderTells_s84 : VT :=
  .alt (rl19_OrderTells_s82) (rl19_OrderTells_s83)
@[simp] def rl19_OrderTells_s85 : VT :=
  .op (og 150 131 false (.ld (.tmp 149) (some 9))) <|
  .alt (rl19_OrderTells_s81) (rl19_OrderTells_s84)
@[simp] def rl19_OrderTells_s86 : VT :=
  .alt (rl19_OrderTells_s80) (rl19_OrderTells_s85)
@[simp] def rl19_OrderTells_s87 : VT :=
  .alt (rl19_OrderTells_s79) (rl19_OrderTells_s86)
@[simp] def rl19_OrderTells_s88 : VT :=
  .op (og 148 131 false (.ld (.tmp 147) none)) <|
  .alt (rl19_OrderTells_s78) (rl19_OrderTells_s87)
@[simp] def rl19_OrderTells_s89 : VT :=
  .op (og 141 131 false (.call n_order_Book_Changes [(.tmp 132), (.tmp 134), (.tmp 136), (.tmp 138), (.tmp 140)])) <|
  .op (og 144 131 false (.ld (.tmp 143) none)) <|
  .op (og 146 131 false (.ld (.tmp 145) (some 3))) <|
  .op (og 148 131 false (.ld (.tmp 147) none)) <|
  .op (og 151 131 false (.call n_rr19_Changes [(.tmp 142), (.tmp 144), (.tmp 146), (.tmp 148), (.tmp 150)])) <|
  .op (og 152 131 false (.beq true (.tmp 141) (.tmp 151))) <|
  .op (oo 153 (.pick (.tmp 131) (.const (kb true)) (.tmp 152))) <|
  .done
@[simp] def rl19_OrderTells_s90 : VT :=
  .op (og 144 131 false (.ld (.tmp 143) none)) <|
  .alt (rl19_OrderTells_s53) (rl19_OrderTells_s56)
@[simp] def rl19_OrderTells_s91 : VT :=
  .op (og 146 131 false (.ld (.tmp 145) (some 3))) <|
  .alt (rl19_OrderTells_s70) (rl19_OrderTells_s73)
@[simp] def rl19_OrderTells_s92 : VT :=
  .op (og 148 131 false (.ld (.tmp 147) none)) <|
  .alt (rl19_OrderTells_s81) (rl19_OrderTells_s84)
@[simp] def rl19_OrderTells_s93 : VT :=
  .alt (rl19_OrderTells_s91) (rl19_OrderTells_s92)
@[simp] def rl19_OrderTells_s94 : VT :=
  .alt (rl19_OrderTells_s90) (rl19_OrderTells_s93)
@[simp] def rl19_OrderTells_s95 : VT :=
  .op (og 150 131 false (.ld (.tmp 149) (some 9))) <|
  .alt (rl19_OrderTells_s89) (rl19_OrderTells_s94)
@[simp] def rl19_OrderTells_s96 : VT :=
  .alt (rl19_OrderTells_s88) (rl19_OrderTells_s95)
@[simp] def rl19_OrderTells_s97 : VT :=
  .alt (rl19_OrderTells_s77) (rl19_OrderTells_s96)
@[simp] def rl19_OrderTells_s98 : VT :=
  .alt (rl19_OrderTells_s60) (rl19_OrderTells_s97)
@[simp] def rl19_OrderTells_s99 : VT :=
  .op (og 142 131 false (.ld (.tmp 2) (some 3))) <|
  .alt (rl19_OrderTells_s35) (rl19_OrderTells_s98)
@[simp] def rl19_OrderTells_s100 : VT :=
  .op (og 141 131 false (.call n_order_Book_Changes [(.tmp 132), (.tmp 134), (.tmp 136), (.tmp 138), (.tmp 140)])) <|
  .op (og 142 131 false (.ld (.tmp 2) (some 3))) <|
  .op (og 146 131 false (.ld (.tmp 145) (some 3))) <|
  .op (og 148 131 false (.ld (.tmp 147) none)) <|
  .op (og 150 131 false (.ld (.tmp 149) (some 9))) <|
  .op (og 151 131 false (.call n_rr19_Changes [(.tmp 142), (.tmp 144), (.tmp 146), (.tmp 148), (.tmp 150)])) <|
  .op (og 152 131 false (.beq true (.tmp 141) (.tmp 151))) <|
  .op (oo 153 (.pick (.tmp 131) (.const (kb true)) (.tmp 152))) <|
  .done
@[simp] def rl19_OrderTells_s101 : VT :=
  .op (og 142 131 false (.ld (.tmp 2) (some 3))) <|
  .alt (rl19_OrderTells_s36) (rl19_OrderTells_s59)
@[simp] def rl19_OrderTells_s102 : VT :=
  .op (og 141 131 false (.call n_order_Book_Changes [(.tmp 132), (.tmp 134), (.tmp 136), (.tmp 138), (.tmp 140)])) <|
  .op (og 142 131 false (.ld (.tmp 2) (some 3))) <|
  .op (og 148 131 false (.ld (.tmp 147) none)) <|
  .op (og 150 131 false (.ld (.tmp 149) (some 9))) <|
  .op (og 151 131 false (.call n_rr19_Changes [(.tmp 142), (.tmp 144), (.tmp 146), (.tmp 148), (.tmp 150)])) <|
  .op (og 152 131 false (.beq true (.tmp 141) (.tmp 151))) <|
  .op (oo 153 (.pick (.tmp 131) (.const (kb true)) (.tmp 152))) <|
  .done
@[simp] def rl19_OrderTells_s103 : VT :=
  .op (og 142 131 false (.ld (.tmp 2) (some 3))) <|
  .alt (rl19_OrderTells_s37) (rl19_OrderTells_s44)
@[simp] def rl19_OrderTells_s104 : VT :=
  .op (og 141 131 false (.call n_order_Book_Changes [(.tmp 132), (.tmp 134), (.tmp 136), (.tmp 138), (.tmp 140)])) <|
  .op (og 142 131 false (.ld (.tmp 2) (some 3))) <|
  .op (og 150 131 false (.ld (.tmp 149) (some 9))) <|
  .op (og 151 131 false (.call n_rr19_Changes [(.tmp 142), (.tmp 144), (.tmp 146), (.tmp 148), (.tmp 150)])) <|
  .op (og 152 131 false (.beq true (.tmp 141) (.tmp 151))) <|
  .op (oo 153 (.pick (.tmp 131) (.const (kb true)) (.tmp 152))) <|
  .done
@[simp] def rl19_OrderTells_s105 : VT :=
  .op (og 142 131 false (.ld (.tmp 2) (some 3))) <|
  .alt (rl19_OrderTells_s38) (rl19_OrderTells_s39)
@[simp] def rl19_OrderTells_s106 : VT :=
  .op (og 141 131 false (.call n_order_Book_Changes [(.tmp 132), (.tmp 134), (.tmp 136), (.tmp 138), (.tmp 140)])) <|
  .op (og 142 131 false (.ld (.tmp 2) (some 3))) <|
  .op (og 151 131 false (.call n_rr19_Changes [(.tmp 142), (.tmp 144), (.tmp 146), (.tmp 148), (.tmp 150)])) <|
  .op (og 152 131 false (.beq true (.tmp 141) (.tmp 151))) <|
  .op (oo 153 (.pick (.tmp 131) (.const (kb true)) (.tmp 152))) <|
  .done
@[simp] def rl19_OrderTells_s107 : VT :=
  .op (og 142 131 false (.ld (.tmp 2) (some 3))) <|
  .op (og 141 131 false (.call n_order_Book_Changes [(.tmp 132), (.tmp 134), (.tmp 136), (.tmp 138), (.tmp 140)])) <|
  .op (og 151 131 false (.call n_rr19_Changes [(.tmp 142), (.tmp 144), (.tmp 146), (.tmp 148), (.tmp 150)])) <|
  .op (og 152 131 false (.beq true (.tmp 141) (.tmp 151))) <|
  .op (oo 153 (.pick (.tmp 131) (.const (kb true)) (.tmp 152))) <|
  .done
@[simp] def rl19_OrderTells_s108 : VT :=
  .op (og 150 131 false (.ld (.tmp 149) (some 9))) <|
  .alt (rl19_OrderTells_s106) (rl19_OrderTells_s107)
@[simp] def rl19_OrderTells_s109 : VT :=
  .alt (rl19_OrderTells_s105) (rl19_OrderTells_s108)
@[simp] def rl19_OrderTells_s110 : VT :=
  .op (og 148 131 false (.ld (.tmp 147) none)) <|
  .alt (rl19_OrderTells_s104) (rl19_OrderTells_s109)
@[simp] def rl19_OrderTells_s111 : VT :=
  .op (og 141 131 false (.call n_order_Book_Changes [(.tmp 132), (.tmp 134), (.tmp 136), (.tmp 138), (.tmp 140)])) <|
  .op (og 142 131 false (.ld (.tmp 2) (some 3))) <|
  .op (og 148 131 false (.ld (.tmp 147) none)) <|
  .op (og 151 131 false (.call n_rr19_Changes [(.tmp 142), (.tmp 144), (.tmp 146), (.tmp 148), (.tmp 150)])) <|
  .op (og 152 131 false (.beq true (.tmp 141) (.tmp 151))) <|
  .op (oo 153 (.pick (.tmp 131) (.const (kb true)) (.tmp 152))) <|
  .done
@[simp] def rl19_OrderTells_s112 : VT :=
  .op (og 142 131 false (.ld (.tmp 2) (some 3))) <|
  .alt (rl19_OrderTells_s41) (rl19_OrderTells_s42)
@[simp] def rl19_OrderTells_s113 : VT :=
  .op (og 148 131 false (.ld (.tmp 147) none)) <|
  .alt (rl19_OrderTells_s106) (rl19_OrderTells_s107)
@[simp] def rl19_OrderTells_s114 : VT :=
  .alt (rl19_OrderTells_s112) (rl19_OrderTells_s113)
@[simp] def rl19_OrderTells_s115 : VT :=
  .op (og 150 131 false (.ld (.tmp 149) (some 9))) <|
  .alt (rl19_OrderTells_s111) (rl19_OrderTells_s114)
@[simp] def rl19_OrderTells_s116 : VT :=
  .alt (rl19_OrderTells_s110) (rl19_OrderTells_s115)
@[simp] def rl19_OrderTells_s117 : VT :=
  .alt (rl19_OrderTells_s103) (rl19_OrderTells_s116)
@[simp] def rl19_OrderTells_s118 : VT :=
  .op (og 146 131 false (.ld (.tmp 145) (some 3))) <|
  .alt (rl19_OrderTells_s102) (rl19_OrderTells_s117)
@[simp] def rl19_OrderTells_s119 : VT :=
  .op (og 141 131 false (.call n_order_Book_Changes [(.tmp 132), (.tmp 134), (.tmp 136), (.tmp 138), (.tmp 140)])) <|
  .op (og 142 131 false (.ld (.tmp 2) (some 3))) <|
  .op (og 146 131 false (.ld (.tmp 145) (some 3))) <|
  .op (og 150 131 false (.ld (.tmp 149) (some 9))) <|
  .op (og 151 131 false (.call n_rr19_Changes [(.tmp 142), (.tmp 144), (.tmp 146), (.tmp 148), (.tmp 150)])) <|
  .op (og 152 131 false (.beq true (.tmp 141) (.tmp 151))) <|
  .op (oo 153 (.pick (.tmp 131) (.const (kb true)) (.tmp 152))) <|
  .done
@[simp] def rl19_OrderTells_s120 : VT :=
  .op (og 142 131 false (.ld (.tmp 2) (some 3))) <|
  .alt (rl19_OrderTells_s46) (rl19_OrderTells_s51)
@[simp] def rl19_OrderTells_s121 : VT :=
  .op (og 146 131 false (.ld (.tmp 145) (some 3))) <|
  .alt (rl19_OrderTells_s104) (rl19_OrderTells_s109)
@[simp] def rl19_OrderTells_s122 : VT :=
  .op (og 141 131 false (.call n_order_Book_Changes [(.tmp 132), (.tmp 134), (.tmp 136), (.tmp 138), (.tmp 140)])) <|
  .op (og 142 131 false (.ld (.tmp 2) (some 3))) <|
  .op (og 146 131 false (.ld (.tmp 145) (some 3))) <|
  .op (og 151 131 false (.call n_rr19_Changes [(.tmp 142), (.tmp 144), (.tmp 146), (.tmp 148), (.tmp 150)])) <|
  .op (og 152 131 false (.beq true (.tmp 141) (.tmp 151))) <|
  .op (oo 153 (.pick (.tmp 131) (.const (kb true)) (.tmp 152))) <|
  .done
@[simp] def rl19_OrderTells_s123 : VT :=
  .op (og 142 131 false (.ld (.tmp 2) (some 3))) <|
  .alt (rl19_OrderTells_s48) (rl19_OrderTells_s49)
@[simp] def rl19_OrderTells_s124 : VT :=
  .op (og 146 131 false (.ld (.tmp 145) (some 3))) <|
  .alt (rl19_OrderTells_s106) (rl19_OrderTells_s107)
@[simp] def rl19_OrderTells_s125 : VT :=
  .alt (rl19_OrderTells_s123) (rl19_OrderTells_s124)
@[simp] def rl19_OrderTells_s126 : VT :=
  .op (og 150 131 false (.ld (.tmp 149) (some 9))) <|
  .alt (rl19_OrderTells_s122) (rl19_OrderTells_s125)
@[simp] def rl19_OrderTells_s127 : VT :=
  .alt (rl19_OrderTells_s121) (rl19_OrderTells_s126)
@[simp] def rl19_OrderTells_s128 : VT :=
  .alt (rl19_OrderTells_s120) (rl19_OrderTells_s127)
@[simp] def rl19_OrderTells_s129 : VT :=
  .op (og 148 131 false (.ld (.tmp 147) none)) <|
  .alt (rl19_OrderTells_s119) (rl19_OrderTells_s128)
@[simp] def rl19_OrderTells_s130 : VT :=
  .op (og 141 131 false (.call n_order_Book_Changes [(.tmp 132), (.tmp 134), (.tmp 136), (.tmp 138), (.tmp 140)])) <|
  .op (og 142 131 false (.ld (.tmp 2) (some 3))) <|
  .op (og 146 131 false (.ld (.tmp 145) (some 3))) <|
  .op (og 148 131 false (.ld (.tmp 147) none)) <|
  .op (og 151 131 false (.call n_rr19_Changes [(.tmp 142), (.tmp 144), (.tmp 146), (.tmp 148), (.tmp 150)])) <|
  .op (og 152 131 false (.beq true (.tmp 141) (.tmp 151))) <|
  .op (oo 153 (.pick (.tmp 131) (.const (kb true)) (.tmp 152))) <|
  .done
@[simp] def rl19_OrderTells_s131 : VT :=
  .op (og 142 131 false (.ld (.tmp 2) (some 3))) <|
  .alt (rl19_OrderTells_s53) (rl19_OrderTells_s56)
@[simp] def rl19_OrderTells_s132 : VT :=
  .op (og 146 131 false (.ld (.tmp 145) (some 3))) <|
  .alt (rl19_OrderTells_s111) (rl19_OrderTells_s114)
@[simp] def rl19_OrderTells_s133 : VT :=
  .op (og 148 131 false (.ld (.tmp 147) none)) <|
  .alt (rl19_OrderTells_s122) (rl19_OrderTells_s125)
@[simp] def rl19_OrderTells_s134 : VT :=
  .alt (rl19_OrderTells_s132) (rl19_OrderTells_s133)
@[simp] def rl19_OrderTells_s135 : VT :=
  .alt (rl19_OrderTells_s131) (rl19_OrderTells_s134)
@[simp] def rl19_OrderTells_s136 : VT :=
  .op (og 150 131 false (.ld (.tmp 149) (some 9))) <|
  .alt (rl19_OrderTells_s130) (rl19_OrderTells_s135)
@[simp] def rl19_OrderTells_s137 : VT :=
  .alt (rl19_OrderTells_s129) (rl19_OrderTells_s136)
@[simp] def rl19_OrderTells_s138 : VT :=
  .alt (rl19_OrderTells_s118) (rl19_OrderTells_s137)
@[simp] def rl19_OrderTells_s139 : VT :=
  .alt (rl19_OrderTells_s101) (rl19_OrderTells_s138)
@[simp] def rl19_OrderTells_s140 : VT :=
  .op (og 144 131 false (.ld (.tmp 143) none)) <|
  .alt (rl19_OrderTells_s100) (rl19_OrderTells_s139)
@[simp] def rl19_OrderTells_s141 : VT :=
  .op (og 141 131 false (.call n_order_Book_Changes [(.tmp 132), (.tmp 134), (.tmp 136), (.tmp 138), (.tmp 140)])) <|
  .op (og 142 131 false (.ld (.tmp 2) (some 3))) <|
  .op (og 144 131 false (.ld (.tmp 143) none)) <|
  .op (og 148 131 false (.ld (.tmp 147) none)) <|
  .op (og 150 131 false (.ld (.tmp 149) (some 9))) <|
  .op (og 151 131 false (.call n_rr19_Changes [(.tmp 142), (.tmp 144), (.tmp 146), (.tmp 148), (.tmp 150)])) <|
  .op (og 152 131 false (.beq true (.tmp 141) (.tmp 151))) <|
  .op (oo 153 (.pick (.tmp 131) (.const (kb true)) (.tmp 152))) <|
  .done
@[simp] def rl19_OrderTells_s142 : VT :=
  .op (og 142 131 false (.ld (.tmp 2) (some 3))) <|
  .alt (rl19_OrderTells_s61) (rl19_OrderTells_s76)
@[simp] def rl19_OrderTells_s143 : VT :=
  .op (og 144 131 false (.ld (.tmp 143) none)) <|
  .alt (rl19_OrderTells_s102) (rl19_OrderTells_s117)
@[simp] def rl19_OrderTells_s144 : VT :=
  .op (og 141 131 false (.call n_order_Book_Changes [(.tmp 132), (.tmp 134), (.tmp 136), (.tmp 138), (.tmp 140)])) <|
  .op (og 142 131 false (.ld (.tmp 2) (some 3))) <|
  .op (og 144 131 false (.ld (.tmp 143) none)) <|
  .op (og 150 131 false (.ld (.tmp 149) (some 9))) <|
  .op (og 151 131 false (.call n_rr19_Changes [(.tmp 142), (.tmp 144), (.tmp 146), (.tmp 148), (.tmp 150)])) <|
  .op (og 152 131 false (.beq true (.tmp 141) (.tmp 151))) <|
  .op (oo 153 (.pick (.tmp 131) (.const (kb true)) (.tmp 152))) <|
  .done
@[simp] def rl19_OrderTells_s145 : VT :=
  .op (og 142 131 false (.ld (.tmp 2) (some 3))) <|
  .alt (rl19_OrderTells_s63) (rl19_OrderTells_s68)
@[simp] def rl19_OrderTells_s146 : VT :=
  .op (og 144 131 false (.ld (.tmp 143) none)) <|
  .alt (rl19_OrderTells_s104) (rl19_OrderTells_s109)
@[simp] def rl19_OrderTells_s147 : VT :=
  .op (og 141 131 false (.call n_order_Book_Changes [(.tmp 132), (.tmp 134), (.tmp 136), (.tmp 138), (.tmp 140)])) <|
  .op (og 142 131 false (.ld (.tmp 2) (some 3))) <|
  .op (og 144 131 false (.ld (.tmp 143) none)) <|
  .op (og 151 131 false (.call n_rr19_Changes [(.tmp 142), (.tmp 144), (.tmp 146), (.tmp 148), (.tmp 150)])) <|
  .op (og 152 131 false (.beq true (.tmp 141) (.tmp 151))) <|
  .op (oo 153 (.pick (.tmp 131) (.const (kb true)) (.tmp 152))) <|
  .done
@[simp] def rl19_OrderTells_s148 : VT :=
  .op (og 142 131 false (.ld (.tmp 2) (some 3))) <|
  .alt (rl19_OrderTells_s65) (rl19_OrderTells_s66)
@[simp] def rl19_OrderTells_s149 : VT :=
  .op (og 144 131 false (.ld (.tmp 143) none)) <|
  .alt (rl19_OrderTells_s106) (rl19_OrderTells_s107)
@[simp] def rl19_OrderTells_s150 : VT :=
  .alt (rl19_OrderTells_s148) (rl19_OrderTells_s149)
@[simp] def rl19_OrderTells_s151 : VT :=
  .op (og 150 131 false (.ld (.tmp 149) (some 9))) <|
  .alt (rl19_OrderTells_s147) (rl19_OrderTells_s150)
@[simp] def rl19_OrderTells_s152 : VT :=
  .alt (rl19_OrderTells_s146) (rl19_OrderTells_s151)
@[simp] def rl19_OrderTells_s153 : VT :=
  .alt (rl19_OrderTells_s145) (rl19_OrderTells_s152)
@[simp] def rl19_OrderTells_s154 : VT :=
  .op (og 148 131 false (.ld (.tmp 147) none)) <|
  .alt (rl19_OrderTells_s144) (rl19_OrderTells_s153)
@[simp] def rl19_OrderTells_s155 : VT :=
  .op (og 141 131 false (.call n_order_Book_Changes [(.tmp 132), (.tmp 134), (.tmp 136), (.tmp 138), (.tmp 140)])) <|
  .op (og 142 131 false (.ld (.tmp 2) (some 3))) <|
  .op (og 144 131 false (.ld (.tmp 143) none)) <|
  .op (og 148 131 false (.ld (.tmp 147) none)) <|
  .op (og 151 131 false (.call n_rr19_Changes [(.tmp 142), (.tmp 144), (.tmp 146), (.tmp 148), (.tmp 150)])) <|
  .op (og 152 131 false (.beq true (.tmp 141) (.tmp 151))) <|
  .op (oo 153 (.pick (.tmp 131) (.const (kb true)) (.tmp 152))) <|
  .done
@[simp] def rl19_OrderTells_s156 : VT :=
  .op (og 142 131 false (.ld (.tmp 2) (some 3))) <|
  .alt (rl19_OrderTells_s70) (rl19_OrderTells_s73)
@[simp] def rl19_OrderTells_s157 : VT :=
  .op (og 144 131 false (.ld (.tmp 143) none)) <|
  .alt (rl19_OrderTells_s111) (rl19_OrderTells_s114)
@[simp] def rl19_OrderTells_s158 : VT :=
  .op (og 148 131 false (.ld (.tmp 147) none)) <|
  .alt (rl19_OrderTells_s147) (rl19_OrderTells_s150)
@[simp] def rl19_OrderTells_s159 : VT :=
  .alt (rl19_OrderTells_s157) (rl19_OrderTells_s158)
@[simp] def rl19_OrderTells_s160 : VT :=
  .alt (rl19_OrderTells_s156) (rl19_OrderTells_s159)
@[simp] def rl19_OrderTells_s161 : VT :=
  .op (og 150 131 false (.ld (.tmp 149) (some 9))) <|
  .alt (rl19_OrderTells_s155) (rl19_OrderTells_s160)
@[simp] def rl19_OrderTells_s162 : VT :=
  .alt (rl19_OrderTells_s154) (rl19_OrderTells_s161)
@[simp] def rl19_OrderTells_s163 : VT :=
  .alt (rl19_OrderTells_s143) (rl19_OrderTells_s162)
@[simp] def rl19_OrderTells_s164 : VT :=
  .alt (rl19_OrderTells_s142) (rl19_OrderTells_s163)
@[simp] def rl19_OrderTells_s165 : VT :=
  .op (og 146 131 false (.ld (.tmp 145) (some 3))) <|
  .alt (rl19_OrderTells_s141) (rl19_OrderTells_s164)
@[simp] def rl19_OrderTells_s166 : VT :=
  .op (og 141 131 false (.call n_order_Book_Changes [(.tmp 132), (.tmp 134), (.tmp 136), (.tmp 138), (.tmp 140)])) <|
  .op (og 142 131 false (.ld (.tmp 2) (some 3))) <|
  .op (og 144 131 false (.ld (.tmp 143) none)) <|
  .op (og 146 131 false (.ld (.tmp 145) (some 3))) <|
  .op (og 150 131 false (.ld (.tmp 149) (some 9))) <|
  .op (og 151 131 false (.call n_rr19_Changes [(.tmp 142), (.tmp 144), (.tmp 146), (.tmp 148), (.tmp 150)])) <|
  .op (og 152 131 false (.beq true (.tmp 141) (.tmp 151))) <|
  .op (oo 153 (.pick (.tmp 131) (.const (kb true)) (.tmp 152))) <|
  .done
@[simp] def rl19_OrderTells_s167 : VT :=
  .op (og 142 131 false (.ld (.tmp 2) (some 3))) <|
  .alt (rl19_OrderTells_s78) (rl19_OrderTells_s87)
@[simp] def rl19_OrderTells_s168 : VT :=
  .op (og 144 131 false (.ld (.tmp 143) none)) <|
  .alt (rl19_OrderTells_s119) (rl19_OrderTells_s128)
@[simp] def rl19_OrderTells_s169 : VT :=
  .op (og 146 131 false (.ld (.tmp 145) (some 3))) <|
  .alt (rl19_OrderTells_s144) (rl19_OrderTells_s153)
@[simp] def rl19_OrderTells_s170 : VT :=
  .op (og 141 131 false (.call n_order_Book_Changes [(.tmp 132), (.tmp 134), (.tmp 136), (.tmp 138), (.tmp 140)])) <|
  .op (og 142 131 false (.ld (.tmp 2) (some 3))) <|
  .op (og 144 131 false (.ld (.tmp 143) none)) <|
  .op (og 146 131 false (.ld (.tmp 145) (some 3))) <|
  .op (og 151 131 false (.call n_rr19_Changes [(.tmp 142), (.tmp 144), (.tmp 146), (.tmp 148), (.tmp 150)])) <|
  .op (og 152 131 false (.beq true (.tmp 141) (.tmp 151))) <|
  .op (oo 153 (.pick (.tmp 131) (.const (kb true)) (.tmp 152))) <|
  .done
@[simp] def rl19_OrderTells_s171 : VT :=
  .op (og 142 131 false (.ld (.tmp 2) (some 3))) <|
  .alt (rl19_OrderTells_s81) (rl19_OrderTells_s84)
@[simp] def rl19_OrderTells_s172 : VT :=
  .op (og 144 131 false (.ld (.tmp 143) none)) <|
  .alt (rl19_OrderTells_s122) (rl19_OrderTells_s125)
@[simp] def rl19_OrderTells_s173 : VT :=
  .op (og 146 131 false (.ld (.tmp 145) (some 3))) <|
  .alt (rl19_OrderTells_s147) (rl19_OrderTells_s150)
@[simp] def rl19_OrderTells_s174 : VT :=
  .alt (rl19_OrderTells_s172) (rl19_OrderTells_s173)
@[simp] def rl19_OrderTells_s175 : VT :=
  .alt (rl19_OrderTells_s171) (rl19_OrderTells_s174)
@[simp] def rl19_OrderTells_s176 : VT :=
  .op (og 150 131 false (.ld (.tmp 149) (some 9))) <|
  .alt (rl19_OrderTells_s170) (rl19_OrderTells_s175)
@[simp] def rl19_OrderTells_s177 : VT :=
  .alt (rl19_OrderTells_s169) (rl19_OrderTells_s176)
@[simp] def rl19_OrderTells_s178 : VT :=
  .alt (rl19_OrderTells_s168) (rl19_OrderTells_s177)
@[simp] def rl19_OrderTells_s179 : VT :=
  .alt (rl19_OrderTells_s167) (rl19_OrderTells_s178)
@[simp] def rl19_OrderTells_s180 : VT :=
  .op (og 148 131 false (.ld (.tmp 147) none)) <|
  .alt (rl19_OrderTells_s166) (rl19_OrderTells_s179)
@[simp] def rl19_OrderTells_s181 : VT :=
  .op (og 141 131 false (.call n_order_Book_Changes [(.tmp 132), (.tmp 134), (.tmp 136), (.tmp 138), (.tmp 140)])) <|
  .op (og 142 131 false (.ld (.tmp 2) (some 3))) <|
  .op (og 144 131 false (.ld (.tmp 143) none)) <|
  .op (og 146 131 false (.ld (.tmp 145) (some 3))) <|
  .op (og 148 131 false (.ld (.tmp 147) none)) <|
  .op (og 151 131 false (.call n_rr19_Changes [(.tmp 142), (.tmp 144), (.tmp 146), (.tmp 148), (.tmp 150)])) <|
  .op (og 152 131 false (.beq true (.tmp 141) (.tmp 151))) <|
  .op (oo 153 (.pick (.tmp 131) (.const (kb true)) (.tmp 152))) <|
  .done
@[simp] def rl19_OrderTells_s182 : VT :=
  .op (og 142 131 false (.ld (.tmp 2) (some 3))) <|
  .alt (rl19_OrderTells_s89) (rl19_OrderTells_s94)
@[simp] def rl19_OrderTells_s183 : VT :=
  .op (og 144 131 false (.ld (.tmp 143) none)) <|
  .alt (rl19_OrderTells_s130) (rl19_OrderTells_s135)
@[simp] def rl19_OrderTells_s184 : VT :=
  .op (og 146 131 false (.ld (.tmp 145) (some 3))) <|
  .alt (rl19_OrderTells_s155) (rl19_OrderTells_s160)
@[simp] def rl19_OrderTells_s185 : VT :=
  .op (og 148 131 false (.ld (.tmp 147) none)) <|
  .alt (rl19_OrderTells_s170) (rl19_OrderTells_s175)
@[simp] def rl19_OrderTells_s186 : VT :=
  .alt (rl19_OrderTells_s184) (rl19_OrderTells_s185)
@[simp] def rl19_OrderTells_s187 : VT :=
  .alt (rl19_OrderTells_s183) (rl19_OrderTells_s186)
@[simp] def rl19_OrderTells_s188 : VT :=
  .alt (rl19_OrderTells_s182) (rl19_OrderTells_s187)
@[simp] def rl19_OrderTells_s189 : VT :=
  .op (og 150 131 false (.ld (.tmp 149) (some 9))) <|
  .alt (rl19_OrderTells_s181) (rl19_OrderTells_s188)
@[simp] def rl19_OrderTells_s190 : VT :=
  .alt (rl19_OrderTells_s180) (rl19_OrderTells_s189)
@[simp] def rl19_OrderTells_s191 : VT :=
  .alt (rl19_OrderTells_s165) (rl19_OrderTells_s190)
@[simp] def rl19_OrderTells_s192 : VT :=
  .alt (rl19_OrderTells_s140) (rl19_OrderTells_s191)
@[simp] def rl19_OrderTells_s193 : VT :=
  .alt (rl19_OrderTells_s99) (rl19_OrderTells_s192)
@[simp] def rl19_OrderTells_s194 : VT :=
  .op (oo 121 (.call n_order_Book_Place [(.tmp 114), (.tmp 116), (.tmp 118), (.tmp 120)])) <|
  .op (oo 122 (.ld (.tmp 2) (some 3))) <|
  .op (oo 124 (.ld (.tmp 123) none)) <|
  .op (oo 126 (.ld (.tmp 125) (some 3))) <|
  .op (oo 128 (.ld (.tmp 127) (some 2))) <|
  .op (oo 129 (.call n_rr19_Place [(.tmp 122), (.tmp 124), (.tmp 126), (.tmp 128)])) <|
  .op (oo 130 (.bin .neq (.tmp 121) (.tmp 129))) <|
  .op (oo 131 (.mov (.tmp 130))) <|
  .op (og 132 131 false (.mov (.tmp 7))) <|
  .op (og 133 131 false (.fa 1 (.tmp 10))) <|
  .op (og 134 131 false (.ld (.tmp 133) none)) <|
  .op (og 135 131 false (.fa 2 (.tmp 10))) <|
  .op (og 136 131 false (.ld (.tmp 135) (some 3))) <|
  .op (og 137 131 false (.fa 7 (.tmp 10))) <|
  .op (og 138 131 false (.ld (.tmp 137) none)) <|
  .op (og 139 131 false (.fa 8 (.tmp 10))) <|
  .op (og 140 131 false (.ld (.tmp 139) (some 9))) <|
  .op (og 143 131 false (.fa 1 (.tmp 10))) <|
  .op (og 145 131 false (.fa 2 (.tmp 10))) <|
  .op (og 147 131 false (.fa 7 (.tmp 10))) <|
  .op (og 149 131 false (.fa 8 (.tmp 10))) <|
  .alt (rl19_OrderTells_s34) (rl19_OrderTells_s193)
@[simp] def rl19_OrderTells_s195 : VT :=
  .op (oo 121 (.call n_order_Book_Place [(.tmp 114), (.tmp 116), (.tmp 118), (.tmp 120)])) <|
  .op (oo 124 (.ld (.tmp 123) none)) <|
  .op (oo 126 (.ld (.tmp 125) (some 3))) <|
  .op (oo 128 (.ld (.tmp 127) (some 2))) <|
  .op (oo 129 (.call n_rr19_Place [(.tmp 122), (.tmp 124), (.tmp 126), (.tmp 128)])) <|
  .op (oo 130 (.bin .neq (.tmp 121) (.tmp 129))) <|
  .op (oo 131 (.mov (.tmp 130))) <|
  .op (og 132 131 false (.mov (.tmp 7))) <|
  .op (og 133 131 false (.fa 1 (.tmp 10))) <|
  .op (og 134 131 false (.ld (.tmp 133) none)) <|
  .op (og 135 131 false (.fa 2 (.tmp 10))) <|
  .op (og 136 131 false (.ld (.tmp 135) (some 3))) <|
  .op (og 137 131 false (.fa 7 (.tmp 10))) <|
  .op (og 138 131 false (.ld (.tmp 137) none)) <|
  .op (og 139 131 false (.fa 8 (.tmp 10))) <|
  .op (og 140 131 false (.ld (.tmp 139) (some 9))) <|
  .op (og 143 131 false (.fa 1 (.tmp 10))) <|
  .op (og 145 131 false (.fa 2 (.tmp 10))) <|
  .op (og 147 131 false (.fa 7 (.tmp 10))) <|
  .op (og 149 131 false (.fa 8 (.tmp 10))) <|
  .alt (rl19_OrderTells_s34) (rl19_OrderTells_s193)
@[simp] def rl19_OrderTells_s196 : VT :=
  .op (oo 121 (.call n_order_Book_Place [(.tmp 114), (.tmp 116), (.tmp 118), (.tmp 120)])) <|
  .op (oo 126 (.ld (.tmp 125) (some 3))) <|
  .op (oo 128 (.ld (.tmp 127) (some 2))) <|
  .op (oo 129 (.call n_rr19_Place [(.tmp 122), (.tmp 124), (.tmp 126), (.tmp 128)])) <|
  .op (oo 130 (.bin .neq (.tmp 121) (.tmp 129))) <|
  .op (oo 131 (.mov (.tmp 130))) <|
  .op (og 132 131 false (.mov (.tmp 7))) <|
  .op (og 133 131 false (.fa 1 (.tmp 10))) <|
  .op (og 134 131 false (.ld (.tmp 133) none)) <|
  .op (og 135 131 false (.fa 2 (.tmp 10))) <|
  .op (og 136 131 false (.ld (.tmp 135) (some 3))) <|
  .op (og 137 131 false (.fa 7 (.tmp 10))) <|
  .op (og 138 131 false (.ld (.tmp 137) none)) <|
  .op (og 139 131 false (.fa 8 (.tmp 10))) <|
  .op (og 140 131 false (.ld (.tmp 139) (some 9))) <|
  .op (og 143 131 false (.fa 1 (.tmp 10))) <|
  .op (og 145 131 false (.fa 2 (.tmp 10))) <|
  .op (og 147 131 false (.fa 7 (.tmp 10))) <|
  .op (og 149 131 false (.fa 8 (.tmp 10))) <|
  .alt (rl19_OrderTells_s34) (rl19_OrderTells_s193)
@[simp] def rl19_OrderTells_s197 : VT :=
  .op (oo 121 (.call n_order_Book_Place [(.tmp 114), (.tmp 116), (.tmp 118), (.tmp 120)])) <|
  .op (oo 128 (.ld (.tmp 127) (some 2))) <|
  .op (oo 129 (.call n_rr19_Place [(.tmp 122), (.tmp 124), (.tmp 126), (.tmp 128)])) <|
  .op (oo 130 (.bin .neq (.tmp 121) (.tmp 129))) <|
  .op (oo 131 (.mov (.tmp 130))) <|
  .op (og 132 131 false (.mov (.tmp 7))) <|
  .op (og 133 131 false (.fa 1 (.tmp 10))) <|
  .op (og 134 131 false (.ld (.tmp 133) none)) <|
  .op (og 135 131 false (.fa 2 (.tmp 10))) <|
  .op (og 136 131 false (.ld (.tmp 135) (some 3))) <|
  .op (og 137 131 false (.fa 7 (.tmp 10))) <|
  .op (og 138 131 false (.ld (.tmp 137) none)) <|
  .op (og 139 131 false (.fa 8 (.tmp 10))) <|
  .op (og 140 131 false (.ld (.tmp 139) (some 9))) <|
  .op (og 143 131 false (.fa 1 (.tmp 10))) <|
  .op (og 145 131 false (.fa 2 (.tmp 10))) <|
  .op (og 147 131 false (.fa 7 (.tmp 10))) <|
  .op (og 149 131 false (.fa 8 (.tmp 10))) <|
  .alt (rl19_OrderTells_s34) (rl19_OrderTells_s193)
@[simp] def rl19_OrderTells_s198 : VT :=
  .op (oo 128 (.ld (.tmp 127) (some 2))) <|
  .op (oo 121 (.call n_order_Book_Place [(.tmp 114), (.tmp 116), (.tmp 118), (.tmp 120)])) <|
  .op (oo 129 (.call n_rr19_Place [(.tmp 122), (.tmp 124), (.tmp 126), (.tmp 128)])) <|
  .op (oo 130 (.bin .neq (.tmp 121) (.tmp 129))) <|
  .op (oo 131 (.mov (.tmp 130))) <|
  .op (og 132 131 false (.mov (.tmp 7))) <|
  .op (og 133 131 false (.fa 1 (.tmp 10))) <|
  .op (og 134 131 false (.ld (.tmp 133) none)) <|
  .op (og 135 131 false (.fa 2 (.tmp 10))) <|
  .op (og 136 131 false (.ld (.tmp 135) (some 3))) <|
  .op (og 137 131 false (.fa 7 (.tmp 10))) <|
  .op (og 138 131 false (.ld (.tmp 137) none)) <|
  .op (og 139 131 false (.fa 8 (.tmp 10))) <|
  .op (og 140 131 false (.ld (.tmp 139) (some 9))) <|
  .op (og 143 131 false (.fa 1 (.tmp 10))) <|
  .op (og 145 131 false (.fa 2 (.tmp 10))) <|
  .op (og 147 131 false (.fa 7 (.tmp 10))) <|
  .op (og 149 131 false (.fa 8 (.tmp 10))) <|
  .alt (rl19_OrderTells_s34) (rl19_OrderTells_s193)
@[simp] def rl19_OrderTells_s199 : VT :=
  .op (oo 126 (.ld (.tmp 125) (some 3))) <|
  .alt (rl19_OrderTells_s197) (rl19_OrderTells_s198)
@[simp] def rl19_OrderTells_s200 : VT :=
  .op (oo 121 (.call n_order_Book_Place [(.tmp 114), (.tmp 116), (.tmp 118), (.tmp 120)])) <|
  .op (oo 126 (.ld (.tmp 125) (some 3))) <|
  .op (oo 129 (.call n_rr19_Place [(.tmp 122), (.tmp 124), (.tmp 126), (.tmp 128)])) <|
  .op (oo 130 (.bin .neq (.tmp 121) (.tmp 129))) <|
  .op (oo 131 (.mov (.tmp 130))) <|
  .op (og 132 131 false (.mov (.tmp 7))) <|
  .op (og 133 131 false (.fa 1 (.tmp 10))) <|
  .op (og 134 131 false (.ld (.tmp 133) none)) <|
  .op (og 135 131 false (.fa 2 (.tmp 10))) <|
  .op (og 136 131 false (.ld (.tmp 135) (some 3))) <|
  .op (og 137 131 false (.fa 7 (.tmp 10))) <|
  .op (og 138 131 false (.ld (.tmp 137) none)) <|
  .op (og 139 131 false (.fa 8 (.tmp 10))) <|
  .op (og 140 131 false (.ld (.tmp 139) (some 9))) <|
  .op (og 143 131 false (.fa 1 (.tmp 10))) <|
  .op (og 145 131 false (.fa 2 (.tmp 10))) <|
  .op (og 147 131 false (.fa 7 (.tmp 10))) <|
  .op (og 149 131 false (.fa 8 (.tmp 10))) <|
  .alt (rl19_OrderTells_s34) (rl19_OrderTells_s193)
@[simp] def rl19_OrderTells_s201 : VT :=
  .op (oo 126 (.ld (.tmp 125) (some 3))) <|
  .op (oo 121 (.call n_order_Book_Place [(.tmp 114), (.tmp 116), (.tmp 118), (.tmp 120)])) <|
  .op (oo 129 (.call n_rr19_Place [(.tmp 122), (.tmp 124), (.tmp 126), (.tmp 128)])) <|
  .op (oo 130 (.bin .neq (.tmp 121) (.tmp 129))) <|
  .op (oo 131 (.mov (.tmp 130))) <|
  .op (og 132 131 false (.mov (.tmp 7))) <|
  .op (og 133 131 false (.fa 1 (.tmp 10))) <|
  .op (og 134 131 false (.ld (.tmp 133) none)) <|
  .op (og 135 131 false (.fa 2 (.tmp 10))) <|
  .op (og 136 131 false (.ld (.tmp 135) (some 3))) <|
  .op (og 137 131 false (.fa 7 (.tmp 10))) <|
  .op (og 138 131 false (.ld (.tmp 137) none)) <|
  .op (og 139 131 false (.fa 8 (.tmp 10))) <|
  .op (og 140 131 false (.ld (.tmp 139) (some 9))) <|
  .op (og 143 131 false (.fa 1 (.tmp 10))) <|
  .op (og 145 131 false (.fa 2 (.tmp 10))) <|
  .op (og 147 131 false (.fa 7 (.tmp 10))) <|
  .op (og 149 131 false (.fa 8 (.tmp 10))) <|
  .alt (rl19_OrderTells_s34) (rl19_OrderTells_s193)
@[simp] def rl19_OrderTells_s202 : VT :=
  .op (oo 128 (.ld (.tmp 127) (some 2))) <|
  .alt (rl19_OrderTells_s200) (rl19_OrderTells_s201)
@[simp] def rl19_OrderTells_s203 : VT :=
  .alt (rl19_OrderTells_s199) (rl19_OrderTells_s202)
@[simp] def rl19_OrderTells_s204 : VT :=
  .op (oo 124 (.ld (.tmp 123) none)) <|
  .alt (rl19_OrderTells_s196) (rl19_OrderTells_s203)
@[simp] def rl19_OrderTells_s205 : VT :=
  .op (oo 121 (.call n_order_Book_Place [(.tmp 114), (.tmp 116), (.tmp 118), (.tmp 120)])) <|
  .op (oo 124 (.ld (.tmp 123) none)) <|
  .op (oo 128 (.ld (.tmp 127) (some 2))) <|
  .op (oo 129 (.call n_rr19_Place [(.tmp 122), (.tmp 124), (.tmp 126), (.tmp 128)])) <|
  .op (oo 130 (.bin .neq (.tmp 121) (.tmp 129))) <|
  .op (oo 131 (.mov (.tmp 130))) <|
  .op (og 132 131 false (.mov (.tmp 7))) <|
  .op (og 133 131 false (.fa 1 (.tmp 10))) <|
  .op (og 134 131 false (.ld (.tmp 133) none)) <|
  .op (og 135 131 false (.fa 2 (.tmp 10))) <|
  .op (og 136 131 false (.ld (.tmp 135) (some 3))) <|
  .op (og 137 131 false (.fa 7 (.tmp 10))) <|
  .op (og 138 131 false (.ld (.tmp 137) none)) <|
  .op (og 139 131 false (.fa 8 (.tmp 10))) <|
  .op (og 140 131 false (.ld (.tmp 139) (some 9))) <|
  .op (og 143 131 false (.fa 1 (.tmp 10))) <|
  .op (og 145 131 false (.fa 2 (.tmp 10))) <|
  .op (og 147 131 false (.fa 7 (.tmp 10))) <|
  .op (og 149 131 false (.fa 8 (.tmp 10))) <|
  .alt (rl19_OrderTells_s34) (rl19_OrderTells_s193)
@[simp] def rl19_OrderTells_s206 : VT :=
  .op (oo 124 (.ld (.tmp 123) none)) <|
  .alt (rl19_OrderTells_s197) (rl19_OrderTells_s198)
@[simp] def rl19_OrderTells_s207 : VT :=
  .op (oo 121 (.call n_order_Book_Place [(.tmp 114), (.tmp 116), (.tmp 118), (.tmp 120)])) <|
  .op (oo 124 (.ld (.tmp 123) none)) <|
  .op (oo 129 (.call n_rr19_Place [(.tmp 122), (.tmp 124), (.tmp 126), (.tmp 128)])) <|
  .op (oo 130 (.bin .neq (.tmp 121) (.tmp 129))) <|
  .op (oo 131 (.mov (.tmp 130))) <|
  .op (og 132 131 false (.mov (.tmp 7))) <|
  .op (og 133 131 false (.fa 1 (.tmp 10))) <|
  .op (og 134 131 false (.ld (.tmp 133) none)) <|
  .op (og 135 131 false (.fa 2 (.tmp 10))) <|
  .op (og 136 131 false (.ld (.tmp 135) (some 3))) <|
  .op (og 137 131 false (.fa 7 (.tmp 10))) <|
  .op (og 138 131 false (.ld (.tmp 137) none)) <|
  .op (og 139 131 false (.fa 8 (.tmp 10))) <|
  .op (og 140 131 false (.ld (.tmp 139) (some 9))) <|
  .op (og 143 131 false (.fa 1 (.tmp 10))) <|
  .op (og 145 131 false (.fa 2 (.tmp 10))) <|
  .op (og 147 131 false (.fa 7 (.tmp 10))) <|
  .op (og 149 131 false (.fa 8 (.tmp 10))) <|
  .alt (rl19_OrderTells_s34) (rl19_OrderTells_s193)
@[simp] def rl19_OrderTells_s208 : VT :=
  .op (oo 124 (.ld (.tmp 123) none)) <|
  .op (oo 121 (.call n_order_Book_Place [(.tmp 114), (.tmp 116), (.tmp 118), (.tmp 120)])) <|
  .op (oo 129 (.call n_rr19_Place [(.tmp 122), (.tmp 124), (.tmp 126), (.tmp 128)])) <|
  .op (oo 130 (.bin .neq (.tmp 121) (.tmp 129))) <|
  .op (oo 131 (.mov (.tmp 130))) <|
  .op (og 132 131 false (.mov (.tmp 7))) <|
  .op (og 133 131 false (.fa 1 (.tmp 10))) <|
  .op (og 134 131 false (.ld (.tmp 133) none)) <|
  .op (og 135 131 false (.fa 2 (.tmp 10))) <|
  .op (og 136 131 false (.ld (.tmp 135) (some 3))) <|
  .op (og 137 131 false (.fa 7 (.tmp 10))) <|
  .op (og 138 131 false (.ld (.tmp 137) none)) <|
  .op (og 139 131 false (.fa 8 (.tmp 10))) <|
  .op (og 140 131 false (.ld (.tmp 139) (some 9))) <|
  .op (og 143 131 false (.fa 1 (.tmp 10))) <|
  .op (og 145 131 false (.fa 2 (.tmp 10))) <|
  .op (og 147 131 false (.fa 7 (.tmp 10))) <|
  .op (og 149 131 false (.fa 8 (.tmp 10))) <|
  .alt (rl19_OrderTells_s34) (rl19_OrderTells_s193)
@[simp] def rl19_OrderTells_s209 : VT :=
  .op (oo 128 (.ld (.tmp 127) (some 2))) <|
  .alt (rl19_OrderTells_s207) (rl19_OrderTells_s208)
@[simp] def rl19_OrderTells_s210 : VT :=
  .alt (rl19_OrderTells_s206) (rl19_OrderTells_s209)
@[simp] def rl19_OrderTells_s211 : VT :=
  .op (oo 126 (.ld (.tmp 125) (some 3))) <|
  .alt (rl19_OrderTells_s205) (rl19_OrderTells_s210)
@[simp] def rl19_OrderTells_s212 : VT :=
  .op (oo 121 (.call n_order_Book_Place [(.tmp 114), (.tmp 116), (.tmp 118), (.tmp 120)])) <|
  .op (oo 124 (.ld (.tmp 123) none)) <|
  .op (oo 126 (.ld (.tmp 125) (some 3))) <|
  .op (oo 129 (.call n_rr19_Place [(.tmp 122), (.tmp 124), (.tmp 126), (.tmp 128)])) <|
  .op (oo 130 (.bin .neq (.tmp 121) (.tmp 129))) <|
  .op (oo 131 (.mov (.tmp 130))) <|
  .op (og 132 131 false (.mov (.tmp 7))) <|
  .op (og 133 131 false (.fa 1 (.tmp 10))) <|
  .op (og 134 131 false (.ld (.tmp 133) none)) <|
  .op (og 135 131 false (.fa 2 (.tmp 10))) <|
  .op (og 136 131 false (.ld (.tmp 135) (some 3))) <|
  .op (og 137 131 false (.fa 7 (.tmp 10))) <|
  .op (og 138 131 false (.ld (.tmp 137) none)) <|
  .op (og 139 131 false (.fa 8 (.tmp 10))) <|
  .op (og 140 131 false (.ld (.tmp 139) (some 9))) <|
  .op (og 143 131 false (.fa 1 (.tmp 10))) <|
  .op (og 145 131 false (.fa 2 (.tmp 10))) <|
  .op (og 147 131 false (.fa 7 (.tmp 10))) <|
  .op (og 149 131 false (.fa 8 (.tmp 10))) <|
  .alt (rl19_OrderTells_s34) (rl19_OrderTells_s193)
@[simp] def rl19_OrderTells_s213 : VT :=
  .op (oo 124 (.ld (.tmp 123) none)) <|
  .alt (rl19_OrderTells_s200) (rl19_OrderTells_s201)
@[simp] def rl19_OrderTells_s214 : VT :=
  .op (oo 126 (.ld (.tmp 125) (some 3))) <|
  .alt (rl19_OrderTells_s207) (rl19_OrderTells_s208)
@[simp] def rl19_OrderTells_s215 : VT :=
  .alt (rl19_OrderTells_s213) (rl19_OrderTells_s214)
@[simp] def rl19_OrderTells_s216 : VT :=
  .op (oo 128 (.ld (.tmp 127) (some 2))) <|
  .alt (rl19_OrderTells_s212) (rl19_OrderTells_s215)
@[simp] def rl19_OrderTells_s217 : VT :=
  .alt (rl19_OrderTells_s211) (rl19_OrderTells_s216)
@[simp] def rl19_OrderTells_s218 : VT :=
  .alt (rl19_OrderTells_s204) (rl19_OrderTells_s217)
@[simp] def rl19_OrderTells_s219 : VT :=
  .op (oo 122 (.ld (.tmp 2) (some 3))) <|
  .alt (rl19_OrderTells_s195) (rl19_OrderTells_s218)
@[simp] def rl19_OrderTells_s220 : VT :=
  .op (oo 121 (.call n_order_Book_Place [(.tmp 114), (.tmp 116), (.tmp 118), (.tmp 120)])) <|
  .op (oo 122 (.ld (.tmp 2) (some 3))) <|
  .op (oo 126 (.ld (.tmp 125) (some 3))) <|
  .op (oo 128 (.ld (.tmp 127) (some 2))) <|
  .op (oo 129 (.call n_rr19_Place [(.tmp 122), (.tmp 124), (.tmp 126), (.tmp 128)])) <|
  .op (oo 130 (.bin .neq (.tmp 121) (.tmp 129))) <|
  .op (oo 131 (.mov (.tmp 130))) <|
  .op (og 132 131 false (.mov (.tmp 7))) <|
  .op (og 133 131 false (.fa 1 (.tmp 10))) <|
  .op (og 134 131 false (.ld (.tmp 133) none)) <|
  .op (og 135 131 false (.fa 2 (.tmp 10))) <|
  .op (og 136 131 false (.ld (.tmp 135) (some 3))) <|
  .op (og 137 131 false (.fa 7 (.tmp 10))) <|
  .op (og 138 131 false (.ld (.tmp 137) none)) <|
  .op (og 139 131 false (.fa 8 (.tmp 10))) <|
  .op (og 140 131 false (.ld (.tmp 139) (some 9))) <|
  .op (og 143 131 false (.fa 1 (.tmp 10))) <|
  .op (og 145 131 false (.fa 2 (.tmp 10))) <|
  .op (og 147 131 false (.fa 7 (.tmp 10))) <|
  .op (og 149 131 false (.fa 8 (.tmp 10))) <|
  .alt (rl19_OrderTells_s34) (rl19_OrderTells_s193)
@[simp] def rl19_OrderTells_s221 : VT :=
  .op (oo 122 (.ld (.tmp 2) (some 3))) <|
  .alt (rl19_OrderTells_s196) (rl19_OrderTells_s203)
@[simp] def rl19_OrderTells_s222 : VT :=
  .op (oo 121 (.call n_order_Book_Place [(.tmp 114), (.tmp 116), (.tmp 118), (.tmp 120)])) <|
  .op (oo 122 (.ld (.tmp 2) (some 3))) <|
  .op (oo 128 (.ld (.tmp 127) (some 2))) <|
  .op (oo 129 (.call n_rr19_Place [(.tmp 122), (.tmp 124), (.tmp 126), (.tmp 128)])) <|
  .op (oo 130 (.bin .neq (.tmp 121) (.tmp 129))) <|
  .op (oo 131 (.mov (.tmp 130))) <|
  .op (og 132 131 false (.mov (.tmp 7))) <|
  .op (og 133 131 false (.fa 1 (.tmp 10))) <|
  .op (og 134 131 false (.ld (.tmp 133) none)) <|
  .op (og 135 131 false (.fa 2 (.tmp 10))) <|
  .op (og 136 131 false (.ld (.tmp 135) (some 3))) <|
  .op (og 137 131 false (.fa 7 (.tmp 10))) <|
  .op (og 138 131 false (.ld (.tmp 137) none)) <|
  .op (og 139 131 false (.fa 8 (.tmp 10))) <|
  .op (og 140 131 false (.ld (.tmp 139) (some 9))) <|
  .op (og 143 131 false (.fa 1 (.tmp 10))) <|
  .op (og 145 131 false (.fa 2 (.tmp 10))) <|
  .op (og 147 131 false (.fa 7 (.tmp 10))) <|
  .op (og 149 131 false (.fa 8 (.tmp 10))) <|
  .alt (rl19_OrderTells_s34) (rl19_OrderTells_s193)
@[simp] def rl19_OrderTells_s223 : VT :=
  .op (oo 122 (.ld (.tmp 2) (some 3))) <|
  .alt (rl19_OrderTells_s197) (rl19_OrderTells_s198)
@[simp] def rl19_OrderTells_s224 : VT :=
  .op (oo 121 (.call n_order_Book_Place [(.tmp 114), (.tmp 116), (.tmp 118), (.tmp 120)])) <|
  .op (oo 122 (.ld (.tmp 2) (some 3))) <|
  .op (oo 129 (.call n_rr19_Place [(.tmp 122), (.tmp 124), (.tmp 126), (.tmp 128)])) <|
  .op (oo 130 (.bin .neq (.tmp 121) (.tmp 129))) <|
  .op (oo 131 (.mov (.tmp 130))) <|
  .op (og 132 131 false (.mov (.tmp 7))) <|
  .op (og 133 131 false (.fa 1 (.tmp 10))) <|
  .op (og 134 131 false (.ld (.tmp 133) none)) <|
  .op (og 135 131 false (.fa 2 (.tmp 10))) <|
  .op (og 136 131 false (.ld (.tmp 135) (some 3))) <|
  .op (og 137 131 false (.fa 7 (.tmp 10))) <|
  .op (og 138 131 false (.ld (.tmp 137) none)) <|
  .op (og 139 131 false (.fa 8 (.tmp 10))) <|
  .op (og 140 131 false (.ld (.tmp 139) (some 9))) <|
  .op (og 143 131 false (.fa 1 (.tmp 10))) <|
  .op (og 145 131 false (.fa 2 (.tmp 10))) <|
  .op (og 147 131 false (.fa 7 (.tmp 10))) <|
  .op (og 149 131 false (.fa 8 (.tmp 10))) <|
  .alt (rl19_OrderTells_s34) (rl19_OrderTells_s193)
@[simp] def rl19_OrderTells_s225 : VT :=
  .op (oo 122 (.ld (.tmp 2) (some 3))) <|
  .op (oo 121 (.call n_order_Book_Place [(.tmp 114), (.tmp 116), (.tmp 118), (.tmp 120)])) <|
  .op (oo 129 (.call n_rr19_Place [(.tmp 122), (.tmp 124), (.tmp 126), (.tmp 128)])) <|
  .op (oo 130 (.bin .neq (.tmp 121) (.tmp 129))) <|
  .op (oo 131 (.mov (.tmp 130))) <|
  .op (og 132 131 false (.mov (.tmp 7))) <|
  .op (og 133 131 false (.fa 1 (.tmp 10))) <|
  .op (og 134 131 false (.ld (.tmp 133) none)) <|
  .op (og 135 131 false (.fa 2 (.tmp 10))) <|
  .op (og 136 131 false (.ld (.tmp 135) (some 3))) <|
  .op (og 137 131 false (.fa 7 (.tmp 10))) <|
  .op (og 138 131 false (.ld (.tmp 137) none)) <|
  .op (og 139 131 false (.fa 8 (.tmp 10))) <|
  .op (og 140 131 false (.ld (.tmp 139) (some 9))) <|
  .op (og 143 131 false (.fa 1 (.tmp 10))) <|
  .op (og 145 131 false (.fa 2 (.tmp 10))) <|
  .op (og 147 131 false (.fa 7 (.tmp 10))) <|
  .op (og 149 131 false (.fa 8 (.tmp 10))) <|
  .alt (rl19_OrderTells_s34) (rl19_OrderTells_s193)
@[simp] def rl19_OrderTells_s226 : VT :=
  .op (oo 128 (.ld (.tmp 127) (some 2))) <|
  .alt (rl19_OrderTells_s224) (rl19_OrderTells_s225)
@[simp] def rl19_OrderTells_s227 : VT :=
  .alt (rl19_OrderTells_s223) (rl19_OrderTells_s226)
@[simp] def rl19_OrderTells_s228 : VT :=
  .op (oo 126 (.ld (.tmp 125) (some 3))) <|
  .alt (rl19_OrderTells_s222) (rl19_OrderTells_s227)
@[simp] def rl19_OrderTells_s229 : VT :=
  .op (oo 121 (.call n_order_Book_Place [(.tmp 114), (.tmp 116), (.tmp 118), (.tmp 120)])) <|
  .op (oo 122 (.ld (.tmp 2) (some 3))) <|
  .op (oo 126 (.ld (.tmp 125) (some 3))) <|
  .op (oo 129 (.call n_rr19_Place [(.tmp 122), (.tmp 124), (.tmp 126), (.tmp 128)])) <|
  .op (oo 130 (.bin .neq (.tmp 121) (.tmp 129))) <|
  .op (oo 131 (.mov (.tmp 130))) <|
  .op (og 132 131 false (.mov (.tmp 7))) <|
  .op (og 133 131 false (.fa 1 (.tmp 10))) <|
  .op (og 134 131 false (.ld (.tmp 133) none)) <|
  .op (og 135 131 false (.fa 2 (.tmp 10))) <|
  .op (og 136 131 false (.ld (.tmp 135) (some 3))) <|
  .op (og 137 131 false (.fa 7 (.tmp 10))) <|
  .op (og 138 131 false (.ld (.tmp 137) none)) <|
  .op (og 139 131 false (.fa 8 (.tmp 10))) <|
  .op (og 140 131 false (.ld (.tmp 139) (some 9))) <|
  .op (og 143 131 false (.fa 1 (.tmp 10))) <|
  .op (og 145 131 false (.fa 2 (.tmp 10))) <|
  .op (og 147 131 false (.fa 7 (.tmp 10))) <|
  .op (og 149 131 false (.fa 8 (.tmp 10))) <|
  .alt (rl19_OrderTells_s34) (rl19_OrderTells_s193)
@[simp] def rl19_OrderTells_s230 : VT :=
  .op (oo 122 (.ld (.tmp 2) (some 3))) <|
  .alt (rl19_OrderTells_s200) (rl19_OrderTells_s201)
@[simp] def rl19_OrderTells_s231 : VT :=
  .op (oo 126 (.ld (.tmp 125) (some 3))) <|
  .alt (rl19_OrderTells_s224) (rl19_OrderTells_s225)
@[simp] def rl19_OrderTells_s232 : VT :=
  .alt (rl19_OrderTells_s230) (rl19_OrderTells_s231)
@[simp] def rl19_OrderTells_s233 : VT :=
  .op (oo 128 (.ld (.tmp 127) (some 2))) <|
  .alt (rl19_OrderTells_s229) (rl19_OrderTells_s232)
@[simp] def rl19_OrderTells_s234 : VT :=
  .alt (rl19_OrderTells_s228) (rl19_OrderTells_s233)
@[simp] def rl19_OrderTells_s235 : VT :=
  .alt (rl19_OrderTells_s221) (rl19_OrderTells_s234)
@[simp] def rl19_OrderTells_s236 : VT :=
  .op (oo 124 (.ld (.tmp 123) none)) <|
  .alt (rl19_OrderTells_s220) (rl19_OrderTells_s235)
@[simp] def rl19_OrderTells_s237 : VT :=
  .op (oo 121 (.call n_order_Book_Place [(.tmp 114), (.tmp 116), (.tmp 118), (.tmp 120)])) <|
  .op (oo 122 (.ld (.tmp 2) (some 3))) <|
  .op (oo 124 (.ld (.tmp 123) none)) <|
  .op (oo 128 (.ld (.tmp 127) (some 2))) <|
  .op (oo 129 (.call n_rr19_Place [(.tmp 122), (.tmp 124), (.tmp 126), (.tmp 128)])) <|
  .op (oo 130 (.bin .neq (.tmp 121) (.tmp 129))) <|
  .op (oo 131 (.mov (.tmp 130))) <|
  .op (og 132 131 false (.mov (.tmp 7))) <|
  .op (og 133 131 false (.fa 1 (.tmp 10))) <|
  .op (og 134 131 false (.ld (.tmp 133) none)) <|
  .op (og 135 131 false (.fa 2 (.tmp 10))) <|
  .op (og 136 131 false (.ld (.tmp 135) (some 3))) <|
  .op (og 137 131 false (.fa 7 (.tmp 10))) <|
  .op (og 138 131 false (.ld (.tmp 137) none)) <|
  .op (og 139 131 false (.fa 8 (.tmp 10))) <|
  .op (og 140 131 false (.ld (.tmp 139) (some 9))) <|
  .op (og 143 131 false (.fa 1 (.tmp 10))) <|
  .op (og 145 131 false (.fa 2 (.tmp 10))) <|
  .op (og 147 131 false (.fa 7 (.tmp 10))) <|
  .op (og 149 131 false (.fa 8 (.tmp 10))) <|
  .alt (rl19_OrderTells_s34) (rl19_OrderTells_s193)
@[simp] def rl19_OrderTells_s238 : VT :=
  .op (oo 122 (.ld (.tmp 2) (some 3))) <|
  .alt (rl19_OrderTells_s205) (rl19_OrderTells_s210)
@[simp] def rl19_OrderTells_s239 : VT :=
  .op (oo 124 (.ld (.tmp 123) none)) <|
  .alt (rl19_OrderTells_s222) (rl19_OrderTells_s227)
@[simp] def rl19_OrderTells_s240 : VT :=
  .op (oo 121 (.call n_order_Book_Place [(.tmp 114), (.tmp 116), (.tmp 118), (.tmp 120)])) <|
  .op (oo 122 (.ld (.tmp 2) (some 3))) <|
  .op (oo 124 (.ld (.tmp 123) none)) <|
  .op (oo 129 (.call n_rr19_Place [(.tmp 122), (.tmp 124), (.tmp 126), (.tmp 128)])) <|
  .op (oo 130 (.bin .neq (.tmp 121) (.tmp 129))) <|
  .op (oo 131 (.mov (.tmp 130))) <|
  .op (og 132 131 false (.mov (.tmp 7))) <|
  .op (og 133 131 false (.fa 1 (.tmp 10))) <|
  .op (og 134 131 false (.ld (.tmp 133) none)) <|
  .op (og 135 131 false (.fa 2 (.tmp 10))) <|
  .op (og 136 131 false (.ld (.tmp 135) (some 3))) <|
  .op (og 137 131 false (.fa 7 (.tmp 10))) <|
  .op (og 138 131 false (.ld (.tmp 137) none)) <|
  .op (og 139 131 false (.fa 8 (.tmp 10))) <|
  .op (og 140 131 false (.ld (.tmp 139) (some 9))) <|
  .op (og 143 131 false (.fa 1 (.tmp 10))) <|
  .op (og 145 131 false (.fa 2 (.tmp 10))) <|
  .op (og 147 131 false (.fa 7 (.tmp 10))) <|
  .op (og 149 131 false (.fa 8 (.tmp 10))) <|
  .alt (rl19_OrderTells_s34) (rl19_OrderTells_s193)
@[simp] def rl19_OrderTells_s241 : VT :=
  .op (oo 122 (.ld (.tmp 2) (some 3))) <|
  .alt (rl19_OrderTells_s207) (rl19_OrderTells_s208)
@[simp] def rl19_OrderTells_s242 : VT :=
  .op (oo 124 (.ld (.tmp 123) none)) <|
  .alt (rl19_OrderTells_s224) (rl19_OrderTells_s225)
@[simp] def rl19_OrderTells_s243 : VT :=
  .alt (rl19_OrderTells_s241) (rl19_OrderTells_s242)
@[simp] def rl19_OrderTells_s244 : VT :=
  .op (oo 128 (.ld (.tmp 127) (some 2))) <|
  .alt (rl19_OrderTells_s240) (rl19_OrderTells_s243)
@[simp] def rl19_OrderTells_s245 : VT :=
  .alt (rl19_OrderTells_s239) (rl19_OrderTells_s244)
@[simp] def rl19_OrderTells_s246 : VT :=
  .alt (rl19_OrderTells_s238) (rl19_OrderTells_s245)
@[simp] def rl19_OrderTells_s247 : VT :=
  .op (oo 126 (.ld (.tmp 125) (some 3))) <|
  .alt (rl19_OrderTells_s237) (rl19_OrderTells_s246)
@[simp] def rl19_OrderTells_s248 : VT :=
  .op (oo 121 (.call n_order_Book_Place [(.tmp 114), (.tmp 116), (.tmp 118), (.tmp 120)])) <|
  .op (oo 122 (.ld (.tmp 2) (some 3))) <|
  .op (oo 124 (.ld (.tmp 123) none)) <|
  .op (oo 126 (.ld (.tmp 125) (some 3))) <|
  .op (oo 129 (.call n_rr19_Place [(.tmp 122), (.tmp 124), (.tmp 126), (.tmp 128)])) <|
  .op (oo 130 (.bin .neq (.tmp 121) (.tmp 129))) <|
  .op (oo 131 (.mov (.tmp 130))) <|
  .op (og 132 131 false (.mov (.tmp 7))) <|
  .op (og 133 131 false (.fa 1 (.tmp 10))) <|
  .op (og 134 131 false (.ld (.tmp 133) none)) <|
  .op (og 135 131 false (.fa 2 (.tmp 10))) <|
  .op (og 136 131 false (.ld (.tmp 135) (some 3))) <|
  .op (og 137 131 false (.fa 7 (.tmp 10))) <|
  .op (og 138 131 false (.ld (.tmp 137) none)) <|
  .op (og 139 131 false (.fa 8 (.tmp 10))) <|
  .op (og 140 131 false (.ld (.tmp 139) (some 9))) <|
  .op (og 143 131 false (.fa 1 (.tmp 10))) <|
  .op (og 145 131 false (.fa 2 (.tmp 10))) <|
  .op (og 147 131 false (.fa 7 (.tmp 10))) <|
  .op (og 149 131 false (.fa 8 (.tmp 10))) <|
  .alt (rl19_OrderTells_s34) (rl19_OrderTells_s193)
@[simp] def rl19_OrderTells_s249 : VT :=
  .op (oo 122 (.ld (.tmp 2) (some 3))) <|
  .alt (rl19_OrderTells_s212) (rl19_OrderTells_s215)
@[simp] def rl19_OrderTells_s250 : VT :=
  .op (oo 124 (.ld (.tmp 123) none)) <|
  .alt (rl19_OrderTells_s229) (rl19_OrderTells_s232)
@[simp] def rl19_OrderTells_s251 : VT :=
  .op (oo 126 (.ld (.tmp 125) (some 3))) <|
  .alt (rl19_OrderTells_s240) (rl19_OrderTells_s243)
@[simp] def rl19_OrderTells_s252 : VT :=
  .alt (rl19_OrderTells_s250) (rl19_OrderTells_s251)
@[simp] def rl19_OrderTells_s253 : VT :=
  .alt (rl19_OrderTells_s249) (rl19_OrderTells_s252)
@[simp] def rl19_OrderTells_s254 : VT :=
  .op (oo 128 (.ld (.tmp 127) (some 2))) <|
  .alt (rl19_OrderTells_s248) (rl19_OrderTells_s253)
@[simp] def rl19_OrderTells_s255 : VT :=
  .alt (rl19_OrderTells_s247) (rl19_OrderTells_s254)
@[simp] def rl19_OrderTells_s256 : VT :=
  .alt (rl19_OrderTells_s236) (rl19_OrderTells_s255)
@[simp] def rl19_OrderTells_s257 : VT :=
  .alt (rl19_OrderTells_s219) (rl19_OrderTells_s256)
@[simp] def rl19_OrderTells_t24 : VT :=
  .op (oo 114 (.mov (.tmp 7))) <|
  .op (oo 115 (.fa 1 (.tmp 10))) <|
  .op (oo 116 (.ld (.tmp 115) none)) <|
  .op (oo 117 (.fa 2 (.tmp 10))) <|
  .op (oo 118 (.ld (.tmp 117) (some 3))) <|
  .op (oo 119 (.fa 5 (.tmp 10))) <|
  .op (oo 120 (.ld (.tmp 119) (some 2))) <|
  .op (oo 123 (.fa 1 (.tmp 10))) <|
  .op (oo 125 (.fa 2 (.tmp 10))) <|
  .op (oo 127 (.fa 5 (.tmp 10))) <|
  .alt (rl19_OrderTells_s194) (rl19_OrderTells_s257)
@[simp] def rl19_OrderTells_r25 : List VOp :=
  [(oo 4 (.mov (.const (kb false))))]
@[simp] def rl19_OrderTells_r26 : List VOp :=
  [(oo 46 (.mov (.tmp 9))),
   (oo 47 (.bin .add (.tmp 46) (.const (ki 1)))),
   (oo 9 (.mov (.tmp 47)))]
def rl19_OrderTells_l27 : VCode :=
  (.seq (.seq (.reg rl19_OrderTells_r16) (.cond (.tmp 45) .skip (.exit 0))) (.seq (.block 1 (.seq (.reg rl19_OrderTells_r17) (.seq (.seq (.reg rl19_OrderTells_r18) (.cond (.tmp 55) (.seq (.reg rl19_OrderTells_r19) .ret) .skip)) (.seq (.reg rl19_OrderTells_r20) (.seq (.reg rl19_OrderTells_r21) (.seq (.seq (.any rl19_OrderTells_t22) (.cond (.tmp 113) (.seq (.reg rl19_OrderTells_r23) .ret) .skip)) (.seq (.any rl19_OrderTells_t24) (.cond (.tmp 153) (.seq (.reg rl19_OrderTells_r25) .ret) .skip)))))))) (.reg rl19_OrderTells_r26)))
@[simp] def rl19_OrderTells_r28 : List VOp :=
  [(oo 4 (.mov (.const (kb true))))]
def rl19_OrderTells : VCode := (.seq (.reg rl19_OrderTells_r0) (.seq (.reg rl19_OrderTells_r1) (.seq (.seq (.reg rl19_OrderTells_r2) (.cond (.tmp 17) (.seq (.reg rl19_OrderTells_r3) .ret) .skip)) (.seq (.reg rl19_OrderTells_r4) (.seq (.seq (.reg rl19_OrderTells_r5) (.cond (.tmp 21) (.seq (.reg rl19_OrderTells_r6) .ret) .skip)) (.seq (.reg rl19_OrderTells_r7) (.seq (.reg rl19_OrderTells_r8) (.seq (.seq (.reg rl19_OrderTells_r9) (.cond (.tmp 29) (.seq (.reg rl19_OrderTells_r10) .ret) .skip)) (.seq (.seq (.reg rl19_OrderTells_r11) (.cond (.tmp 31) (.seq (.reg rl19_OrderTells_r12) .ret) .skip)) (.seq (.seq (.any rl19_OrderTells_t13) (.cond (.tmp 37) (.seq (.reg rl19_OrderTells_r14) .ret) .skip)) (.seq (.seq (.reg rl19_OrderTells_r15) (.block 0 (.loop rl19_OrderTells_l27))) (.seq (.reg rl19_OrderTells_r28) .ret))))))))))))
theorem rl19_OrderTells_is : fnV prog n_rl19_OrderTells = some (154, rl19_OrderTells, [.tmp 4]) := by kernel_rfl
end Go.Rt
end

/- Functions as the abstract machine has them (printed by GenW.lean). -/
section
namespace Go.Rt
open Go.Vm
/- rr10_Ints -/
@[simp] def rr10_Ints_r0 : List VOp :=
  [(oo 4 (.mov (.const (kb false))))]
@[simp] def rr10_Ints_r1 : List VOp :=
  [(oo 6 (.mov (.tmp 0))),
   (oo 7 (.len (.tmp 6))),
   (oo 8 (.mov (.tmp 1))),
   (oo 9 (.len (.tmp 8))),
   (oo 10 (.bin .neq (.tmp 7) (.tmp 9)))]
@[simp] def rr10_Ints_r2 : List VOp :=
  [(oo 4 (.mov (.const (kb false))))]
@[simp] def rr10_Ints_r3 : List VOp :=
  [(oo 5 (.mov (.const (ki 0))))]
@[simp] def rr10_Ints_r4 : List VOp :=
  [(oo 11 (.mov (.tmp 5))),
   (oo 12 (.mov (.tmp 0))),
   (oo 13 (.len (.tmp 12))),
   (oo 14 (.bin .lss (.tmp 11) (.tmp 13)))]
@[simp] def rr10_Ints_t5 : VT :=
  .op (oo 17 (.mov (.tmp 0))) <|
  .op (oo 18 (.mov (.tmp 5))) <|
  .op (oo 19 (.ia 1 (.tmp 17) (.tmp 18))) <|
  .op (oo 20 (.ld (.tmp 19) none)) <|
  .op (oo 21 (.mov (.tmp 1))) <|
  .op (oo 22 (.mov (.tmp 5))) <|
  .op (oo 23 (.ia 1 (.tmp 21) (.tmp 22))) <|
  .op (oo 24 (.ld (.tmp 23) none)) <|
  .op (oo 25 (.bin .neq (.tmp 20) (.tmp 24))) <|
  .done
@[simp] def rr10_Ints_r6 : List VOp :=
  [(oo 4 (.mov (.const (kb false))))]
@[simp] def rr10_Ints_r7 : List VOp :=
  [(oo 15 (.mov (.tmp 5))),
   (oo 16 (.bin .add (.tmp 15) (.const (ki 1)))),
   (oo 5 (.mov (.tmp 16)))]
def rr10_Ints_l8 : VCode :=
  (.seq (.seq (.reg rr10_Ints_r4) (.cond (.tmp 14) .skip (.exit 0))) (.seq (.block 1 (.seq (.any rr10_Ints_t5) (.cond (.tmp 25) (.seq (.reg rr10_Ints_r6) .ret) .skip))) (.reg rr10_Ints_r7)))
@[simp] def rr10_Ints_r9 : List VOp :=
  [(oo 4 (.mov (.const (kb true))))]
def rr10_Ints : VCode := (.seq (.reg rr10_Ints_r0) (.seq (.seq (.reg rr10_Ints_r1) (.cond (.tmp 10) (.seq (.reg rr10_Ints_r2) .ret) .skip)) (.seq (.seq (.reg rr10_Ints_r3) (.block 0 (.loop rr10_Ints_l8))) (.seq (.reg rr10_Ints_r9) .ret))))
theorem rr10_Ints_is : fnV prog n_rr10_Ints = some (26, rr10_Ints, [.tmp 4]) := by kernel_rfl
/- rr19_Committed -/
@[simp] def rr19_Committed_r0 : List VOp :=
  [(oo 1 (.box (.tmp 0))),
   (oo 2 (.nils 1))]
@[simp] def rr19_Committed_r1 : List VOp :=
  [(oo 3 (.nils 1))]
@[simp] def rr19_Committed_r2 : List VOp :=
  [(oo 7 (.ld (.tmp 1) (some 3))),
   (oo 8 (.call n_rr18_Txns [(.tmp 7)])),
   (oo 4 (.mov (.tmp 8)))]
@[simp] def rr19_Committed_r3 : List VOp :=
  [(oo 5 (.mov (.const (ki 0))))]
@[simp] def rr19_Committed_r4 : List VOp :=
  [(oo 9 (.mov (.tmp 5))),
   (oo 10 (.mov (.tmp 4))),
   (oo 11 (.len (.tmp 10))),
   (oo 12 (.bin .lss (.tmp 9) (.tmp 11)))]
@[simp] def rr19_Committed_t5 : VT :=
  .op (oo 15 (.ld (.tmp 1) (some 3))) <|
  .op (oo 16 (.mov (.tmp 4))) <|
  .op (oo 17 (.mov (.tmp 5))) <|
  .op (oo 18 (.ia 1 (.tmp 16) (.tmp 17))) <|
  .op (oo 19 (.ld (.tmp 18) none)) <|
  .op (oo 20 (.call n_rr18_Committed [(.tmp 15), (.tmp 19)])) <|
  .op (oo 6 (.mov (.tmp 20))) <|
  .done
@[simp] def rr19_Committed_r6 : List VOp :=
  [(oo 21 (.mov (.tmp 6)))]
@[simp] def rr19_Committed_r7 : List VOp :=
  [(oo 22 (.mov (.tmp 3))),
   (oo 23 (.mov (.tmp 4))),
   (oo 24 (.mov (.tmp 5))),
   (oo 25 (.ia 1 (.tmp 23) (.tmp 24))),
   (oo 26 (.ld (.tmp 25) none)),
   (oo 27 (.lit 1 1 [(0, (.tmp 26))])),
   (oo 28 (.app 1 8 (.tmp 22) (.tmp 27))),
   (oo 3 (.mov (.tmp 28)))]
@[simp] def rr19_Committed_r8 : List VOp :=
  [(oo 13 (.mov (.tmp 5))),
   (oo 14 (.bin .add (.tmp 13) (.const (ki 1)))),
   (oo 5 (.mov (.tmp 14)))]
def rr19_Committed_l9 : VCode :=
  (.seq (.seq (.reg rr19_Committed_r4) (.cond (.tmp 12) .skip (.exit 0))) (.seq (.block 1 (.seq (.any rr19_Committed_t5) (.seq (.reg rr19_Committed_r6) (.cond (.tmp 21) (.reg rr19_Committed_r7) .skip)))) (.reg rr19_Committed_r8)))
@[simp] def rr19_Committed_r10 : List VOp :=
  [(oo 29 (.mov (.tmp 3))),
   (oo 2 (.mov (.tmp 29)))]
def rr19_Committed : VCode := (.seq (.reg rr19_Committed_r0) (.seq (.reg rr19_Committed_r1) (.seq (.reg rr19_Committed_r2) (.seq (.seq (.reg rr19_Committed_r3) (.block 0 (.loop rr19_Committed_l9))) (.seq (.reg rr19_Committed_r10) .ret)))))
theorem rr19_Committed_is : fnV prog n_rr19_Committed = some (30, rr19_Committed, [.tmp 2]) := by kernel_rfl
/- rr19_Row -/
@[simp] def rr19_Row_r0 : List VOp :=
  [(oo 4 (.box (.tmp 0))),
   (oo 6 (.box (.tmp 2))),
   (oo 7 (.box (.tmp 3))),
   (oo 8 (.nils 3)),
   (oo 9 (.mov (.const (kb false))))]
@[simp] def rr19_Row_r1 : List VOp :=
  [(oo 13 (.build [zi, zi] [])),
   (oo 10 (.alloc [zi, zi])),
   (on (.st (.tmp 10) (.tmp 13) 2))]
@[simp] def rr19_Row_r2 : List VOp :=
  [(oo 14 (.ld (.tmp 7) (some 2))),
   (oo 15 (.ld (.tmp 10) (some 2))),
   (oo 16 (.eqs false [.i .i64, .i .i64] (.tmp 14) (.tmp 15)))]
@[simp] def rr19_Row_r3 : List VOp :=
  [(oo 8 (.nils 3)),
   (oo 9 (.mov (.const (kb true))))]
@[simp] def rr19_Row_r4 : List VOp :=
  [(oo 11 (.mov (.const (ki 0))))]
@[simp] def rr19_Row_r5 : List VOp :=
  [(oo 17 (.mov (.tmp 11))),
   (oo 18 (.fa 1 (.tmp 4))),
   (oo 19 (.ld (.tmp 18) none)),
   (oo 20 (.len (.tmp 19))),
   (oo 21 (.bin .lss (.tmp 17) (.tmp 20)))]
@[simp] def rr19_Row_r6 : List VOp :=
  [(oo 24 (.fa 1 (.tmp 4))),
   (oo 25 (.ld (.tmp 24) none)),
   (oo 26 (.mov (.tmp 11))),
   (oo 27 (.ia 22 (.tmp 25) (.tmp 26))),
   (oo 28 (.ld (.tmp 27) (some 22))),
   (oo 12 (.alloc [zi, zi, zi, zi, zb, zi, zs, zi, zi, zi, .nil 3, zi, zi, zb, zi, zs, zb, zi, zs, .nil 9, .nil 5, zb])),
   (on (.st (.tmp 12) (.tmp 28) 22))]
@[simp] def rr19_Row_r7 : List VOp :=
  [(oo 29 (.fa 1 (.tmp 12))),
   (oo 30 (.ld (.tmp 29) none)),
   (oo 31 (.bin .eql (.tmp 30) (.const (ki 3)))),
   (oo 32 (.mov (.tmp 31))),
   (og 33 32 true (.fa 0 (.tmp 12))),
   (og 34 32 true (.ld (.tmp 33) none)),
   (og 35 32 true (.fa 0 (.tmp 7))),
   (og 36 32 true (.ld (.tmp 35) none)),
   (og 37 32 true (.bin .eql (.tmp 34) (.tmp 36))),
   (oo 38 (.pick (.tmp 32) (.tmp 37) (.const (kb false)))),
   (oo 39 (.mov (.tmp 38))),
   (og 40 39 true (.fa 9 (.tmp 12))),
   (og 41 39 true (.ld (.tmp 40) none)),
   (og 42 39 true (.fa 1 (.tmp 7))),
   (og 43 39 true (.ld (.tmp 42) none)),
   (og 44 39 true (.bin .eql (.tmp 41) (.tmp 43))),
   (oo 45 (.pick (.tmp 39) (.tmp 44) (.const (kb false)))),
   (oo 46 (.mov (.tmp 45))),
   (og 47 46 true (.fa 3 (.tmp 12))),
   (og 48 46 true (.ld (.tmp 47) none)),
   (og 49 46 true (.mov (.tmp 1))),
   (og 50 46 true (.bin .eql (.tmp 48) (.tmp 49))),
   (oo 51 (.pick (.tmp 46) (.tmp 50) (.const (kb false)))),
   (oo 52 (.mov (.tmp 51))),
   (og 53 52 true (.fa 4 (.tmp 12))),
   (og 54 52 true (.ld (.tmp 53) (some 3))),
   (og 55 52 true (.ld (.tmp 6) (some 3))),
   (og 56 52 true (.eqs false [.b, .i .i64, .s] (.tmp 54) (.tmp 55))),
   (oo 57 (.pick (.tmp 52) (.tmp 56) (.const (kb false))))]
@[simp] def rr19_Row_r8 : List VOp :=
  [(oo 58 (.fa 10 (.tmp 12))),
   (oo 59 (.ld (.tmp 58) none)),
   (oo 8 (.mov (.tmp 59))),
   (oo 9 (.mov (.const (kb true))))]
@[simp] def rr19_Row_r9 : List VOp :=
  [(oo 22 (.mov (.tmp 11))),
   (oo 23 (.bin .add (.tmp 22) (.const (ki 1)))),
   (oo 11 (.mov (.tmp 23)))]
def rr19_Row_l10 : VCode :=
  (.seq (.seq (.reg rr19_Row_r5) (.cond (.tmp 21) .skip (.exit 0))) (.seq (.block 1 (.seq (.reg rr19_Row_r6) (.seq (.reg rr19_Row_r7) (.cond (.tmp 57) (.seq (.reg rr19_Row_r8) .ret) .skip)))) (.reg rr19_Row_r9)))
@[simp] def rr19_Row_r11 : List VOp :=
  [(oo 8 (.nils 3)),
   (oo 9 (.mov (.const (kb false))))]
def rr19_Row : VCode := (.seq (.reg rr19_Row_r0) (.seq (.reg rr19_Row_r1) (.seq (.seq (.reg rr19_Row_r2) (.cond (.tmp 16) (.seq (.reg rr19_Row_r3) .ret) .skip)) (.seq (.seq (.reg rr19_Row_r4) (.block 0 (.loop rr19_Row_l10))) (.seq (.reg rr19_Row_r11) .ret)))))
theorem rr19_Row_is : fnV prog n_rr19_Row = some (60, rr19_Row, [.tmp 8, .tmp 9]) := by kernel_rfl
/- rr19_Level -/
@[simp] def rr19_Level_r0 : List VOp :=
  [(oo 2 (.box (.tmp 0))),
   (oo 4 (.mov (.const (ki 0))))]
@[simp] def rr19_Level_r1 : List VOp :=
  [(oo 5 (.mov (.const (ki 0))))]
@[simp] def rr19_Level_r2 : List VOp :=
  [(oo 6 (.mov (.tmp 5))),
   (oo 7 (.fa 1 (.tmp 2))),
   (oo 8 (.ld (.tmp 7) none)),
   (oo 9 (.len (.tmp 8))),
   (oo 10 (.bin .lss (.tmp 6) (.tmp 9)))]
@[simp] def rr19_Level_r3 : List VOp :=
  [(oo 13 (.fa 1 (.tmp 2))),
   (oo 14 (.ld (.tmp 13) none)),
   (oo 15 (.mov (.tmp 5))),
   (oo 16 (.ia 22 (.tmp 14) (.tmp 15))),
   (oo 17 (.fa 1 (.tmp 16))),
   (oo 18 (.ld (.tmp 17) none)),
   (oo 19 (.bin .eql (.tmp 18) (.const (ki 1)))),
   (oo 20 (.mov (.tmp 19))),
   (og 21 20 true (.fa 1 (.tmp 2))),
   (og 22 20 true (.ld (.tmp 21) none)),
   (og 23 20 true (.mov (.tmp 5))),
   (og 24 20 true (.ia 22 (.tmp 22) (.tmp 23))),
   (og 25 20 true (.fa 0 (.tmp 24))),
   (og 26 20 true (.ld (.tmp 25) none)),
   (og 27 20 true (.mov (.tmp 1))),
   (og 28 20 true (.bin .eql (.tmp 26) (.tmp 27))),
   (oo 29 (.pick (.tmp 20) (.tmp 28) (.const (kb false))))]
@[simp] def rr19_Level_r4 : List VOp :=
  [(oo 30 (.fa 1 (.tmp 2))),
   (oo 31 (.ld (.tmp 30) none)),
   (oo 32 (.mov (.tmp 5))),
   (oo 33 (.ia 22 (.tmp 31) (.tmp 32))),
   (oo 34 (.fa 2 (.tmp 33))),
   (oo 35 (.ld (.tmp 34) none)),
   (oo 4 (.mov (.tmp 35)))]
@[simp] def rr19_Level_r5 : List VOp :=
  [(oo 11 (.mov (.tmp 5))),
   (oo 12 (.bin .add (.tmp 11) (.const (ki 1)))),
   (oo 5 (.mov (.tmp 12)))]
def rr19_Level_l6 : VCode :=
  (.seq (.seq (.reg rr19_Level_r2) (.cond (.tmp 10) .skip (.exit 0))) (.seq (.block 1 (.seq (.reg rr19_Level_r3) (.cond (.tmp 29) (.seq (.reg rr19_Level_r4) .ret) .skip))) (.reg rr19_Level_r5)))
@[simp] def rr19_Level_r7 : List VOp :=
  [(oo 4 (.mov (.const (ki 0))))]
def rr19_Level : VCode := (.seq (.reg rr19_Level_r0) (.seq (.seq (.reg rr19_Level_r1) (.block 0 (.loop rr19_Level_l6))) (.seq (.reg rr19_Level_r7) .ret)))
theorem rr19_Level_is : fnV prog n_rr19_Level = some (36, rr19_Level, [.tmp 4]) := by kernel_rfl
/- rr19_Versions -/
@[simp] def rr19_Versions_r0 : List VOp :=
  [(oo 4 (.mov (.const (kb false))))]
@[simp] def rr19_Versions_r1 : List VOp :=
  [(oo 6 (.mov (.tmp 0))),
   (oo 7 (.len (.tmp 6))),
   (oo 8 (.mov (.tmp 1))),
   (oo 9 (.len (.tmp 8))),
   (oo 10 (.bin .neq (.tmp 7) (.tmp 9)))]
@[simp] def rr19_Versions_r2 : List VOp :=
  [(oo 4 (.mov (.const (kb false))))]
@[simp] def rr19_Versions_r3 : List VOp :=
  [(oo 5 (.mov (.const (ki 0))))]
@[simp] def rr19_Versions_r4 : List VOp :=
  [(oo 11 (.mov (.tmp 5))),
   (oo 12 (.mov (.tmp 0))),
   (oo 13 (.len (.tmp 12))),
   (oo 14 (.bin .lss (.tmp 11) (.tmp 13)))]
@[simp] def rr19_Versions_t5 : VT :=
  .op (oo 17 (.mov (.tmp 0))) <|
  .op (oo 18 (.mov (.tmp 5))) <|
  .op (oo 19 (.ia 2 (.tmp 17) (.tmp 18))) <|
  .op (oo 20 (.ld (.tmp 19) (some 2))) <|
  .op (oo 21 (.mov (.tmp 1))) <|
  .op (oo 22 (.mov (.tmp 5))) <|
  .op (oo 23 (.ia 2 (.tmp 21) (.tmp 22))) <|
  .op (oo 24 (.ld (.tmp 23) (some 2))) <|
  .op (oo 25 (.eqs true [.i .i64, .i .i64] (.tmp 20) (.tmp 24))) <|
  .done
@[simp] def rr19_Versions_r6 : List VOp :=
  [(oo 4 (.mov (.const (kb false))))]
@[simp] def rr19_Versions_r7 : List VOp :=
  [(oo 15 (.mov (.tmp 5))),
   (oo 16 (.bin .add (.tmp 15) (.const (ki 1)))),
   (oo 5 (.mov (.tmp 16)))]
def rr19_Versions_l8 : VCode :=
  (.seq (.seq (.reg rr19_Versions_r4) (.cond (.tmp 14) .skip (.exit 0))) (.seq (.block 1 (.seq (.any rr19_Versions_t5) (.cond (.tmp 25) (.seq (.reg rr19_Versions_r6) .ret) .skip))) (.reg rr19_Versions_r7)))
@[simp] def rr19_Versions_r9 : List VOp :=
  [(oo 4 (.mov (.const (kb true))))]
def rr19_Versions : VCode := (.seq (.reg rr19_Versions_r0) (.seq (.seq (.reg rr19_Versions_r1) (.cond (.tmp 10) (.seq (.reg rr19_Versions_r2) .ret) .skip)) (.seq (.seq (.reg rr19_Versions_r3) (.block 0 (.loop rr19_Versions_l8))) (.seq (.reg rr19_Versions_r9) .ret))))
theorem rr19_Versions_is : fnV prog n_rr19_Versions = some (26, rr19_Versions, [.tmp 4]) := by kernel_rfl
/- rr19_Chain -/
@[simp] def rr19_Chain_r0 : List VOp :=
  [(oo 3 (.box (.tmp 0))),
   (oo 5 (.box (.tmp 2))),
   (oo 6 (.nils 2))]
@[simp] def rr19_Chain_r1 : List VOp :=
  [(oo 12 (.build [zi, zi] [])),
   (oo 13 (.lit 2 1 [(0, (.tmp 12))])),
   (oo 7 (.mov (.tmp 13)))]
@[simp] def rr19_Chain_r2 : List VOp :=
  [(oo 8 (.mov (.const (ki 0))))]
@[simp] def rr19_Chain_r3 : List VOp :=
  [(oo 14 (.mov (.tmp 8))),
   (oo 15 (.fa 2 (.tmp 3))),
   (oo 16 (.ld (.tmp 15) none)),
   (oo 17 (.len (.tmp 16))),
   (oo 18 (.bin .lss (.tmp 14) (.tmp 17)))]
@[simp] def rr19_Chain_r4 : List VOp :=
  [(oo 21 (.fa 2 (.tmp 3))),
   (oo 22 (.ld (.tmp 21) none)),
   (oo 23 (.mov (.tmp 8))),
   (oo 24 (.ia 5 (.tmp 22) (.tmp 23))),
   (oo 25 (.ld (.tmp 24) (some 5))),
   (oo 9 (.alloc [zi, zb, zi, zs, .nil 1])),
   (on (.st (.tmp 9) (.tmp 25) 5))]
@[simp] def rr19_Chain_r5 : List VOp :=
  [(oo 26 (.fa 0 (.tmp 9))),
   (oo 27 (.ld (.tmp 26) none)),
   (oo 28 (.mov (.tmp 1))),
   (oo 29 (.bin .neq (.tmp 27) (.tmp 28))),
   (oo 30 (.mov (.tmp 29))),
   (og 31 30 false (.fa 1 (.tmp 9))),
   (og 32 30 false (.ld (.tmp 31) (some 3))),
   (og 33 30 false (.ld (.tmp 5) (some 3))),
   (og 34 30 false (.eqs true [.b, .i .i64, .s] (.tmp 32) (.tmp 33))),
   (oo 35 (.pick (.tmp 30) (.const (kb true)) (.tmp 34)))]
@[simp] def rr19_Chain_r6 : List VOp :=
  [(oo 10 (.mov (.const (ki 0))))]
@[simp] def rr19_Chain_r7 : List VOp :=
  [(oo 36 (.mov (.tmp 10))),
   (oo 37 (.fa 4 (.tmp 9))),
   (oo 38 (.ld (.tmp 37) none)),
   (oo 39 (.len (.tmp 38))),
   (oo 40 (.bin .lss (.tmp 36) (.tmp 39)))]
@[simp] def rr19_Chain_t8 : VT :=
  .op (oo 43 (.ld (.tmp 3) (some 3))) <|
  .op (oo 44 (.fa 1 (.tmp 3))) <|
  .op (oo 45 (.ld (.tmp 44) none)) <|
  .op (oo 46 (.len (.tmp 45))) <|
  .op (oo 47 (.fa 4 (.tmp 9))) <|
  .op (oo 48 (.ld (.tmp 47) none)) <|
  .op (oo 49 (.mov (.tmp 10))) <|
  .op (oo 50 (.ia 1 (.tmp 48) (.tmp 49))) <|
  .op (oo 51 (.ld (.tmp 50) none)) <|
  .op (oo 52 (.mov (.tmp 1))) <|
  .op (oo 53 (.ld (.tmp 5) (some 3))) <|
  .op (oo 54 (.call n_rr18_Writes [(.tmp 43), (.tmp 46), (.tmp 51), (.tmp 52), (.tmp 53)])) <|
  .op (oo 11 (.mov (.tmp 54))) <|
  .done
@[simp] def rr19_Chain_r9 : List VOp :=
  [(oo 55 (.mov (.tmp 7))),
   (oo 56 (.fa 4 (.tmp 9))),
   (oo 57 (.ld (.tmp 56) none)),
   (oo 58 (.mov (.tmp 10))),
   (oo 59 (.ia 1 (.tmp 57) (.tmp 58))),
   (oo 60 (.ld (.tmp 59) none)),
   (oo 61 (.mov (.tmp 11))),
   (oo 62 (.build [zi, zi] [(0, 1, (.tmp 60)), (1, 1, (.tmp 61))])),
   (oo 63 (.lit 2 1 [(0, (.tmp 62))])),
   (oo 64 (.app 2 16 (.tmp 55) (.tmp 63))),
   (oo 7 (.mov (.tmp 64)))]
@[simp] def rr19_Chain_r10 : List VOp :=
  [(oo 41 (.mov (.tmp 10))),
   (oo 42 (.bin .add (.tmp 41) (.const (ki 1)))),
   (oo 10 (.mov (.tmp 42)))]
def rr19_Chain_l11 : VCode :=
  (.seq (.seq (.reg rr19_Chain_r7) (.cond (.tmp 40) .skip (.exit 2))) (.seq (.block 3 (.seq (.any rr19_Chain_t8) (.reg rr19_Chain_r9))) (.reg rr19_Chain_r10)))
@[simp] def rr19_Chain_r12 : List VOp :=
  [(oo 19 (.mov (.tmp 8))),
   (oo 20 (.bin .add (.tmp 19) (.const (ki 1)))),
   (oo 8 (.mov (.tmp 20)))]
def rr19_Chain_l13 : VCode :=
  (.seq (.seq (.reg rr19_Chain_r3) (.cond (.tmp 18) .skip (.exit 0))) (.seq (.block 1 (.seq (.reg rr19_Chain_r4) (.seq (.seq (.reg rr19_Chain_r5) (.cond (.tmp 35) (.exit 1) .skip)) (.seq (.reg rr19_Chain_r6) (.block 2 (.loop rr19_Chain_l11)))))) (.reg rr19_Chain_r12)))
@[simp] def rr19_Chain_r14 : List VOp :=
  [(oo 65 (.mov (.tmp 7))),
   (oo 6 (.mov (.tmp 65)))]
def rr19_Chain : VCode := (.seq (.reg rr19_Chain_r0) (.seq (.reg rr19_Chain_r1) (.seq (.seq (.reg rr19_Chain_r2) (.block 0 (.loop rr19_Chain_l13))) (.seq (.reg rr19_Chain_r14) .ret))))
theorem rr19_Chain_is : fnV prog n_rr19_Chain = some (66, rr19_Chain, [.tmp 6]) := by kernel_rfl
/- rr19_Place -/
@[simp] def rr19_Place_r0 : List VOp :=
  [(oo 4 (.box (.tmp 0))),
   (oo 6 (.box (.tmp 2))),
   (oo 7 (.box (.tmp 3))),
   (oo 8 (.mov (.const (ki 0))))]
@[simp] def rr19_Place_r1 : List VOp :=
  [(oo 14 (.ld (.tmp 4) (some 3))),
   (oo 15 (.mov (.tmp 1))),
   (oo 16 (.ld (.tmp 6) (some 3))),
   (oo 17 (.ld (.tmp 7) (some 2))),
   (oo 18 (.call n_rr19_Row [(.tmp 14), (.tmp 15), (.tmp 16), (.tmp 17)])),
   (oo 13 (.mov (.tmp 18))),
   (oo 19 (.ext 0 (.tmp 13))),
   (oo 20 (.ext 1 (.tmp 13))),
   (oo 9 (.mov (.tmp 19))),
   (oo 10 (.mov (.tmp 20)))]
@[simp] def rr19_Place_r2 : List VOp :=
  [(oo 21 (.ld (.tmp 4) (some 3))),
   (oo 22 (.mov (.tmp 1))),
   (oo 23 (.ld (.tmp 6) (some 3))),
   (oo 24 (.call n_rr19_Chain [(.tmp 21), (.tmp 22), (.tmp 23)])),
   (oo 11 (.mov (.tmp 24)))]
@[simp] def rr19_Place_r3 : List VOp :=
  [(oo 12 (.mov (.const (ki 0))))]
@[simp] def rr19_Place_r4 : List VOp :=
  [(oo 25 (.mov (.tmp 12))),
   (oo 26 (.mov (.tmp 11))),
   (oo 27 (.len (.tmp 26))),
   (oo 28 (.bin .lss (.tmp 25) (.tmp 27))),
   (oo 29 (.mov (.tmp 28))),
   (og 30 29 true (.mov (.tmp 10))),
   (oo 31 (.pick (.tmp 29) (.tmp 30) (.const (kb false))))]
@[simp] def rr19_Place_t5 : VT :=
  .op (oo 34 (.mov (.tmp 11))) <|
  .op (oo 35 (.mov (.tmp 12))) <|
  .op (oo 36 (.ia 2 (.tmp 34) (.tmp 35))) <|
  .op (oo 37 (.fa 0 (.tmp 36))) <|
  .op (oo 38 (.ld (.tmp 37) none)) <|
  .op (oo 39 (.fa 0 (.tmp 7))) <|
  .op (oo 40 (.ld (.tmp 39) none)) <|
  .op (oo 41 (.bin .eql (.tmp 38) (.tmp 40))) <|
  .done
@[simp] def rr19_Place_r6 : List VOp :=
  [(oo 42 (.mov (.tmp 12))),
   (oo 8 (.mov (.tmp 42)))]
@[simp] def rr19_Place_r7 : List VOp :=
  [(oo 32 (.mov (.tmp 12))),
   (oo 33 (.bin .add (.tmp 32) (.const (ki 1)))),
   (oo 12 (.mov (.tmp 33)))]
def rr19_Place_l8 : VCode :=
  (.seq (.seq (.reg rr19_Place_r4) (.cond (.tmp 31) .skip (.exit 0))) (.seq (.block 1 (.seq (.any rr19_Place_t5) (.cond (.tmp 41) (.seq (.reg rr19_Place_r6) .ret) .skip))) (.reg rr19_Place_r7)))
@[simp] def rr19_Place_r9 : List VOp :=
  [(oo 8 (.mov (.const (ki (-1)))))]
def rr19_Place : VCode := (.seq (.reg rr19_Place_r0) (.seq (.reg rr19_Place_r1) (.seq (.reg rr19_Place_r2) (.seq (.seq (.reg rr19_Place_r3) (.block 0 (.loop rr19_Place_l8))) (.seq (.reg rr19_Place_r9) .ret)))))
theorem rr19_Place_is : fnV prog n_rr19_Place = some (43, rr19_Place, [.tmp 8]) := by kernel_rfl
/- rr19_Changes -/
@[simp] def rr19_Changes_r0 : List VOp :=
  [(oo 5 (.box (.tmp 0))),
   (oo 7 (.box (.tmp 2))),
   (oo 9 (.box (.tmp 4))),
   (oo 10 (.mov (.const (kb false))))]
@[simp] def rr19_Changes_r1 : List VOp :=
  [(oo 12 (.ld (.tmp 5) (some 3))),
   (oo 13 (.mov (.tmp 1))),
   (oo 14 (.ld (.tmp 7) (some 3))),
   (oo 15 (.call n_rr19_Chain [(.tmp 12), (.tmp 13), (.tmp 14)])),
   (oo 11 (.mov (.tmp 15)))]
@[simp] def rr19_Changes_r2 : List VOp :=
  [(oo 16 (.mov (.tmp 3))),
   (oo 17 (.bin .lss (.tmp 16) (.const (ki 1)))),
   (oo 18 (.mov (.tmp 17))),
   (og 19 18 false (.mov (.tmp 3))),
   (og 20 18 false (.mov (.tmp 11))),
   (og 21 18 false (.len (.tmp 20))),
   (og 22 18 false (.bin .geq (.tmp 19) (.tmp 21))),
   (oo 23 (.pick (.tmp 18) (.const (kb true)) (.tmp 22)))]
@[simp] def rr19_Changes_r3 : List VOp :=
  [(oo 10 (.mov (.const (kb false))))]
@[simp] def rr19_Changes_s0 : VT :=
  .op (oo 33 (.call n_rr19_Holds [(.tmp 24), (.tmp 25), (.tmp 26), (.tmp 31), (.tmp 32)])) <|
  .op (oo 34 (.ld (.tmp 5) (some 3))) <|
  .op (oo 36 (.ld (.tmp 7) (some 3))) <|
  .op (oo 40 (.ld (.tmp 39) (some 2))) <|
  .op (oo 41 (.ld (.tmp 9) (some 9))) <|
  .op (oo 42 (.call n_rr19_Holds [(.tmp 34), (.tmp 35), (.tmp 36), (.tmp 40), (.tmp 41)])) <|
  .op (oo 43 (.beq true (.tmp 33) (.tmp 42))) <|
  .op (oo 10 (.mov (.tmp 43))) <|
  .done
@[simp] def rr19_Changes_s1 : VT :=
  .op (oo 33 (.call n_rr19_Holds [(.tmp 24), (.tmp 25), (.tmp 26), (.tmp 31), (.tmp 32)])) <|
  .op (oo 36 (.ld (.tmp 7) (some 3))) <|
  .op (oo 40 (.ld (.tmp 39) (some 2))) <|
  .op (oo 41 (.ld (.tmp 9) (some 9))) <|
  .op (oo 42 (.call n_rr19_Holds [(.tmp 34), (.tmp 35), (.tmp 36), (.tmp 40), (.tmp 41)])) <|
  .op (oo 43 (.beq true (.tmp 33) (.tmp 42))) <|
  .op (oo 10 (.mov (.tmp 43))) <|
  .done
@[simp] def rr19_Changes_s2 : VT :=
  .op (oo 33 (.call n_rr19_Holds [(.tmp 24), (.tmp 25), (.tmp 26), (.tmp 31), (.tmp 32)])) <|
  .op (oo 40 (.ld (.tmp 39) (some 2))) <|
  .op (oo 41 (.ld (.tmp 9) (some 9))) <|
  .op (oo 42 (.call n_rr19_Holds [(.tmp 34), (.tmp 35), (.tmp 36), (.tmp 40), (.tmp 41)])) <|
  .op (oo 43 (.beq true (.tmp 33) (.tmp 42))) <|
  .op (oo 10 (.mov (.tmp 43))) <|
  .done
@[simp] def rr19_Changes_s3 : VT :=
  .op (oo 33 (.call n_rr19_Holds [(.tmp 24), (.tmp 25), (.tmp 26), (.tmp 31), (.tmp 32)])) <|
  .op (oo 41 (.ld (.tmp 9) (some 9))) <|
  .op (oo 42 (.call n_rr19_Holds [(.tmp 34), (.tmp 35), (.tmp 36), (.tmp 40), (.tmp 41)])) <|
  .op (oo 43 (.beq true (.tmp 33) (.tmp 42))) <|
  .op (oo 10 (.mov (.tmp 43))) <|
  .done
@[simp] def rr19_Changes_s4 : VT :=
  .op (oo 41 (.ld (.tmp 9) (some 9))) <|
  .op (oo 33 (.call n_rr19_Holds [(.tmp 24), (.tmp 25), (.tmp 26), (.tmp 31), (.tmp 32)])) <|
  .op (oo 42 (.call n_rr19_Holds [(.tmp 34), (.tmp 35), (.tmp 36), (.tmp 40), (.tmp 41)])) <|
  .op (oo 43 (.beq true (.tmp 33) (.tmp 42))) <|
  .op (oo 10 (.mov (.tmp 43))) <|
  .done
@[simp] def rr19_Changes_s5 : VT :=
  .op (oo 40 (.ld (.tmp 39) (some 2))) <|
  .alt (rr19_Changes_s3) (rr19_Changes_s4)
@[simp] def rr19_Changes_s6 : VT :=
  .op (oo 33 (.call n_rr19_Holds [(.tmp 24), (.tmp 25), (.tmp 26), (.tmp 31), (.tmp 32)])) <|
  .op (oo 40 (.ld (.tmp 39) (some 2))) <|
  .op (oo 42 (.call n_rr19_Holds [(.tmp 34), (.tmp 35), (.tmp 36), (.tmp 40), (.tmp 41)])) <|
  .op (oo 43 (.beq true (.tmp 33) (.tmp 42))) <|
  .op (oo 10 (.mov (.tmp 43))) <|
  .done
@[simp] def rr19_Changes_s7 : VT :=
  .op (oo 40 (.ld (.tmp 39) (some 2))) <|
  .op (oo 33 (.call n_rr19_Holds [(.tmp 24), (.tmp 25), (.tmp 26), (.tmp 31), (.tmp 32)])) <|
  .op (oo 42 (.call n_rr19_Holds [(.tmp 34), (.tmp 35), (.tmp 36), (.tmp 40), (.tmp 41)])) <|
  .op (oo 43 (.beq true (.tmp 33) (.tmp 42))) <|
  .op (oo 10 (.mov (.tmp 43))) <|
  .done
@[simp] def rr19_Changes_s8 : VT :=
  .op (oo 41 (.ld (.tmp 9) (some 9))) <|
  .alt (rr19_Changes_s6) (rr19_Changes_s7)
@[simp] def rr19_Changes_s9 : VT :=
  .op (oo 36 (.ld (.tmp 7) (some 3))) <|
  .alt (rr19_Changes_s2) (  .alt (rr19_Changes_s5) (rr19_Changes_s8))
@[simp] def rr19_Changes_s10 : VT :=
  .op (oo 33 (.call n_rr19_Holds [(.tmp 24), (.tmp 25), (.tmp 26), (.tmp 31), (.tmp 32)])) <|
  .op (oo 36 (.ld (.tmp 7) (some 3))) <|
  .op (oo 41 (.ld (.tmp 9) (some 9))) <|
  .op (oo 42 (.call n_rr19_Holds [(.tmp 34), (.tmp 35), (.tmp 36), (.tmp 40), (.tmp 41)])) <|
  .op (oo 43 (.beq true (.tmp 33) (.tmp 42))) <|
  .op (oo 10 (.mov (.tmp 43))) <|
  .done
@[simp] def rr19_Changes_s11 : VT :=
  .op (oo 36 (.ld (.tmp 7) (some 3))) <|
  .alt (rr19_Changes_s3) (rr19_Changes_s4)
@[simp] def rr19_Changes_s12 : VT :=
  .op (oo 33 (.call n_rr19_Holds [(.tmp 24), (.tmp 25), (.tmp 26), (.tmp 31), (.tmp 32)])) <|
  .op (oo 36 (.ld (.tmp 7) (some 3))) <|
  .op (oo 42 (.call n_rr19_Holds [(.tmp 34), (.tmp 35), (.tmp 36), (.tmp 40), (.tmp 41)])) <|
  .op (oo 43 (.beq true (.tmp 33) (.tmp 42))) <|
  .op (oo 10 (.mov (.tmp 43))) <|
  .done
@[simp] def rr19_Changes_s13 : VT :=
  .op (oo 36 (.ld (.tmp 7) (some 3))) <|
  .op (oo 33 (.call n_rr19_Holds [(.tmp 24), (.tmp 25), (.tmp 26), (.tmp 31), (.tmp 32)])) <|
  .op (oo 42 (.call n_rr19_Holds [(.tmp 34), (.tmp 35), (.tmp 36), (.tmp 40), (.tmp 41)])) <|
  .op (oo 43 (.beq true (.tmp 33) (.tmp 42))) <|
  .op (oo 10 (.mov (.tmp 43))) <|
  .done
@[simp] def rr19_Changes_s14 : VT :=
  .op (oo 41 (.ld (.tmp 9) (some 9))) <|
  .alt (rr19_Changes_s12) (rr19_Changes_s13)
@[simp] def rr19_Changes_s15 : VT :=
  .alt (rr19_Changes_s11) (rr19_Changes_s14)
@[simp] def rr19_Changes_s16 : VT :=
  .op (oo 40 (.ld (.tmp 39) (some 2))) <|
  .alt (rr19_Changes_s10) (rr19_Changes_s15)
@[simp] def rr19_Changes_s17 : VT :=
  .op (oo 33 (.call n_rr19_Holds [(.tmp 24), (.tmp 25), (.tmp 26), (.tmp 31), (.tmp 32)])) <|
  .op (oo 36 (.ld (.tmp 7) (some 3))) <|
  .op (oo 40 (.ld (.tmp 39) (some 2))) <|
  .op (oo 42 (.call n_rr19_Holds [(.tmp 34), (.tmp 35), (.tmp 36), (.tmp 40), (.tmp 41)])) <|
  .op (oo 43 (.beq true (.tmp 33) (.tmp 42))) <|
  .op (oo 10 (.mov (.tmp 43))) <|
  .done
@[simp] def rr19_Changes_s18 : VT :=
  .op (oo 36 (.ld (.tmp 7) (some 3))) <|
  .alt (rr19_Changes_s6) (rr19_Changes_s7)
@[simp] def rr19_Changes_s19 : VT :=
  .op (oo 40 (.ld (.tmp 39) (some 2))) <|
  .alt (rr19_Changes_s12) (rr19_Changes_s13)
@[simp] def rr19_Changes_s20 : VT :=
  .alt (rr19_Changes_s18) (rr19_Changes_s19)
@[simp] def rr19_Changes_s21 : VT :=
  .op (oo 41 (.ld (.tmp 9) (some 9))) <|
  .alt (rr19_Changes_s17) (rr19_Changes_s20)
@[simp] def rr19_Changes_s22 : VT :=
  .alt (rr19_Changes_s16) (rr19_Changes_s21)
@[simp] def rr19_Changes_s23 : VT :=
  .op (oo 34 (.ld (.tmp 5) (some 3))) <|
  .alt (rr19_Changes_s1) (  .alt (rr19_Changes_s9) (rr19_Changes_s22))
@[simp] def rr19_Changes_s24 : VT :=
  .op (oo 33 (.call n_rr19_Holds [(.tmp 24), (.tmp 25), (.tmp 26), (.tmp 31), (.tmp 32)])) <|
  .op (oo 34 (.ld (.tmp 5) (some 3))) <|
  .op (oo 40 (.ld (.tmp 39) (some 2))) <|
  .op (oo 41 (.ld (.tmp 9) (some 9))) <|
  .op (oo 42 (.call n_rr19_Holds [(.tmp 34), (.tmp 35), (.tmp 36), (.tmp 40), (.tmp 41)])) <|
  .op (oo 43 (.beq true (.tmp 33) (.tmp 42))) <|
  .op (oo 10 (.mov (.tmp 43))) <|
  .done
@[simp] def rr19_Changes_s25 : VT :=
  .op (oo 34 (.ld (.tmp 5) (some 3))) <|
  .alt (rr19_Changes_s2) (  .alt (rr19_Changes_s5) (rr19_Changes_s8))
@[simp] def rr19_Changes_s26 : VT :=
  .op (oo 33 (.call n_rr19_Holds [(.tmp 24), (.tmp 25), (.tmp 26), (.tmp 31), (.tmp 32)])) <|
  .op (oo 34 (.ld (.tmp 5) (some 3))) <|
  .op (oo 41 (.ld (.tmp 9) (some 9))) <|
  .op (oo 42 (.call n_rr19_Holds [(.tmp 34), (.tmp 35), (.tmp 36), (.tmp 40), (.tmp 41)])) <|
  .op (oo 43 (.beq true (.tmp 33) (.tmp 42))) <|
  .op (oo 10 (.mov (.tmp 43))) <|
  .done
@[simp] def rr19_Changes_s27 : VT :=
  .op (oo 34 (.ld (.tmp 5) (some 3))) <|
  .alt (rr19_Changes_s3) (rr19_Changes_s4)
@[simp] def rr19_Changes_s28 : VT :=
  .op (oo 33 (.call n_rr19_Holds [(.tmp 24), (.tmp 25), (.tmp 26), (.tmp 31), (.tmp 32)])) <|
  .op (oo 34 (.ld (.tmp 5) (some 3))) <|
  .op (oo 42 (.call n_rr19_Holds [(.tmp 34), (.tmp 35), (.tmp 36), (.tmp 40), (.tmp 41)])) <|
  .op (oo 43 (.beq true (.tmp 33) (.tmp 42))) <|
  .op (oo 10 (.mov (.tmp 43))) <|
  .done
@[simp] def rr19_Changes_s29 : VT :=
  .op (oo 34 (.ld (.tmp 5) (some 3))) <|
  .op (oo 33 (.call n_rr19_Holds [(.tmp 24), (.tmp 25), (.tmp 26), (.tmp 31), (.tmp 32)])) <|
  .op (oo 42 (.call n_rr19_Holds [(.tmp 34), (.tmp 35), (.tmp 36), (.tmp 40), (.tmp 41)])) <|
  .op (oo 43 (.beq true (.tmp 33) (.tmp 42))) <|
  .op (oo 10 (.mov (.tmp 43))) <|
  .done
@[simp] def rr19_Changes_s30 : VT :=
  .op (oo 41 (.ld (.tmp 9) (some 9))) <|
  .alt (rr19_Changes_s28) (rr19_Changes_s29)
@[simp] def rr19_Changes_s31 : VT :=
  .alt (rr19_Changes_s27) (rr19_Changes_s30)
@[simp] def rr19_Changes_s32 : VT :=
  .op (oo 40 (.ld (.tmp 39) (some 2))) <|
  .alt (rr19_Changes_s26) (rr19_Changes_s31)
@[simp] def rr19_Changes_s33 : VT :=
  .op (oo 33 (.call n_rr19_Holds [(.tmp 24), (.tmp 25), (.tmp 26), (.tmp 31), (.tmp 32)])) <|
  .op (oo 34 (.ld (.tmp 5) (some 3))) <|
  .op (oo 40 (.ld (.tmp 39) (some 2))) <|
  .op (oo 42 (.call n_rr19_Holds [(.tmp 34), (.tmp 35), (.tmp 36), (.tmp 40), (.tmp 41)])) <|
  .op (oo 43 (.beq true (.tmp 33) (.tmp 42))) <|
  .op (oo 10 (.mov (.tmp 43))) <|
  .done
@[simp] def rr19_Changes_s34 : VT :=
  .op (oo 34 (.ld (.tmp 5) (some 3))) <|
  .alt (rr19_Changes_s6) (rr19_Changes_s7)
@[simp] def rr19_Changes_s35 : VT :=
  .op (oo 40 (.ld (.tmp 39) (some 2))) <|
  .alt (rr19_Changes_s28) (rr19_Changes_s29)
@[simp] def rr19_Changes_s36 : VT :=
  .alt (rr19_Changes_s34) (rr19_Changes_s35)
@[simp] def rr19_Changes_s37 : VT :=
  .op (oo 41 (.ld (.tmp 9) (some 9))) <|
  .alt (rr19_Changes_s33) (rr19_Changes_s36)
@[simp] def rr19_Changes_s38 : VT :=
  .alt (rr19_Changes_s32) (rr19_Changes_s37)
@[simp] def rr19_Changes_s39 : VT :=
  .alt (rr19_Changes_s25) (rr19_Changes_s38)
@[simp] def rr19_Changes_s40 : VT :=
  .op (oo 36 (.ld (.tmp 7) (some 3))) <|
  .alt (rr19_Changes_s24) (rr19_Changes_s39)
@[simp] def rr19_Changes_s41 : VT :=
  .op (oo 33 (.call n_rr19_Holds [(.tmp 24), (.tmp 25), (.tmp 26), (.tmp 31), (.tmp 32)])) <|
  .op (oo 34 (.ld (.tmp 5) (some 3))) <|
  .op (oo 36 (.ld (.tmp 7) (some 3))) <|
  .op (oo 41 (.ld (.tmp 9) (some 9))) <|
  .op (oo 42 (.call n_rr19_Holds [(.tmp 34), (.tmp 35), (.tmp 36), (.tmp 40), (.tmp 41)])) <|
  .op (oo 43 (.beq true (.tmp 33) (.tmp 42))) <|
  .op (oo 10 (.mov (.tmp 43))) <|
  .done
@[simp] def rr19_Changes_s42 : VT :=
  .op (oo 34 (.ld (.tmp 5) (some 3))) <|
  .alt (rr19_Changes_s10) (rr19_Changes_s15)
@[simp] def rr19_Changes_s43 : VT :=
  .op (oo 36 (.ld (.tmp 7) (some 3))) <|
  .alt (rr19_Changes_s26) (rr19_Changes_s31)
@[simp] def rr19_Changes_s44 : VT :=
  .op (oo 33 (.call n_rr19_Holds [(.tmp 24), (.tmp 25), (.tmp 26), (.tmp 31), (.tmp 32)])) <|
  .op (oo 34 (.ld (.tmp 5) (some 3))) <|
  .op (oo 36 (.ld (.tmp 7) (some 3))) <|
  .op (oo 42 (.call n_rr19_Holds [(.tmp 34), (.tmp 35), (.tmp 36), (.tmp 40), (.tmp 41)])) <|
  .op (oo 43 (.beq true (.tmp 33) (.tmp 42))) <|
  .op (oo 10 (.mov (.tmp 43))) <|
  .done
@[simp] def rr19_Changes_s45 : VT :=
  .op (oo 34 (.ld (.tmp 5) (some 3))) <|
  .alt (rr19_Changes_s12) (rr19_Changes_s13)
@[simp] def rr19_Changes_s46 : VT :=
  .op (oo 36 (.ld (.tmp 7) (some 3))) <|
  .alt (rr19_Changes_s28) (rr19_Changes_s29)
@[simp] def rr19_Changes_s47 : VT :=
  .alt (rr19_Changes_s45) (rr19_Changes_s46)
@[simp] def rr19_Changes_s48 : VT :=
  .op (oo 41 (.ld (.tmp 9) (some 9))) <|
  .alt (rr19_Changes_s44) (rr19_Changes_s47)
@[simp] def rr19_Changes_s49 : VT :=
  .alt (rr19_Changes_s43) (rr19_Changes_s48)
@[simp] def rr19_Changes_s50 : VT :=
  .alt (rr19_Changes_s42) (rr19_Changes_s49)
@[simp] def rr19_Changes_s51 : VT :=
  .op (oo 40 (.ld (.tmp 39) (some 2))) <|
  .alt (rr19_Changes_s41) (rr19_Changes_s50)
@[simp] def rr19_Changes_s52 : VT :=
  .op (oo 33 (.call n_rr19_Holds [(.tmp 24), (.tmp 25), (.tmp 26), (.tmp 31), (.tmp 32)])) <|
  .op (oo 34 (.ld (.tmp 5) (some 3))) <|
  .op (oo 36 (.ld (.tmp 7) (some 3))) <|
  .op (oo 40 (.ld (.tmp 39) (some 2))) <|
  .op (oo 42 (.call n_rr19_Holds [(.tmp 34), (.tmp 35), (.tmp 36), (.tmp 40), (.tmp 41)])) <|
  .op (oo 43 (.beq true (.tmp 33) (.tmp 42))) <|
  .op (oo 10 (.mov (.tmp 43))) <|
  .done
@[simp] def rr19_Changes_s53 : VT :=
  .op (oo 34 (.ld (.tmp 5) (some 3))) <|
  .alt (rr19_Changes_s17) (rr19_Changes_s20)
@[simp] def rr19_Changes_s54 : VT :=
  .op (oo 36 (.ld (.tmp 7) (some 3))) <|
  .alt (rr19_Changes_s33) (rr19_Changes_s36)
@[simp] def rr19_Changes_s55 : VT :=
  .op (oo 40 (.ld (.tmp 39) (some 2))) <|
  .alt (rr19_Changes_s44) (rr19_Changes_s47)
@[simp] def rr19_Changes_s56 : VT :=
  .alt (rr19_Changes_s54) (rr19_Changes_s55)
@[simp] def rr19_Changes_s57 : VT :=
  .alt (rr19_Changes_s53) (rr19_Changes_s56)
@[simp] def rr19_Changes_s58 : VT :=
  .op (oo 41 (.ld (.tmp 9) (some 9))) <|
  .alt (rr19_Changes_s52) (rr19_Changes_s57)
@[simp] def rr19_Changes_s59 : VT :=
  .alt (rr19_Changes_s51) (rr19_Changes_s58)
@[simp] def rr19_Changes_s60 : VT :=
  .alt (rr19_Changes_s40) (rr19_Changes_s59)
@[simp] def rr19_Changes_s61 : VT :=
  .alt (rr19_Changes_s23) (rr19_Changes_s60)
@[simp] def rr19_Changes_t4 : VT :=
  .op (oo 24 (.ld (.tmp 5) (some 3))) <|
  .op (oo 25 (.mov (.tmp 1))) <|
  .op (oo 26 (.ld (.tmp 7) (some 3))) <|
  .op (oo 27 (.mov (.tmp 11))) <|
  .op (oo 28 (.mov (.tmp 3))) <|
  .op (oo 29 (.bin .sub (.tmp 28) (.const (ki 1)))) <|
  .op (oo 30 (.ia 2 (.tmp 27) (.tmp 29))) <|
  .op (oo 31 (.ld (.tmp 30) (some 2))) <|
  .op (oo 32 (.ld (.tmp 9) (some 9))) <|
  .op (oo 35 (.mov (.tmp 1))) <|
  .op (oo 37 (.mov (.tmp 11))) <|
  .op (oo 38 (.mov (.tmp 3))) <|
  .op (oo 39 (.ia 2 (.tmp 37) (.tmp 38))) <|
  .alt (rr19_Changes_s0) (rr19_Changes_s61)
def rr19_Changes : VCode := (.seq (.reg rr19_Changes_r0) (.seq (.reg rr19_Changes_r1) (.seq (.seq (.reg rr19_Changes_r2) (.cond (.tmp 23) (.seq (.reg rr19_Changes_r3) .ret) .skip)) (.seq (.any rr19_Changes_t4) .ret))))
theorem rr19_Changes_is : fnV prog n_rr19_Changes = some (44, rr19_Changes, [.tmp 10]) := by kernel_rfl
/- rr18_Txns -/
@[simp] def rr18_Txns_r0 : List VOp :=
  [(oo 1 (.box (.tmp 0))),
   (oo 2 (.nils 1))]
@[simp] def rr18_Txns_r1 : List VOp :=
  [(oo 3 (.nils 1))]
@[simp] def rr18_Txns_r2 : List VOp :=
  [(oo 4 (.mov (.const (ki 0))))]
@[simp] def rr18_Txns_r3 : List VOp :=
  [(oo 8 (.mov (.tmp 4))),
   (oo 9 (.fa 1 (.tmp 1))),
   (oo 10 (.ld (.tmp 9) none)),
   (oo 11 (.len (.tmp 10))),
   (oo 12 (.bin .lss (.tmp 8) (.tmp 11)))]
@[simp] def rr18_Txns_r4 : List VOp :=
  [(oo 15 (.fa 1 (.tmp 1))),
   (oo 16 (.ld (.tmp 15) none)),
   (oo 17 (.mov (.tmp 4))),
   (oo 18 (.ia 22 (.tmp 16) (.tmp 17))),
   (oo 19 (.ld (.tmp 18) (some 22))),
   (oo 5 (.alloc [zi, zi, zi, zi, zb, zi, zs, zi, zi, zi, .nil 3, zi, zi, zb, zi, zs, zb, zi, zs, .nil 9, .nil 5, zb])),
   (on (.st (.tmp 5) (.tmp 19) 22))]
@[simp] def rr18_Txns_r5 : List VOp :=
  [(oo 20 (.fa 1 (.tmp 5))),
   (oo 21 (.ld (.tmp 20) none)),
   (oo 22 (.bin .neq (.tmp 21) (.const (ki 1))))]
@[simp] def rr18_Txns_r6 : List VOp :=
  [(oo 6 (.mov (.const (ki 0))))]
@[simp] def rr18_Txns_t7 : VT :=
  .op (oo 23 (.mov (.tmp 6))) <|
  .op (oo 24 (.mov (.tmp 3))) <|
  .op (oo 25 (.len (.tmp 24))) <|
  .op (oo 26 (.bin .lss (.tmp 23) (.tmp 25))) <|
  .op (oo 27 (.mov (.tmp 26))) <|
  .op (og 28 27 true (.mov (.tmp 3))) <|
  .op (og 29 27 true (.mov (.tmp 6))) <|
  .op (og 30 27 true (.ia 1 (.tmp 28) (.tmp 29))) <|
  .op (og 31 27 true (.ld (.tmp 30) none)) <|
  .op (og 32 27 true (.fa 0 (.tmp 5))) <|
  .op (og 33 27 true (.ld (.tmp 32) none)) <|
  .op (og 34 27 true (.bin .lss (.tmp 31) (.tmp 33))) <|
  .op (oo 35 (.pick (.tmp 27) (.tmp 34) (.const (kb false)))) <|
  .done
@[simp] def rr18_Txns_r8 : List VOp :=
  [(oo 36 (.mov (.tmp 6))),
   (oo 37 (.bin .add (.tmp 36) (.const (ki 1)))),
   (oo 6 (.mov (.tmp 37)))]
def rr18_Txns_l9 : VCode :=
  (.seq (.seq (.any rr18_Txns_t7) (.cond (.tmp 35) .skip (.exit 2))) (.block 3 (.reg rr18_Txns_r8)))
@[simp] def rr18_Txns_t10 : VT :=
  .op (oo 38 (.mov (.tmp 6))) <|
  .op (oo 39 (.mov (.tmp 3))) <|
  .op (oo 40 (.len (.tmp 39))) <|
  .op (oo 41 (.bin .lss (.tmp 38) (.tmp 40))) <|
  .op (oo 42 (.mov (.tmp 41))) <|
  .op (og 43 42 true (.mov (.tmp 3))) <|
  .op (og 44 42 true (.mov (.tmp 6))) <|
  .op (og 45 42 true (.ia 1 (.tmp 43) (.tmp 44))) <|
  .op (og 46 42 true (.ld (.tmp 45) none)) <|
  .op (og 47 42 true (.fa 0 (.tmp 5))) <|
  .op (og 48 42 true (.ld (.tmp 47) none)) <|
  .op (og 49 42 true (.bin .eql (.tmp 46) (.tmp 48))) <|
  .op (oo 50 (.pick (.tmp 42) (.tmp 49) (.const (kb false)))) <|
  .done
@[simp] def rr18_Txns_r11 : List VOp :=
  [(oo 7 (.nils 1))]
@[simp] def rr18_Txns_r12 : List VOp :=
  [(oo 51 (.mov (.tmp 7))),
   (oo 52 (.mov (.tmp 3))),
   (oo 53 (.mov (.tmp 6))),
   (oo 54 (.cut 1 (.tmp 52) none (some (.tmp 53)))),
   (oo 55 (.app 1 8 (.tmp 51) (.tmp 54))),
   (oo 7 (.mov (.tmp 55)))]
@[simp] def rr18_Txns_r13 : List VOp :=
  [(oo 56 (.mov (.tmp 7))),
   (oo 57 (.fa 0 (.tmp 5))),
   (oo 58 (.ld (.tmp 57) none)),
   (oo 59 (.lit 1 1 [(0, (.tmp 58))])),
   (oo 60 (.app 1 8 (.tmp 56) (.tmp 59))),
   (oo 7 (.mov (.tmp 60)))]
@[simp] def rr18_Txns_r14 : List VOp :=
  [(oo 61 (.mov (.tmp 7))),
   (oo 62 (.mov (.tmp 3))),
   (oo 63 (.mov (.tmp 6))),
   (oo 64 (.cut 1 (.tmp 62) (some (.tmp 63)) none)),
   (oo 65 (.app 1 8 (.tmp 61) (.tmp 64))),
   (oo 7 (.mov (.tmp 65)))]
@[simp] def rr18_Txns_r15 : List VOp :=
  [(oo 66 (.mov (.tmp 7))),
   (oo 3 (.mov (.tmp 66)))]
@[simp] def rr18_Txns_r16 : List VOp :=
  [(oo 13 (.mov (.tmp 4))),
   (oo 14 (.bin .add (.tmp 13) (.const (ki 1)))),
   (oo 4 (.mov (.tmp 14)))]
def rr18_Txns_l17 : VCode :=
  (.seq (.seq (.reg rr18_Txns_r3) (.cond (.tmp 12) .skip (.exit 0))) (.seq (.block 1 (.seq (.reg rr18_Txns_r4) (.seq (.seq (.reg rr18_Txns_r5) (.cond (.tmp 22) (.exit 1) .skip)) (.seq (.reg rr18_Txns_r6) (.seq (.block 2 (.loop rr18_Txns_l9)) (.seq (.seq (.any rr18_Txns_t10) (.cond (.tmp 50) (.exit 1) .skip)) (.seq (.reg rr18_Txns_r11) (.seq (.reg rr18_Txns_r12) (.seq (.reg rr18_Txns_r13) (.seq (.reg rr18_Txns_r14) (.reg rr18_Txns_r15))))))))))) (.reg rr18_Txns_r16)))
@[simp] def rr18_Txns_r18 : List VOp :=
  [(oo 67 (.mov (.tmp 3))),
   (oo 2 (.mov (.tmp 67)))]
def rr18_Txns : VCode := (.seq (.reg rr18_Txns_r0) (.seq (.reg rr18_Txns_r1) (.seq (.seq (.reg rr18_Txns_r2) (.block 0 (.loop rr18_Txns_l17))) (.seq (.reg rr18_Txns_r18) .ret))))
theorem rr18_Txns_is : fnV prog n_rr18_Txns = some (68, rr18_Txns, [.tmp 2]) := by kernel_rfl
/- rr19_Holds -/
@[simp] def rr19_Holds_r0 : List VOp :=
  [(oo 5 (.box (.tmp 0))),
   (oo 7 (.box (.tmp 2))),
   (oo 8 (.box (.tmp 3))),
   (oo 9 (.box (.tmp 4))),
   (oo 10 (.mov (.const (kb false))))]
@[simp] def rr19_Holds_r1 : List VOp :=
  [(oo 15 (.ld (.tmp 5) (some 3))),
   (oo 16 (.mov (.tmp 1))),
   (oo 17 (.ld (.tmp 7) (some 3))),
   (oo 18 (.ld (.tmp 8) (some 2))),
   (oo 19 (.call n_rr19_Row [(.tmp 15), (.tmp 16), (.tmp 17), (.tmp 18)])),
   (oo 14 (.mov (.tmp 19))),
   (oo 20 (.ext 0 (.tmp 14))),
   (oo 21 (.ext 1 (.tmp 14))),
   (oo 11 (.mov (.tmp 20))),
   (oo 12 (.mov (.tmp 21)))]
@[simp] def rr19_Holds_r2 : List VOp :=
  [(oo 22 (.ld (.tmp 9) (some 9))),
   (oo 23 (.mov (.tmp 11))),
   (oo 24 (.call n_rr03_Holds [(.tmp 22), (.tmp 23)])),
   (oo 13 (.mov (.tmp 24)))]
@[simp] def rr19_Holds_r3 : List VOp :=
  [(oo 25 (.mov (.tmp 11))),
   (oo 26 (.len (.tmp 25))),
   (oo 27 (.bin .gtr (.tmp 26) (.const (ki 0)))),
   (oo 28 (.mov (.tmp 27))),
   (og 29 28 true (.mov (.tmp 13))),
   (oo 30 (.pick (.tmp 28) (.tmp 29) (.const (kb false)))),
   (oo 10 (.mov (.tmp 30)))]
def rr19_Holds : VCode := (.seq (.reg rr19_Holds_r0) (.seq (.reg rr19_Holds_r1) (.seq (.reg rr19_Holds_r2) (.seq (.reg rr19_Holds_r3) .ret))))
theorem rr19_Holds_is : fnV prog n_rr19_Holds = some (31, rr19_Holds, [.tmp 10]) := by kernel_rfl
end Go.Rt
end
