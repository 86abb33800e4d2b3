/- Contracts of functions of the program, and what they lean on. Conditions: those of each theorem. -/
import Derived.Test.YthkdpdpgmhmgoaaBC

set_option linter.unusedVariables false
set_option linter.unusedSimpArgs false

section
namespace Go.Rt
open Go.Vm
@[simp] def a0a_r0 :LO:=[oo 1 (.box (T 0)),
oo 2 (.mov (B false))]
@[simp] def a0a_r1 :LO:=[oo 6 (.fa 0 (T 1)),
oo 7 (.ld (T 6) none),
oo 8 (.len (T 7)),
oo 9 (.bin .gtr (T 8) (K 6)),
oo 10 (.mov (T 9)),
og 11 10 false (.fa 1 (T 1)),
og 12 10 false (.ld (T 11) none),
og 13 10 false (.len (T 12)),
og 14 10 false (.bin .gtr (T 13) (K 60)),
oo 15 (.pick (T 10) (B true) (T 14)),
oo 16 (.mov (T 15)),
og 17 16 false (.fa 2 (T 1)),
og 18 16 false (.ld (T 17) none),
og 19 16 false (.len (T 18)),
og 20 16 false (.bin .gtr (T 19) (K 30)),
oo 21 (.pick (T 16) (B true) (T 20))]
@[simp] def a0a_r2 :LO:=[oo 2 (.mov (B false))]
@[simp] def a0a_r3 :LO:=[oo 3 (.mov (K 0))]
@[simp] def a0a_r4 :LO:=[oo 22 (.mov (T 3)),
oo 23 (.fa 1 (T 1)),
oo 24 (.ld (T 23) none),
oo 25 (.len (T 24)),
oo 26 (.bin .lss (T 22) (T 25))]
@[simp] def a0a_r5 :LO:=[oo 29 (.fa 1 (T 1)),
oo 30 (.ld (T 29) none),
oo 31 (.mov (T 3)),
oo 32 (.ia 22 (T 30) (T 31)),
oo 33 (.ld (T 32) (some 22)),
oo 4 (.alloc [zi, zi, zi, zi, zb, zi, zs, zi, zi, zi, .nil 3, zi, zi, zb, zi, zs, zb, zi, zs, .nil 9, .nil 5, zb]),
on (.st (T 4) (T 33) 22)]
@[simp] def a0a_r6 :LO:=[oo 34 (.fa 20 (T 4)),
oo 35 (.ld (T 34) none),
oo 36 (.len (T 35)),
oo 37 (.bin .gtr (T 36) (K 12)),
oo 38 (.mov (T 37)),
og 39 38 false (.fa 10 (T 4)),
og 40 38 false (.ld (T 39) none),
og 41 38 false (.len (T 40)),
og 42 38 false (.bin .gtr (T 41) (K 12)),
oo 43 (.pick (T 38) (B true) (T 42)),
oo 44 (.mov (T 43)),
og 45 44 false (.fa 11 (T 4)),
og 46 44 false (.ld (T 45) (some 9)),
og 47 44 false (.call n_a4a [(T 46), (K 0)]),
og 48 44 false (.un .not (T 47)),
oo 49 (.pick (T 44) (B true) (T 48))]
@[simp] def a0a_r7 :LO:=[oo 2 (.mov (B false))]
@[simp] def a0a_r8 :LO:=[oo 27 (.mov (T 3)),
oo 28 (.bin .add (T 27) (K 1)),
oo 3 (.mov (T 28))]
def a0a_l9 : VCode :=
 (.seq (.seq (.reg a0a_r4) (.cond (T 26) .skip (.exit 0))) (.seq (.block 1 (.seq (.reg a0a_r5) (.seq (.reg a0a_r6) (.cond (T 49) (.seq (.reg a0a_r7) .ret) .skip)))) (.reg a0a_r8)))
@[simp] def a0a_r10 :LO:=[oo 5 (.mov (K 0))]
@[simp] def a0a_r11 :LO:=[oo 50 (.mov (T 5)),
oo 51 (.fa 2 (T 1)),
oo 52 (.ld (T 51) none),
oo 53 (.len (T 52)),
oo 54 (.bin .lss (T 50) (T 53))]
@[simp] def a0a_r12 :LO:=[oo 57 (.fa 2 (T 1)),
oo 58 (.ld (T 57) none),
oo 59 (.mov (T 5)),
oo 60 (.ia 5 (T 58) (T 59)),
oo 61 (.fa 4 (T 60)),
oo 62 (.ld (T 61) none),
oo 63 (.len (T 62)),
oo 64 (.bin .gtr (T 63) (K 20))]
@[simp] def a0a_r13 :LO:=[oo 2 (.mov (B false))]
@[simp] def a0a_r14 :LO:=[oo 55 (.mov (T 5)),
oo 56 (.bin .add (T 55) (K 1)),
oo 5 (.mov (T 56))]
def a0a_l15 : VCode :=
 (.seq (.seq (.reg a0a_r11) (.cond (T 54) .skip (.exit 2))) (.seq (.block 3 (.seq (.reg a0a_r12) (.cond (T 64) (.seq (.reg a0a_r13) .ret) .skip))) (.reg a0a_r14)))
@[simp] def a0a_r16 :LO:=[oo 2 (.mov (B true))]
def a0a : VCode := (.seq (.reg a0a_r0) (.seq (.seq (.reg a0a_r1) (.cond (T 21) (.seq (.reg a0a_r2) .ret) .skip)) (.seq (.seq (.reg a0a_r3) (.block 0 (.loop a0a_l9))) (.seq (.seq (.reg a0a_r10) (.block 2 (.loop a0a_l15))) (.seq (.reg a0a_r16) .ret)))))
theorem a0a_is : fnV prog n_a0a = some (65, a0a, [.tmp 2]) := by kernel_rfl
@[simp] def a1a_r0 :LO:=[oo 2 (.box (T 0)),
oo 4 (.mov (B false))]
@[simp] def a1a_r1 :LO:=[oo 5 (.ld (T 2) (some 3)),
oo 6 (.mov (T 1)),
oo 7 (.call n_a7a [(T 5), (T 6)]),
oo 8 (.bin .eql (T 7) (K 5)),
oo 4 (.mov (T 8))]
def a1a : VCode := (.seq (.reg a1a_r0) (.seq (.reg a1a_r1) .ret))
theorem a1a_is : fnV prog n_a1a = some (9, a1a, [.tmp 4]) := by kernel_rfl
@[simp] def a2a_r0 :LO:=[oo 2 (.box (T 0)),
oo 3 (.box (T 1)),
oo 4 (.mov (K 0))]
@[simp] def a2a_r1 :LO:=[oo 6 (.fa 0 (T 2)),
oo 7 (.ld (T 6) none),
oo 8 (.mov (T 7)),
og 9 8 true (.fa 0 (T 3)),
og 10 8 true (.ld (T 9) none),
oo 11 (.pick (T 8) (T 10) (B false)),
oo 5 (.mov (T 11))]
@[simp] def a2a_r2 :LO:=[oo 12 (.fa 2 (T 2)),
oo 13 (.ld (T 12) none),
oo 14 (.fa 2 (T 3)),
oo 15 (.ld (T 14) none),
oo 16 (.call n_a8a [(T 13), (T 15)]),
oo 4 (.mov (T 16))]
@[simp] def a2a_r3 :LO:=[oo 18 (.fa 0 (T 2)),
oo 19 (.ld (T 18) none),
oo 17 (.mov (T 19))]
@[simp] def a2a_r4 :LO:=[oo 4 (.mov (K 1))]
@[simp] def a2a_r5 :LO:=[oo 21 (.fa 0 (T 3)),
oo 22 (.ld (T 21) none),
oo 20 (.mov (T 22))]
@[simp] def a2a_r6 :LO:=[oo 4 (.mov (K (-1)))]
@[simp] def a2a_r7 :LO:=[oo 23 (.fa 1 (T 2)),
oo 24 (.ld (T 23) none),
oo 25 (.fa 1 (T 3)),
oo 26 (.ld (T 25) none),
oo 27 (.call n_a0b [(T 24), (T 26)]),
oo 4 (.mov (T 27))]
def a2a : VCode := (.seq (.reg a2a_r0) (.seq (.block 0 (.seq (.reg a2a_r1) (.cond (T 5) (.seq (.reg a2a_r2) .ret) (.seq (.reg a2a_r3) (.cond (T 17) (.seq (.reg a2a_r4) .ret) (.seq (.reg a2a_r5) (.cond (T 20) (.seq (.reg a2a_r6) .ret) .skip))))))) (.seq (.reg a2a_r7) .ret)))
theorem a2a_is : fnV prog n_a2a = some (28, a2a, [.tmp 4]) := by kernel_rfl
@[simp] def a3a_r0 :LO:=[oo 2 (.box (T 0)),
oo 3 (.box (T 1)),
oo 4 (.mov (K 0))]
@[simp] def a3a_r1 :LO:=[oo 6 (.fa 0 (T 2)),
oo 7 (.ld (T 6) none),
oo 8 (.fa 0 (T 3)),
oo 9 (.ld (T 8) none),
oo 10 (.beq true (T 7) (T 9))]
@[simp] def a3a_r2 :LO:=[oo 11 (.fa 0 (T 3)),
oo 12 (.ld (T 11) none)]
@[simp] def a3a_r3 :LO:=[oo 4 (.mov (K (-1)))]
@[simp] def a3a_r4 :LO:=[oo 4 (.mov (K 1))]
@[simp] def a3a_r5 :LO:=[oo 13 (.fa 0 (T 2)),
oo 14 (.ld (T 13) none),
oo 15 (.un .not (T 14))]
@[simp] def a3a_r6 :LO:=[oo 16 (.fa 1 (T 2)),
oo 17 (.ld (T 16) none),
oo 18 (.fa 1 (T 3)),
oo 19 (.ld (T 18) none),
oo 20 (.bin .lss (T 17) (T 19))]
@[simp] def a3a_r7 :LO:=[oo 4 (.mov (K (-1)))]
@[simp] def a3a_r8 :LO:=[oo 21 (.fa 1 (T 2)),
oo 22 (.ld (T 21) none),
oo 23 (.fa 1 (T 3)),
oo 24 (.ld (T 23) none),
oo 25 (.bin .gtr (T 22) (T 24))]
@[simp] def a3a_r9 :LO:=[oo 4 (.mov (K 1))]
@[simp] def a3a_r10 :LO:=[oo 4 (.mov (K 0))]
@[simp] def a3a_r11 :LO:=[oo 5 (.mov (K 0))]
@[simp] def a3a_r12 :LO:=[oo 26 (.mov (T 5)),
oo 27 (.fa 2 (T 2)),
oo 28 (.ld (T 27) none),
oo 29 (.lens (T 28)),
oo 30 (.bin .lss (T 26) (T 29)),
oo 31 (.mov (T 30)),
og 32 31 true (.mov (T 5)),
og 33 31 true (.fa 2 (T 3)),
og 34 31 true (.ld (T 33) none),
og 35 31 true (.lens (T 34)),
og 36 31 true (.bin .lss (T 32) (T 35)),
oo 37 (.pick (T 31) (T 36) (B false))]
@[simp] def a3a_t13 : VT :=
 oc 40 (.fa 2 (T 2)) <|
oc 41 (.ld (T 40) none) <|
oc 42 (.mov (T 5)) <|
oc 43 (.is (T 41) (T 42)) <|
oc 44 (.fa 2 (T 3)) <|
oc 45 (.ld (T 44) none) <|
oc 46 (.mov (T 5)) <|
oc 47 (.is (T 45) (T 46)) <|
oc 48 (.bin .lss (T 43) (T 47)) <|
.done
@[simp] def a3a_r14 :LO:=[oo 4 (.mov (K (-1)))]
@[simp] def a3a_t15 : VT :=
 oc 49 (.fa 2 (T 2)) <|
oc 50 (.ld (T 49) none) <|
oc 51 (.mov (T 5)) <|
oc 52 (.is (T 50) (T 51)) <|
oc 53 (.fa 2 (T 3)) <|
oc 54 (.ld (T 53) none) <|
oc 55 (.mov (T 5)) <|
oc 56 (.is (T 54) (T 55)) <|
oc 57 (.bin .gtr (T 52) (T 56)) <|
.done
@[simp] def a3a_r16 :LO:=[oo 4 (.mov (K 1))]
@[simp] def a3a_r17 :LO:=[oo 38 (.mov (T 5)),
oo 39 (.bin .add (T 38) (K 1)),
oo 5 (.mov (T 39))]
def a3a_l18 : VCode :=
 (.seq (.seq (.reg a3a_r12) (.cond (T 37) .skip (.exit 0))) (.seq (.block 1 (.seq (.seq (.any a3a_t13) (.cond (T 48) (.seq (.reg a3a_r14) .ret) .skip)) (.seq (.any a3a_t15) (.cond (T 57) (.seq (.reg a3a_r16) .ret) .skip)))) (.reg a3a_r17)))
@[simp] def a3a_r19 :LO:=[oo 58 (.fa 2 (T 2)),
oo 59 (.ld (T 58) none),
oo 60 (.lens (T 59)),
oo 61 (.fa 2 (T 3)),
oo 62 (.ld (T 61) none),
oo 63 (.lens (T 62)),
oo 64 (.bin .lss (T 60) (T 63))]
@[simp] def a3a_r20 :LO:=[oo 4 (.mov (K (-1)))]
@[simp] def a3a_r21 :LO:=[oo 65 (.fa 2 (T 2)),
oo 66 (.ld (T 65) none),
oo 67 (.lens (T 66)),
oo 68 (.fa 2 (T 3)),
oo 69 (.ld (T 68) none),
oo 70 (.lens (T 69)),
oo 71 (.bin .gtr (T 67) (T 70))]
@[simp] def a3a_r22 :LO:=[oo 4 (.mov (K 1))]
@[simp] def a3a_r23 :LO:=[oo 4 (.mov (K 0))]
def a3a : VCode := (.seq (.reg a3a_r0) (.seq (.seq (.reg a3a_r1) (.cond (T 10) (.seq (.seq (.reg a3a_r2) (.cond (T 12) (.seq (.reg a3a_r3) .ret) .skip)) (.seq (.reg a3a_r4) .ret)) .skip)) (.seq (.seq (.reg a3a_r5) (.cond (T 15) (.seq (.seq (.reg a3a_r6) (.cond (T 20) (.seq (.reg a3a_r7) .ret) .skip)) (.seq (.seq (.reg a3a_r8) (.cond (T 25) (.seq (.reg a3a_r9) .ret) .skip)) (.seq (.reg a3a_r10) .ret))) .skip)) (.seq (.seq (.reg a3a_r11) (.block 0 (.loop a3a_l18))) (.seq (.seq (.reg a3a_r19) (.cond (T 64) (.seq (.reg a3a_r20) .ret) .skip)) (.seq (.seq (.reg a3a_r21) (.cond (T 71) (.seq (.reg a3a_r22) .ret) .skip)) (.seq (.reg a3a_r23) .ret)))))))
theorem a3a_is : fnV prog n_a3a = some (72, a3a, [.tmp 4]) := by kernel_rfl
@[simp] def a4a_r0 :LO:=[oo 2 (.box (T 0)),
oo 4 (.mov (B false))]
@[simp] def a4a_r1 :LO:=[oo 7 (.mov (T 1)),
oo 8 (.bin .gtr (T 7) (K 6)),
oo 9 (.mov (T 8)),
og 10 9 false (.fa 8 (T 2)),
og 11 9 false (.ld (T 10) none),
og 12 9 false (.len (T 11)),
og 13 9 false (.bin .gtr (T 12) (K 6)),
oo 14 (.pick (T 9) (B true) (T 13))]
@[simp] def a4a_r2 :LO:=[oo 4 (.mov (B false))]
@[simp] def a4a_r3 :LO:=[oo 5 (.mov (K 0))]
@[simp] def a4a_r4 :LO:=[oo 15 (.mov (T 5)),
oo 16 (.fa 8 (T 2)),
oo 17 (.ld (T 16) none),
oo 18 (.len (T 17)),
oo 19 (.bin .lss (T 15) (T 18))]
@[simp] def a4a_r5 :LO:=[oo 22 (.fa 8 (T 2)),
oo 23 (.ld (T 22) none),
oo 24 (.mov (T 5)),
oo 25 (.ia 9 (T 23) (T 24)),
oo 26 (.ld (T 25) (some 9)),
oo 27 (.mov (T 1)),
oo 28 (.bin .add (T 27) (K 1)),
oo 29 (.call n_a4a [(T 26), (T 28)]),
oo 6 (.mov (T 29))]
@[simp] def a4a_r6 :LO:=[oo 30 (.mov (T 6)),
oo 31 (.un .not (T 30))]
@[simp] def a4a_r7 :LO:=[oo 4 (.mov (B false))]
@[simp] def a4a_r8 :LO:=[oo 20 (.mov (T 5)),
oo 21 (.bin .add (T 20) (K 1)),
oo 5 (.mov (T 21))]
def a4a_l9 : VCode :=
 (.seq (.seq (.reg a4a_r4) (.cond (T 19) .skip (.exit 0))) (.seq (.block 1 (.seq (.reg a4a_r5) (.seq (.reg a4a_r6) (.cond (T 31) (.seq (.reg a4a_r7) .ret) .skip)))) (.reg a4a_r8)))
@[simp] def a4a_r10 :LO:=[oo 32 (.ld (T 2) (some 9)),
oo 33 (.call n_a1b [(T 32)]),
oo 34 (.bin .leq (T 33) (K 30)),
oo 4 (.mov (T 34))]
def b3d : VCode := (.seq (.reg a4a_r0) (.seq (.seq (.reg a4a_r1) (.cond (T 14) (.seq (.reg a4a_r2) .ret) .skip)) (.seq (.seq (.reg a4a_r3) (.block 0 (.loop a4a_l9))) (.seq (.reg a4a_r10) .ret))))
theorem a4a_is : fnV prog n_a4a = some (35, b3d, [.tmp 4]) := by kernel_rfl
@[simp] def a5a_r0 :LO:=[oo 1 (.box (T 0)),
oo 2 (.mov (.const (.pointer none)))]
@[simp] def a5a_r1 :LO:=[oo 13 (.ld (T 1) (some 3)),
oo 14 (.call n_a2b [(T 13)]),
oo 15 (.bin .neq (T 14) (K 0))]
@[simp] def a5a_r2 :LO:=[oo 2 (.mov (.const (.pointer none)))]
@[simp] def a5a_r3 :LO:=[oo 16 (.mkmap (false, [.i .i64], false)),
oo 17 (.mkmap (true, [.i .i64, .b, .i .i64, .s, .i .i64, .i .i64], false)),
oo 18 (.mkmap (true, [.i .i64, .b, .i .i64, .s, .i .i64, .i .i64], false)),
oo 19 (.mkmap (true, [.i .i64, .b, .i .i64, .s], false)),
oo 20 (.build [.iv (.v (.map none)), .nil 1, .iv (.v (.map none)), .iv (.v (.map none)), .iv (.v (.map none))] [(0, 1, (T 16)), (2, 1, (T 17)), (3, 1, (T 18)), (4, 1, (T 19))]),
oo 21 (.box (T 20)),
oo 3 (.mov (T 21))]
@[simp] def a5a_r4 :LO:=[oo 22 (.fa 1 (T 1)),
oo 23 (.ld (T 22) none),
oo 24 (.len (T 23)),
oo 25 (.mov (K 0))]
@[simp] def a5a_r5 :LO:=[oo 26 (.bin .lss (T 25) (T 24))]
@[simp] def a5a_r6 :LO:=[oo 27 (.ia 22 (T 23) (T 25)),
oo 28 (.ld (T 27) (some 22)),
oo 5 (.alloc [zi, zi, zi, zi, zb, zi, zs, zi, zi, zi, .nil 3, zi, zi, zb, zi, zs, zb, zi, zs, .nil 9, .nil 5, zb]),
on (.st (T 5) (T 28) 22)]
@[simp] def a5a_r7 :LO:=[oo 29 (.fa 3 (T 5)),
oo 30 (.ld (T 29) none),
oo 31 (.fa 4 (T 5)),
oo 32 (.ld (T 31) (some 3)),
oo 33 (.build [zi, zb, zi, zs] [(0, 1, (T 30)), (1, 3, (T 32))]),
oo 6 (.alloc [zi, zb, zi, zs]),
on (.st (T 6) (T 33) 4)]
@[simp] def a5a_r8 :LO:=[oo 34 (.fa 1 (T 5)),
oo 35 (.ld (T 34) none)]
@[simp] def a5a_r9 :LO:=[oo 37 (.bin .eql (T 35) (K 1)),
oo 36 (.mov (T 37))]
@[simp] def a5a_t10 : VT :=
 oc 38 (.mov (T 3)) <|
oc 39 (.chk (T 38)) <|
oc 40 (.fa 0 (T 39)) <|
oc 41 (.ld (T 40) none) <|
oc 42 (.fa 0 (T 5)) <|
oc 43 (.ld (T 42) none) <|
oc 44 (.fa 2 (T 5)) <|
oc 45 (.ld (T 44) none) <|
.op (on (.mset (false, [.i .i64], false) (T 41) (T 43) (T 45))) <|
.done
@[simp] def a5a_r11 :LO:=[oo 47 (.bin .eql (T 35) (K 5)),
oo 46 (.mov (T 47))]
@[simp] def a5a_t12 : VT :=
 oc 48 (.mov (T 3)) <|
oc 49 (.mov (T 3)) <|
oc 50 (.chk (T 49)) <|
oc 51 (.fa 1 (T 50)) <|
oc 52 (.ld (T 51) none) <|
oc 53 (.fa 0 (T 5)) <|
oc 54 (.ld (T 53) none) <|
oc 55 (.lit 1 1 [(0, (T 54))]) <|
oc 56 (.app 1 8 (T 52) (T 55)) <|
oc 57 (.chk (T 48)) <|
oc 58 (.fa 1 (T 57)) <|
.op (on (.st (T 58) (T 56) 1)) <|
.done
@[simp] def a5a_r13 :LO:=[oo 60 (.bin .eql (T 35) (K 3)),
oo 59 (.mov (T 60))]
@[simp] def a5a_s0 : VT :=
 oc 69 (.ld (T 68) none) <|
oc 70 (.build [zi, zi] [(0, 1, (T 67)), (1, 1, (T 69))]) <|
oc 71 (.build [zi, zb, zi, zs, zi, zi] [(0, 4, (T 65)), (4, 2, (T 70))]) <|
oc 74 (.call n_a3b [(T 73)]) <|
.op (on (.mset (true, [.i .i64, .b, .i .i64, .s, .i .i64, .i .i64], false) (T 64) (T 71) (T 74))) <|
.done
@[simp] def a5a_s1 : VT :=
 oc 74 (.call n_a3b [(T 73)]) <|
oc 69 (.ld (T 68) none) <|
oc 70 (.build [zi, zi] [(0, 1, (T 67)), (1, 1, (T 69))]) <|
oc 71 (.build [zi, zb, zi, zs, zi, zi] [(0, 4, (T 65)), (4, 2, (T 70))]) <|
.op (on (.mset (true, [.i .i64, .b, .i .i64, .s, .i .i64, .i .i64], false) (T 64) (T 71) (T 74))) <|
.done
@[simp] def a5a_s2 : VT :=
 oc 67 (.ld (T 66) none) <|
.alt (a5a_s0) (a5a_s1)
@[simp] def a5a_s3 : VT :=
 oc 67 (.ld (T 66) none) <|
oc 70 (.build [zi, zi] [(0, 1, (T 67)), (1, 1, (T 69))]) <|
oc 71 (.build [zi, zb, zi, zs, zi, zi] [(0, 4, (T 65)), (4, 2, (T 70))]) <|
oc 74 (.call n_a3b [(T 73)]) <|
.op (on (.mset (true, [.i .i64, .b, .i .i64, .s, .i .i64, .i .i64], false) (T 64) (T 71) (T 74))) <|
.done
@[simp] def a5a_s4 : VT :=
 oc 74 (.call n_a3b [(T 73)]) <|
oc 67 (.ld (T 66) none) <|
oc 70 (.build [zi, zi] [(0, 1, (T 67)), (1, 1, (T 69))]) <|
oc 71 (.build [zi, zb, zi, zs, zi, zi] [(0, 4, (T 65)), (4, 2, (T 70))]) <|
.op (on (.mset (true, [.i .i64, .b, .i .i64, .s, .i .i64, .i .i64], false) (T 64) (T 71) (T 74))) <|
.done
@[simp] def a5a_s5 : VT :=
 oc 69 (.ld (T 68) none) <|
.alt (a5a_s3) (a5a_s4)
@[simp] def a5a_s6 : VT :=
 oc 74 (.call n_a3b [(T 73)]) <|
oc 67 (.ld (T 66) none) <|
oc 69 (.ld (T 68) none) <|
oc 70 (.build [zi, zi] [(0, 1, (T 67)), (1, 1, (T 69))]) <|
oc 71 (.build [zi, zb, zi, zs, zi, zi] [(0, 4, (T 65)), (4, 2, (T 70))]) <|
.op (on (.mset (true, [.i .i64, .b, .i .i64, .s, .i .i64, .i .i64], false) (T 64) (T 71) (T 74))) <|
.done
@[simp] def a5a_s7 : VT :=
 oc 65 (.ld (T 6) (some 4)) <|
.alt (a5a_s2) (  .alt (a5a_s5) (a5a_s6))
@[simp] def a5a_s8 : VT :=
 oc 65 (.ld (T 6) (some 4)) <|
.alt (a5a_s0) (a5a_s1)
@[simp] def a5a_s9 : VT :=
 oc 65 (.ld (T 6) (some 4)) <|
oc 71 (.build [zi, zb, zi, zs, zi, zi] [(0, 4, (T 65)), (4, 2, (T 70))]) <|
oc 74 (.call n_a3b [(T 73)]) <|
.op (on (.mset (true, [.i .i64, .b, .i .i64, .s, .i .i64, .i .i64], false) (T 64) (T 71) (T 74))) <|
.done
@[simp] def a5a_s10 : VT :=
 oc 74 (.call n_a3b [(T 73)]) <|
oc 65 (.ld (T 6) (some 4)) <|
oc 71 (.build [zi, zb, zi, zs, zi, zi] [(0, 4, (T 65)), (4, 2, (T 70))]) <|
.op (on (.mset (true, [.i .i64, .b, .i .i64, .s, .i .i64, .i .i64], false) (T 64) (T 71) (T 74))) <|
.done
@[simp] def a5a_s11 : VT :=
 oc 69 (.ld (T 68) none) <|
oc 70 (.build [zi, zi] [(0, 1, (T 67)), (1, 1, (T 69))]) <|
.alt (a5a_s9) (a5a_s10)
@[simp] def a5a_s12 : VT :=
 oc 74 (.call n_a3b [(T 73)]) <|
oc 65 (.ld (T 6) (some 4)) <|
oc 69 (.ld (T 68) none) <|
oc 70 (.build [zi, zi] [(0, 1, (T 67)), (1, 1, (T 69))]) <|
oc 71 (.build [zi, zb, zi, zs, zi, zi] [(0, 4, (T 65)), (4, 2, (T 70))]) <|
.op (on (.mset (true, [.i .i64, .b, .i .i64, .s, .i .i64, .i .i64], false) (T 64) (T 71) (T 74))) <|
.done
@[simp] def a5a_s13 : VT :=
 oc 67 (.ld (T 66) none) <|
.alt (a5a_s8) (  .alt (a5a_s11) (a5a_s12))
@[simp] def a5a_s14 : VT :=
 oc 65 (.ld (T 6) (some 4)) <|
.alt (a5a_s3) (a5a_s4)
@[simp] def a5a_s15 : VT :=
 oc 67 (.ld (T 66) none) <|
oc 70 (.build [zi, zi] [(0, 1, (T 67)), (1, 1, (T 69))]) <|
.alt (a5a_s9) (a5a_s10)
@[simp] def a5a_s16 : VT :=
 oc 74 (.call n_a3b [(T 73)]) <|
oc 65 (.ld (T 6) (some 4)) <|
oc 67 (.ld (T 66) none) <|
oc 70 (.build [zi, zi] [(0, 1, (T 67)), (1, 1, (T 69))]) <|
oc 71 (.build [zi, zb, zi, zs, zi, zi] [(0, 4, (T 65)), (4, 2, (T 70))]) <|
.op (on (.mset (true, [.i .i64, .b, .i .i64, .s, .i .i64, .i .i64], false) (T 64) (T 71) (T 74))) <|
.done
@[simp] def a5a_s17 : VT :=
 oc 69 (.ld (T 68) none) <|
.alt (a5a_s14) (  .alt (a5a_s15) (a5a_s16))
@[simp] def a5a_s18 : VT :=
 oc 74 (.call n_a3b [(T 73)]) <|
oc 65 (.ld (T 6) (some 4)) <|
oc 67 (.ld (T 66) none) <|
oc 69 (.ld (T 68) none) <|
oc 70 (.build [zi, zi] [(0, 1, (T 67)), (1, 1, (T 69))]) <|
oc 71 (.build [zi, zb, zi, zs, zi, zi] [(0, 4, (T 65)), (4, 2, (T 70))]) <|
.op (on (.mset (true, [.i .i64, .b, .i .i64, .s, .i .i64, .i .i64], false) (T 64) (T 71) (T 74))) <|
.done
@[simp] def a5a_s19 : VT :=
 .alt (a5a_s13) (  .alt (a5a_s17) (a5a_s18))
@[simp] def a5a_s20 : VT :=
 oc 64 (.ld (T 63) none) <|
.alt (a5a_s7) (a5a_s19)
@[simp] def a5a_s21 : VT :=
 oc 64 (.ld (T 63) none) <|
.alt (a5a_s2) (  .alt (a5a_s5) (a5a_s6))
@[simp] def a5a_s22 : VT :=
 oc 64 (.ld (T 63) none) <|
.alt (a5a_s0) (a5a_s1)
@[simp] def a5a_s23 : VT :=
 oc 64 (.ld (T 63) none) <|
oc 74 (.call n_a3b [(T 73)]) <|
.op (on (.mset (true, [.i .i64, .b, .i .i64, .s, .i .i64, .i .i64], false) (T 64) (T 71) (T 74))) <|
.done
@[simp] def a5a_s24 : VT :=
 oc 74 (.call n_a3b [(T 73)]) <|
oc 64 (.ld (T 63) none) <|
.op (on (.mset (true, [.i .i64, .b, .i .i64, .s, .i .i64, .i .i64], false) (T 64) (T 71) (T 74))) <|
.done
@[simp] def a5a_s25 : VT :=
 oc 69 (.ld (T 68) none) <|
oc 70 (.build [zi, zi] [(0, 1, (T 67)), (1, 1, (T 69))]) <|
oc 71 (.build [zi, zb, zi, zs, zi, zi] [(0, 4, (T 65)), (4, 2, (T 70))]) <|
.alt (a5a_s23) (a5a_s24)
@[simp] def a5a_s26 : VT :=
 oc 74 (.call n_a3b [(T 73)]) <|
oc 64 (.ld (T 63) none) <|
oc 69 (.ld (T 68) none) <|
oc 70 (.build [zi, zi] [(0, 1, (T 67)), (1, 1, (T 69))]) <|
oc 71 (.build [zi, zb, zi, zs, zi, zi] [(0, 4, (T 65)), (4, 2, (T 70))]) <|
.op (on (.mset (true, [.i .i64, .b, .i .i64, .s, .i .i64, .i .i64], false) (T 64) (T 71) (T 74))) <|
.done
@[simp] def a5a_s27 : VT :=
 oc 67 (.ld (T 66) none) <|
.alt (a5a_s22) (  .alt (a5a_s25) (a5a_s26))
@[simp] def a5a_s28 : VT :=
 oc 64 (.ld (T 63) none) <|
.alt (a5a_s3) (a5a_s4)
@[simp] def a5a_s29 : VT :=
 oc 67 (.ld (T 66) none) <|
oc 70 (.build [zi, zi] [(0, 1, (T 67)), (1, 1, (T 69))]) <|
oc 71 (.build [zi, zb, zi, zs, zi, zi] [(0, 4, (T 65)), (4, 2, (T 70))]) <|
.alt (a5a_s23) (a5a_s24)
@[simp] def a5a_s30 : VT :=
 oc 74 (.call n_a3b [(T 73)]) <|
oc 64 (.ld (T 63) none) <|
oc 67 (.ld (T 66) none) <|
oc 70 (.build [zi, zi] [(0, 1, (T 67)), (1, 1, (T 69))]) <|
oc 71 (.build [zi, zb, zi, zs, zi, zi] [(0, 4, (T 65)), (4, 2, (T 70))]) <|
.op (on (.mset (true, [.i .i64, .b, .i .i64, .s, .i .i64, .i .i64], false) (T 64) (T 71) (T 74))) <|
.done
@[simp] def a5a_s31 : VT :=
 oc 69 (.ld (T 68) none) <|
.alt (a5a_s28) (  .alt (a5a_s29) (a5a_s30))
@[simp] def a5a_s32 : VT :=
 oc 74 (.call n_a3b [(T 73)]) <|
oc 64 (.ld (T 63) none) <|
oc 67 (.ld (T 66) none) <|
oc 69 (.ld (T 68) none) <|
oc 70 (.build [zi, zi] [(0, 1, (T 67)), (1, 1, (T 69))]) <|
oc 71 (.build [zi, zb, zi, zs, zi, zi] [(0, 4, (T 65)), (4, 2, (T 70))]) <|
.op (on (.mset (true, [.i .i64, .b, .i .i64, .s, .i .i64, .i .i64], false) (T 64) (T 71) (T 74))) <|
.done
@[simp] def a5a_s33 : VT :=
 .alt (a5a_s27) (  .alt (a5a_s31) (a5a_s32))
@[simp] def a5a_s34 : VT :=
 oc 65 (.ld (T 6) (some 4)) <|
.alt (a5a_s21) (a5a_s33)
@[simp] def a5a_s35 : VT :=
 oc 64 (.ld (T 63) none) <|
.alt (a5a_s8) (  .alt (a5a_s11) (a5a_s12))
@[simp] def a5a_s36 : VT :=
 oc 65 (.ld (T 6) (some 4)) <|
.alt (a5a_s22) (  .alt (a5a_s25) (a5a_s26))
@[simp] def a5a_s37 : VT :=
 oc 64 (.ld (T 63) none) <|
.alt (a5a_s9) (a5a_s10)
@[simp] def a5a_s38 : VT :=
 oc 65 (.ld (T 6) (some 4)) <|
oc 71 (.build [zi, zb, zi, zs, zi, zi] [(0, 4, (T 65)), (4, 2, (T 70))]) <|
.alt (a5a_s23) (a5a_s24)
@[simp] def a5a_s39 : VT :=
 oc 74 (.call n_a3b [(T 73)]) <|
oc 64 (.ld (T 63) none) <|
oc 65 (.ld (T 6) (some 4)) <|
oc 71 (.build [zi, zb, zi, zs, zi, zi] [(0, 4, (T 65)), (4, 2, (T 70))]) <|
.op (on (.mset (true, [.i .i64, .b, .i .i64, .s, .i .i64, .i .i64], false) (T 64) (T 71) (T 74))) <|
.done
@[simp] def a5a_s40 : VT :=
 oc 69 (.ld (T 68) none) <|
oc 70 (.build [zi, zi] [(0, 1, (T 67)), (1, 1, (T 69))]) <|
.alt (a5a_s37) (  .alt (a5a_s38) (a5a_s39))
@[simp] def a5a_s41 : VT :=
 oc 74 (.call n_a3b [(T 73)]) <|
oc 64 (.ld (T 63) none) <|
oc 65 (.ld (T 6) (some 4)) <|
oc 69 (.ld (T 68) none) <|
oc 70 (.build [zi, zi] [(0, 1, (T 67)), (1, 1, (T 69))]) <|
oc 71 (.build [zi, zb, zi, zs, zi, zi] [(0, 4, (T 65)), (4, 2, (T 70))]) <|
.op (on (.mset (true, [.i .i64, .b, .i .i64, .s, .i .i64, .i .i64], false) (T 64) (T 71) (T 74))) <|
.done
@[simp] def a5a_s42 : VT :=
 .alt (a5a_s36) (  .alt (a5a_s40) (a5a_s41))
@[simp] def a5a_s43 : VT :=
 oc 67 (.ld (T 66) none) <|
.alt (a5a_s35) (a5a_s42)
@[simp] def a5a_s44 : VT :=
 oc 64 (.ld (T 63) none) <|
.alt (a5a_s14) (  .alt (a5a_s15) (a5a_s16))
@[simp] def a5a_s45 : VT :=
 oc 65 (.ld (T 6) (some 4)) <|
.alt (a5a_s28) (  .alt (a5a_s29) (a5a_s30))
@[simp] def a5a_s46 : VT :=
 oc 67 (.ld (T 66) none) <|
oc 70 (.build [zi, zi] [(0, 1, (T 67)), (1, 1, (T 69))]) <|
.alt (a5a_s37) (  .alt (a5a_s38) (a5a_s39))
@[simp] def a5a_s47 : VT :=
 oc 74 (.call n_a3b [(T 73)]) <|
oc 64 (.ld (T 63) none) <|
oc 65 (.ld (T 6) (some 4)) <|
oc 67 (.ld (T 66) none) <|
oc 70 (.build [zi, zi] [(0, 1, (T 67)), (1, 1, (T 69))]) <|
oc 71 (.build [zi, zb, zi, zs, zi, zi] [(0, 4, (T 65)), (4, 2, (T 70))]) <|
.op (on (.mset (true, [.i .i64, .b, .i .i64, .s, .i .i64, .i .i64], false) (T 64) (T 71) (T 74))) <|
.done
@[simp] def a5a_s48 : VT :=
 .alt (a5a_s45) (  .alt (a5a_s46) (a5a_s47))
@[simp] def a5a_s49 : VT :=
 oc 69 (.ld (T 68) none) <|
.alt (a5a_s44) (a5a_s48)
@[simp] def a5a_s50 : VT :=
 oc 74 (.call n_a3b [(T 73)]) <|
oc 64 (.ld (T 63) none) <|
oc 65 (.ld (T 6) (some 4)) <|
oc 67 (.ld (T 66) none) <|
oc 69 (.ld (T 68) none) <|
oc 70 (.build [zi, zi] [(0, 1, (T 67)), (1, 1, (T 69))]) <|
oc 71 (.build [zi, zb, zi, zs, zi, zi] [(0, 4, (T 65)), (4, 2, (T 70))]) <|
.op (on (.mset (true, [.i .i64, .b, .i .i64, .s, .i .i64, .i .i64], false) (T 64) (T 71) (T 74))) <|
.done
@[simp] def a5a_s51 : VT :=
 .alt (a5a_s43) (  .alt (a5a_s49) (a5a_s50))
@[simp] def a5a_t14 : VT :=
 oc 61 (.mov (T 3)) <|
oc 62 (.chk (T 61)) <|
oc 63 (.fa 2 (T 62)) <|
oc 66 (.fa 0 (T 5)) <|
oc 68 (.fa 9 (T 5)) <|
oc 72 (.fa 10 (T 5)) <|
oc 73 (.ld (T 72) none) <|
.alt (a5a_s20) (  .alt (a5a_s34) (a5a_s51))
@[simp] def a5a_t15 : VT :=
 oc 75 (.mov (T 3)) <|
oc 76 (.chk (T 75)) <|
oc 77 (.fa 3 (T 76)) <|
oc 78 (.ld (T 77) none) <|
oc 79 (.ld (T 6) (some 4)) <|
oc 80 (.fa 0 (T 5)) <|
oc 81 (.ld (T 80) none) <|
oc 82 (.build [zi, zi] [(0, 1, (T 81))]) <|
oc 83 (.build [zi, zb, zi, zs, zi, zi] [(0, 4, (T 79)), (4, 2, (T 82))]) <|
oc 84 (.fa 9 (T 5)) <|
oc 85 (.ld (T 84) none) <|
.op (on (.mset (true, [.i .i64, .b, .i .i64, .s, .i .i64, .i .i64], false) (T 78) (T 83) (T 85))) <|
.done
@[simp] def a5a_r16 :LO:=[oo 86 (.bin .add (T 25) (K 1)),
oo 25 (.mov (T 86))]
def a5a_l17 : VCode :=
 (.seq (.reg a5a_r5) (.seq (.cond (T 26) .skip (.exit 0)) (.seq (.block 1 (.seq (.reg a5a_r6) (.seq (.reg a5a_r7) (.seq (.reg a5a_r8) (.block 2 (.seq (.reg a5a_r9) (.cond (T 36) (.any a5a_t10) (.seq (.reg a5a_r11) (.cond (T 46) (.any a5a_t12) (.seq (.reg a5a_r13) (.cond (T 59) (.seq (.any a5a_t14) (.any a5a_t15)) .skip))))))))))) (.reg a5a_r16))))
@[simp] def a5a_r18 :LO:=[oo 87 (.mov (T 3)),
oo 88 (.chk (T 87)),
oo 89 (.fa 1 (T 88)),
oo 90 (.ld (T 89) none),
oo 91 (.call n_a5h [(T 90)])]
@[simp] def a5a_r19 :LO:=[oo 92 (.fa 2 (T 1)),
oo 93 (.ld (T 92) none),
oo 94 (.len (T 93)),
oo 95 (.mov (K 0))]
@[simp] def a5a_r20 :LO:=[oo 96 (.bin .lss (T 95) (T 94))]
@[simp] def a5a_r21 :LO:=[oo 97 (.ia 5 (T 93) (T 95)),
oo 98 (.ld (T 97) (some 5)),
oo 8 (.alloc [zi, zb, zi, zs, .nil 1]),
on (.st (T 8) (T 98) 5)]
@[simp] def a5a_r22 :LO:=[oo 99 (.fa 0 (T 8)),
oo 100 (.ld (T 99) none),
oo 101 (.fa 1 (T 8)),
oo 102 (.ld (T 101) (some 3)),
oo 103 (.build [zi, zb, zi, zs] [(0, 1, (T 100)), (1, 3, (T 102))]),
oo 9 (.alloc [zi, zb, zi, zs]),
on (.st (T 9) (T 103) 4)]
@[simp] def a5a_r23 :LO:=[oo 104 (.build [zi, zi] []),
oo 105 (.lit 2 1 [(0, (T 104))]),
oo 10 (.mov (T 105))]
@[simp] def a5a_r24 :LO:=[oo 106 (.fa 4 (T 8)),
oo 107 (.ld (T 106) none),
oo 108 (.len (T 107)),
oo 109 (.mov (K 0))]
@[simp] def a5a_r25 :LO:=[oo 110 (.bin .lss (T 109) (T 108))]
@[simp] def a5a_r26 :LO:=[oo 111 (.ia 1 (T 107) (T 109)),
oo 112 (.ld (T 111) none),
oo 12 (.mov (T 112))]
@[simp] def a5a_t27 : VT :=
 oc 113 (.mov (T 10)) <|
oc 114 (.mov (T 12)) <|
oc 115 (.mov (T 3)) <|
oc 116 (.chk (T 115)) <|
oc 117 (.fa 3 (T 116)) <|
oc 118 (.ld (T 117) none) <|
oc 119 (.ld (T 9) (some 4)) <|
oc 120 (.mov (T 12)) <|
oc 121 (.build [zi, zi] [(0, 1, (T 120))]) <|
oc 122 (.build [zi, zb, zi, zs, zi, zi] [(0, 4, (T 119)), (4, 2, (T 121))]) <|
oc 123 (.lkp (true, [.i .i64, .b, .i .i64, .s, .i .i64, .i .i64], false) [zi] (T 118) (T 122) false) <|
oc 124 (.build [zi, zi] [(0, 1, (T 114)), (1, 1, (T 123))]) <|
oc 125 (.lit 2 1 [(0, (T 124))]) <|
oc 126 (.app 2 16 (T 113) (T 125)) <|
oc 10 (.mov (T 126)) <|
.done
@[simp] def a5a_r28 :LO:=[oo 127 (.bin .add (T 109) (K 1)),
oo 109 (.mov (T 127))]
def a5a_l29 : VCode :=
 (.seq (.reg a5a_r25) (.seq (.cond (T 110) .skip (.exit 5)) (.seq (.block 6 (.seq (.reg a5a_r26) (.any a5a_t27))) (.reg a5a_r28))))
@[simp] def a5a_t30 : VT :=
 oc 128 (.mov (T 3)) <|
oc 129 (.chk (T 128)) <|
oc 130 (.fa 4 (T 129)) <|
oc 131 (.ld (T 130) none) <|
oc 132 (.ld (T 9) (some 4)) <|
oc 133 (.mov (T 10)) <|
.op (on (.mset (true, [.i .i64, .b, .i .i64, .s], false) (T 131) (T 132) (T 133))) <|
.done
@[simp] def a5a_r31 :LO:=[oo 134 (.bin .add (T 95) (K 1)),
oo 95 (.mov (T 134))]
def a5a_l32 : VCode :=
 (.seq (.reg a5a_r20) (.seq (.cond (T 96) .skip (.exit 3)) (.seq (.block 4 (.seq (.reg a5a_r21) (.seq (.reg a5a_r22) (.seq (.reg a5a_r23) (.seq (.seq (.reg a5a_r24) (.block 5 (.loop a5a_l29))) (.any a5a_t30)))))) (.reg a5a_r31))))
@[simp] def a5a_r33 :LO:=[oo 135 (.mov (T 3)),
oo 2 (.mov (T 135))]
def a5a : VCode := (.seq (.reg a5a_r0) (.seq (.seq (.reg a5a_r1) (.cond (T 15) (.seq (.reg a5a_r2) .ret) .skip)) (.seq (.reg a5a_r3) (.seq (.seq (.reg a5a_r4) (.block 0 (.loop a5a_l17))) (.seq (.reg a5a_r18) (.seq (.seq (.reg a5a_r19) (.block 3 (.loop a5a_l32))) (.seq (.reg a5a_r33) .ret)))))))
theorem a5a_is : fnV prog n_a5a = some (136, a5a, [.tmp 2]) := by kernel_rfl
@[simp] def a6a_r0 :LO:=[oo 2 (.nils 1)]
@[simp] def a6a_r1 :LO:=[oo 3 (.mov (T 0)),
oo 4 (.peq false (T 3) (.const (.pointer none)))]
@[simp] def a6a_r2 :LO:=[oo 2 (.nils 1)]
@[simp] def a6a_r3 :LO:=[oo 5 (.mov (T 0)),
oo 6 (.chk (T 5)),
oo 7 (.fa 1 (T 6)),
oo 8 (.ld (T 7) none),
oo 9 (.call n_a4b [(T 8)]),
oo 2 (.mov (T 9))]
def a6a : VCode := (.seq (.reg a6a_r0) (.seq (.seq (.reg a6a_r1) (.cond (T 4) (.seq (.reg a6a_r2) .ret) .skip)) (.seq (.reg a6a_r3) .ret)))
theorem a6a_is : fnV prog n_a6a = some (10, a6a, [.tmp 2]) := by kernel_rfl
@[simp] def a7a_r0 :LO:=[oo 2 (.box (T 0)),
oo 4 (.mov (K 0))]
@[simp] def a7a_r1 :LO:=[oo 5 (.mov (K 0))]
@[simp] def a7a_r2 :LO:=[oo 7 (.mov (T 5)),
oo 8 (.fa 1 (T 2)),
oo 9 (.ld (T 8) none),
oo 10 (.len (T 9)),
oo 11 (.bin .lss (T 7) (T 10))]
@[simp] def a7a_r3 :LO:=[oo 14 (.fa 1 (T 2)),
oo 15 (.ld (T 14) none),
oo 16 (.mov (T 5)),
oo 17 (.ia 22 (T 15) (T 16)),
oo 18 (.ld (T 17) (some 22)),
oo 6 (.alloc [zi, zi, zi, zi, zb, zi, zs, zi, zi, zi, .nil 3, zi, zi, zb, zi, zs, zb, zi, zs, .nil 9, .nil 5, zb]),
on (.st (T 6) (T 18) 22)]
@[simp] def a7a_r4 :LO:=[oo 19 (.fa 0 (T 6)),
oo 20 (.ld (T 19) none),
oo 21 (.mov (T 1)),
oo 22 (.bin .eql (T 20) (T 21)),
oo 23 (.mov (T 22)),
og 24 23 true (.fa 1 (T 6)),
og 25 23 true (.ld (T 24) none),
og 26 23 true (.bin .eql (T 25) (K 5)),
og 27 23 true (.mov (T 26)),
og 28 27 false (.fa 1 (T 6)),
og 29 27 false (.ld (T 28) none),
og 30 27 false (.bin .eql (T 29) (K 6)),
og 31 23 true (.pick (T 27) (B true) (T 30)),
oo 32 (.pick (T 23) (T 31) (B false))]
@[simp] def a7a_r5 :LO:=[oo 33 (.fa 1 (T 6)),
oo 34 (.ld (T 33) none),
oo 4 (.mov (T 34))]
@[simp] def a7a_r6 :LO:=[oo 12 (.mov (T 5)),
oo 13 (.bin .add (T 12) (K 1)),
oo 5 (.mov (T 13))]
def a7a_l7 : VCode :=
 (.seq (.seq (.reg a7a_r2) (.cond (T 11) .skip (.exit 0))) (.seq (.block 1 (.seq (.reg a7a_r3) (.seq (.reg a7a_r4) (.cond (T 32) (.seq (.reg a7a_r5) .ret) .skip)))) (.reg a7a_r6)))
@[simp] def a7a_r8 :LO:=[oo 4 (.mov (K 0))]
def a7a : VCode := (.seq (.reg a7a_r0) (.seq (.seq (.reg a7a_r1) (.block 0 (.loop a7a_l7))) (.seq (.reg a7a_r8) .ret)))
theorem a7a_is : fnV prog n_a7a = some (35, a7a, [.tmp 4]) := by kernel_rfl
@[simp] def a8a_r0 :LO:=[oo 4 (.mov (K 0))]
@[simp] def a8a_r1 :LO:=[oo 7 (.mov (T 0)),
oo 8 (.call n_a9b [(T 7)]),
oo 5 (.mov (T 8))]
@[simp] def a8a_r2 :LO:=[oo 9 (.mov (T 1)),
oo 10 (.call n_a9b [(T 9)]),
oo 6 (.mov (T 10))]
@[simp] def a8a_r3 :LO:=[oo 11 (.mov (T 5))]
@[simp] def a8a_r4 :LO:=[oo 12 (.mov (T 6))]
@[simp] def a8a_r5 :LO:=[oo 4 (.mov (K 0))]
@[simp] def a8a_r6 :LO:=[oo 4 (.mov (K (-1)))]
@[simp] def a8a_r7 :LO:=[oo 13 (.mov (T 6))]
@[simp] def a8a_r8 :LO:=[oo 4 (.mov (K 1))]
@[simp] def a8a_r9 :LO:=[oo 14 (.mov (T 0)),
oo 15 (.mov (T 1)),
oo 16 (.bin .lss (T 14) (T 15))]
@[simp] def a8a_r10 :LO:=[oo 4 (.mov (K (-1)))]
@[simp] def a8a_r11 :LO:=[oo 17 (.mov (T 0)),
oo 18 (.mov (T 1)),
oo 19 (.bin .gtr (T 17) (T 18))]
@[simp] def a8a_r12 :LO:=[oo 4 (.mov (K 1))]
@[simp] def a8a_r13 :LO:=[oo 4 (.mov (K 0))]
def a9a_string : VCode := (.seq (.reg a8a_r0) (.seq (.reg a8a_r1) (.seq (.reg a8a_r2) (.seq (.seq (.reg a8a_r3) (.cond (T 11) (.seq (.seq (.reg a8a_r4) (.cond (T 12) (.seq (.reg a8a_r5) .ret) .skip)) (.seq (.reg a8a_r6) .ret)) .skip)) (.seq (.seq (.reg a8a_r7) (.cond (T 13) (.seq (.reg a8a_r8) .ret) .skip)) (.seq (.seq (.reg a8a_r9) (.cond (T 16) (.seq (.reg a8a_r10) .ret) .skip)) (.seq (.seq (.reg a8a_r11) (.cond (T 19) (.seq (.reg a8a_r12) .ret) .skip)) (.seq (.reg a8a_r13) .ret))))))))
theorem a8a_is : fnV prog n_a8a = some (20, a9a_string, [.tmp 4]) := by kernel_rfl
@[simp] def a0b_r0 :LO:=[oo 4 (.mov (K 0))]
@[simp] def a0b_r1 :LO:=[oo 7 (.mov (T 0)),
oo 8 (.call n_a1c [(T 7)]),
oo 5 (.mov (T 8))]
@[simp] def a0b_r2 :LO:=[oo 9 (.mov (T 1)),
oo 10 (.call n_a1c [(T 9)]),
oo 6 (.mov (T 10))]
@[simp] def a0b_r3 :LO:=[oo 11 (.mov (T 5))]
@[simp] def a0b_r4 :LO:=[oo 12 (.mov (T 6))]
@[simp] def a0b_r5 :LO:=[oo 4 (.mov (K 0))]
@[simp] def a0b_r6 :LO:=[oo 4 (.mov (K (-1)))]
@[simp] def a0b_r7 :LO:=[oo 13 (.mov (T 6))]
@[simp] def a0b_r8 :LO:=[oo 4 (.mov (K 1))]
@[simp] def a0b_r9 :LO:=[oo 14 (.mov (T 0)),
oo 15 (.mov (T 1)),
oo 16 (.bin .lss (T 14) (T 15))]
@[simp] def a0b_r10 :LO:=[oo 4 (.mov (K (-1)))]
@[simp] def a0b_r11 :LO:=[oo 17 (.mov (T 0)),
oo 18 (.mov (T 1)),
oo 19 (.bin .gtr (T 17) (T 18))]
@[simp] def a0b_r12 :LO:=[oo 4 (.mov (K 1))]
@[simp] def a0b_r13 :LO:=[oo 4 (.mov (K 0))]
def a9a_int64 : VCode := (.seq (.reg a0b_r0) (.seq (.reg a0b_r1) (.seq (.reg a0b_r2) (.seq (.seq (.reg a0b_r3) (.cond (T 11) (.seq (.seq (.reg a0b_r4) (.cond (T 12) (.seq (.reg a0b_r5) .ret) .skip)) (.seq (.reg a0b_r6) .ret)) .skip)) (.seq (.seq (.reg a0b_r7) (.cond (T 13) (.seq (.reg a0b_r8) .ret) .skip)) (.seq (.seq (.reg a0b_r9) (.cond (T 16) (.seq (.reg a0b_r10) .ret) .skip)) (.seq (.seq (.reg a0b_r11) (.cond (T 19) (.seq (.reg a0b_r12) .ret) .skip)) (.seq (.reg a0b_r13) .ret))))))))
theorem a0b_is : fnV prog n_a0b = some (20, a9a_int64, [.tmp 4]) := by kernel_rfl
@[simp] def a1b_r0 :LO:=[oo 1 (.box (T 0)),
oo 2 (.mov (K 0))]
@[simp] def a1b_r1 :LO:=[oo 3 (.mov (K 1))]
@[simp] def a1b_r2 :LO:=[oo 4 (.mov (K 0))]
@[simp] def a1b_r3 :LO:=[oo 5 (.mov (T 4)),
oo 6 (.fa 8 (T 1)),
oo 7 (.ld (T 6) none),
oo 8 (.len (T 7)),
oo 9 (.bin .lss (T 5) (T 8))]
@[simp] def a1b_r4 :LO:=[oo 12 (.mov (T 3)),
oo 13 (.fa 8 (T 1)),
oo 14 (.ld (T 13) none),
oo 15 (.mov (T 4)),
oo 16 (.ia 9 (T 14) (T 15)),
oo 17 (.ld (T 16) (some 9)),
oo 18 (.call n_a1b [(T 17)]),
oo 19 (.bin .add (T 12) (T 18)),
oo 3 (.mov (T 19))]
@[simp] def a1b_r5 :LO:=[oo 10 (.mov (T 4)),
oo 11 (.bin .add (T 10) (K 1)),
oo 4 (.mov (T 11))]
def a1b_l6 : VCode :=
 (.seq (.seq (.reg a1b_r3) (.cond (T 9) .skip (.exit 0))) (.seq (.block 1 (.reg a1b_r4)) (.reg a1b_r5)))
@[simp] def a1b_r7 :LO:=[oo 20 (.mov (T 3)),
oo 2 (.mov (T 20))]
def a1b : VCode := (.seq (.reg a1b_r0) (.seq (.reg a1b_r1) (.seq (.seq (.reg a1b_r2) (.block 0 (.loop a1b_l6))) (.seq (.reg a1b_r7) .ret))))
theorem a1b_is : fnV prog n_a1b = some (21, a1b, [.tmp 2]) := by kernel_rfl
@[simp] def a2b_r0 :LO:=[oo 1 (.box (T 0)),
oo 2 (.mov (K 0))]
@[simp] def a2b_r1 :LO:=[oo 10 (.ld (T 1) (some 3)),
oo 11 (.mkmap (false, [.i .i64], false)),
oo 12 (.mkmap (true, [.i .i64, .i .i64, .b, .i .i64, .s], false)),
oo 13 (.mkmap (false, [.i .i64], false)),
oo 14 (.build [.nil 1, .nil 22, .nil 5, .iv (.v (.map none)), .iv (.v (.map none)), .iv (.v (.map none))] [(0, 3, (T 10)), (3, 1, (T 11)), (4, 1, (T 12)), (5, 1, (T 13))]),
oo 15 (.box (T 14)),
oo 3 (.alloc [.iv (.v (.pointer none))]),
on (.st (T 3) (T 15) 1)]
@[simp] def a2b_r2 :LO:=[oo 16 (.mkfn n_a2c [] [(T 3)]),
oo 4 (.mov (T 16))]
@[simp] def a2b_r3 :LO:=[oo 17 (.ld (T 3) none),
oo 18 (.mkfn n_a8c [(T 17)] []),
oo 5 (.mov (T 18))]
@[simp] def a2b_r4 :LO:=[oo 19 (.fa 0 (T 1)),
oo 20 (.ld (T 19) none),
oo 21 (.len (T 20)),
oo 22 (.bin .lss (T 21) (K 1)),
oo 23 (.mov (T 22)),
og 24 23 false (.fa 0 (T 1)),
og 25 23 false (.ld (T 24) none),
og 26 23 false (.len (T 25)),
og 27 23 false (.bin .gtr (T 26) (K 3)),
oo 28 (.pick (T 23) (B true) (T 27))]
@[simp] def a2b_r5 :LO:=[oo 29 (.fa 0 (T 1)),
oo 30 (.ld (T 29) none),
oo 31 (.len (T 30)),
oo 32 (.mov (K 0))]
@[simp] def a2b_r6 :LO:=[oo 33 (.bin .lss (T 32) (T 31))]
@[simp] def a2b_r7 :LO:=[oo 34 (.ia 1 (T 30) (T 32)),
oo 35 (.ld (T 34) (some 1)),
oo 7 (.alloc [.nil 1]),
on (.st (T 7) (T 35) 1)]
@[simp] def a2b_r8 :LO:=[oo 36 (.ld (T 7) (some 1)),
oo 37 (.call n_a9c [(T 36)]),
oo 38 (.bin .neq (T 37) (K 0))]
@[simp] def a2b_r9 :LO:=[oo 39 (.bin .add (T 32) (K 1)),
oo 32 (.mov (T 39))]
def a2b_l10 : VCode :=
 (.seq (.reg a2b_r6) (.seq (.cond (T 33) .skip (.exit 0)) (.seq (.block 1 (.seq (.reg a2b_r7) (.seq (.reg a2b_r8) (.cond (T 38) (.goto 0) .skip)))) (.reg a2b_r9))))
@[simp] def a2b_r11 :LO:=[oo 40 (.fa 1 (T 1)),
oo 41 (.ld (T 40) none),
oo 42 (.len (T 41)),
oo 43 (.mov (K 0))]
@[simp] def a2b_r12 :LO:=[oo 44 (.bin .lss (T 43) (T 42))]
@[simp] def a2b_r13 :LO:=[oo 45 (.ia 22 (T 41) (T 43)),
oo 46 (.ld (T 45) (some 22)),
oo 9 (.alloc [zi, zi, zi, zi, zb, zi, zs, zi, zi, zi, .nil 3, zi, zi, zb, zi, zs, zb, zi, zs, .nil 9, .nil 5, zb]),
on (.st (T 9) (T 46) 22)]
@[simp] def a2b_r14 :LO:=[oo 47 (.mov (T 4)),
oo 48 (.ld (T 9) (some 22)),
oo 49 (.callv (T 47) [(T 48)]),
oo 50 (.un .not (T 49))]
@[simp] def a2b_r15 :LO:=[oo 51 (.bin .add (T 43) (K 1)),
oo 43 (.mov (T 51))]
def a2b_l16 : VCode :=
 (.seq (.reg a2b_r12) (.seq (.cond (T 44) .skip (.exit 2)) (.seq (.block 3 (.seq (.reg a2b_r13) (.seq (.reg a2b_r14) (.cond (T 50) (.goto 0) .skip)))) (.reg a2b_r15))))
@[simp] def a2b_r17 :LO:=[oo 52 (.mov (T 5)),
oo 53 (.callv (T 52) [])]
@[simp] def a2b_r18 :LO:=[oo 2 (.mov (K 0))]
@[simp] def a2b_r19 :LO:=[oo 2 (.mov (K 180))]
@[simp] def a2b_r20 :LO:=[oo 2 (.mov (K 180))]
def a2b : VCode := (.seq (.reg a2b_r0) (.scopeL (.seq (.reg a2b_r1) (.seq (.reg a2b_r2) (.seq (.reg a2b_r3) (.seq (.seq (.reg a2b_r4) (.cond (T 28) (.goto 0) .skip)) (.seq (.seq (.reg a2b_r5) (.block 0 (.loop a2b_l10))) (.seq (.seq (.reg a2b_r11) (.block 2 (.loop a2b_l16))) (.seq (.seq (.reg a2b_r17) (.cond (T 53) (.seq (.reg a2b_r18) .ret) .skip)) (.seq .skip (.seq (.reg a2b_r19) .ret))))))))) 0 (.seq .skip (.seq (.reg a2b_r20) .ret))))
theorem a2b_is : fnV prog n_a2b = some (54, a2b, [.tmp 2]) := by kernel_rfl
@[simp] def a3b_r0 :LO:=[oo 2 (.nils 3)]
@[simp] def a3b_r1 :LO:=[oo 3 (.mov (T 0)),
oo 4 (.call n_a0d [(T 3)]),
oo 2 (.mov (T 4))]
def a3b : VCode := (.seq (.reg a3b_r0) (.seq (.reg a3b_r1) .ret))
theorem a3b_is : fnV prog n_a3b = some (5, a3b, [.tmp 2]) := by kernel_rfl
@[simp] def a4b_r0 :LO:=[oo 2 (.nils 1)]
@[simp] def a4b_r1 :LO:=[oo 3 (.mov (T 0)),
oo 4 (.snil false (T 3))]
@[simp] def a4b_r2 :LO:=[oo 2 (.nils 1)]
@[simp] def a4b_r3 :LO:=[oo 5 (.lit 1 0 []),
oo 6 (.mov (T 0)),
oo 7 (.app 1 8 (T 5) (T 6)),
oo 2 (.mov (T 7))]
def a5b_int : VCode := (.seq (.reg a4b_r0) (.seq (.seq (.reg a4b_r1) (.cond (T 4) (.seq (.reg a4b_r2) .ret) .skip)) (.seq (.reg a4b_r3) .ret)))
theorem a4b_is : fnV prog n_a4b = some (8, a5b_int, [.tmp 2]) := by kernel_rfl
@[simp] def a6b_r0 :LO:=[oo 6 (.box (T 2)),
oo 7 (.box (T 3)),
oo 8 (.mov (K 0))]
@[simp] def a6b_r1 :LO:=[oo 12 (.mov (T 0)),
oo 13 (.mov (T 1)),
oo 14 (.ld (T 6) (some 3)),
oo 15 (.ld (T 7) (some 2)),
oo 16 (.call n_a1d [(T 12), (T 13), (T 14), (T 15)]),
oo 11 (.mov (T 16)),
oo 17 (.ext 0 (T 11)),
oo 18 (.ext 1 (T 11)),
oo 9 (.mov (T 17)),
oo 10 (.mov (T 18))]
@[simp] def a6b_r2 :LO:=[oo 19 (.mov (T 10)),
oo 20 (.un .not (T 19))]
@[simp] def a6b_r3 :LO:=[oo 8 (.mov (K (-1)))]
@[simp] def a6b_r4 :LO:=[oo 21 (.mov (T 0)),
oo 22 (.mov (T 1)),
oo 23 (.ld (T 6) (some 3)),
oo 24 (.call n_a3d [(T 21), (T 22), (T 23)]),
oo 25 (.mkfn n_a5d [] [(T 7)]),
oo 26 (.call n_a2d [(T 24), (T 25)]),
oo 8 (.mov (T 26))]
def a6b : VCode := (.seq (.reg a6b_r0) (.seq (.seq (.reg a6b_r1) (.seq (.reg a6b_r2) (.cond (T 20) (.seq (.reg a6b_r3) .ret) .skip))) (.seq (.reg a6b_r4) .ret)))
theorem a6b_is : fnV prog n_a6b = some (27, a6b, [.tmp 8]) := by kernel_rfl
@[simp] def a7b_r0 :LO:=[oo 5 (.box (T 2)),
oo 6 (.nils 2)]
@[simp] def a7b_r1 :LO:=[oo 9 (.mov (T 0)),
oo 10 (.peq false (T 9) (.const (.pointer none)))]
@[simp] def a7b_r2 :LO:=[oo 6 (.nils 2)]
@[simp] def a7b_r3 :LO:=[oo 11 (.mov (T 0)),
oo 12 (.mov (T 1)),
oo 13 (.ld (T 5) (some 3)),
oo 14 (.call n_a3d [(T 11), (T 12), (T 13)]),
oo 7 (.mov (T 14))]
@[simp] def a7b_r4 :LO:=[oo 15 (.mov (T 7)),
oo 16 (.len (T 15)),
oo 17 (.mks 2 16 [zi, zi] (T 16) (T 16)),
oo 8 (.mov (T 17))]
@[simp] def a7b_r5 :LO:=[oo 18 (.mov (T 8)),
oo 19 (.mov (T 7)),
oo 20 (.cpy 2 (T 18) (T 19))]
@[simp] def a7b_r6 :LO:=[oo 21 (.mov (T 8)),
oo 6 (.mov (T 21))]
def a7b : VCode := (.seq (.reg a7b_r0) (.seq (.seq (.reg a7b_r1) (.cond (T 10) (.seq (.reg a7b_r2) .ret) .skip)) (.seq (.reg a7b_r3) (.seq (.reg a7b_r4) (.seq (.reg a7b_r5) (.seq (.reg a7b_r6) .ret))))))
theorem a7b_is : fnV prog n_a7b = some (22, a7b, [.tmp 6]) := by kernel_rfl
@[simp] def a8b_r0 :LO:=[oo 5 (.box (T 0)),
oo 6 (.box (T 1)),
oo 7 (.box (T 2)),
oo 9 (.box (T 4)),
oo 10 (.mov (B false))]
@[simp] def a8b_r1 :LO:=[oo 13 (.ld (T 5) none),
oo 14 (.peq false (T 13) (.const (.pointer none)))]
@[simp] def a8b_r2 :LO:=[oo 10 (.mov (B false))]
@[simp] def a8b_r3 :LO:=[oo 15 (.ld (T 5) none),
oo 16 (.ld (T 6) none),
oo 17 (.ld (T 7) (some 3)),
oo 18 (.call n_a3d [(T 15), (T 16), (T 17)]),
oo 11 (.mov (T 18))]
@[simp] def a8b_r4 :LO:=[oo 19 (.mov (T 3)),
oo 20 (.bin .lss (T 19) (K 1)),
oo 21 (.mov (T 20)),
og 22 21 false (.mov (T 3)),
og 23 21 false (.mov (T 11)),
og 24 21 false (.len (T 23)),
og 25 21 false (.bin .geq (T 22) (T 24)),
oo 26 (.pick (T 21) (B true) (T 25))]
@[simp] def a8b_r5 :LO:=[oo 10 (.mov (B false))]
@[simp] def a8b_r6 :LO:=[oo 27 (.mkfn n_a6d [] [(T 5), (T 6), (T 7), (T 9)]),
oo 12 (.mov (T 27))]
@[simp] def a8b_s0 : VT :=
 oc 34 (.callv (T 28) [(T 33)]) <|
oc 39 (.ld (T 38) (some 2)) <|
oc 40 (.callv (T 35) [(T 39)]) <|
oc 41 (.beq true (T 34) (T 40)) <|
oc 10 (.mov (T 41)) <|
.done
@[simp] def a8b_s1 : VT :=
 oc 39 (.ld (T 38) (some 2)) <|
oc 34 (.callv (T 28) [(T 33)]) <|
oc 40 (.callv (T 35) [(T 39)]) <|
oc 41 (.beq true (T 34) (T 40)) <|
oc 10 (.mov (T 41)) <|
.done
@[simp] def a8b_t7 : VT :=
 oc 28 (.mov (T 12)) <|
oc 29 (.mov (T 11)) <|
oc 30 (.mov (T 3)) <|
oc 31 (.bin .sub (T 30) (K 1)) <|
oc 32 (.ia 2 (T 29) (T 31)) <|
oc 33 (.ld (T 32) (some 2)) <|
oc 35 (.mov (T 12)) <|
oc 36 (.mov (T 11)) <|
oc 37 (.mov (T 3)) <|
oc 38 (.ia 2 (T 36) (T 37)) <|
.alt (a8b_s0) (a8b_s1)
def a8b : VCode := (.seq (.reg a8b_r0) (.seq (.seq (.reg a8b_r1) (.cond (T 14) (.seq (.reg a8b_r2) .ret) .skip)) (.seq (.reg a8b_r3) (.seq (.seq (.reg a8b_r4) (.cond (T 26) (.seq (.reg a8b_r5) .ret) .skip)) (.seq (.reg a8b_r6) (.seq (.any a8b_t7) .ret))))))
theorem a8b_is : fnV prog n_a8b = some (42, a8b, [.tmp 10]) := by kernel_rfl
@[simp] def a9b_r0 :LO:=[oo 2 (.mov (B false))]
@[simp] def a9b_r1 :LO:=[oo 3 (.mov (T 0)),
oo 4 (.mov (T 0)),
oo 5 (.bin .neq (T 3) (T 4)),
oo 2 (.mov (T 5))]
def a0c_string : VCode := (.seq (.reg a9b_r0) (.seq (.reg a9b_r1) .ret))
theorem a9b_is : fnV prog n_a9b = some (6, a0c_string, [.tmp 2]) := by kernel_rfl
@[simp] def a1c_r0 :LO:=[oo 2 (.mov (B false))]
@[simp] def a1c_r1 :LO:=[oo 3 (.mov (T 0)),
oo 4 (.mov (T 0)),
oo 5 (.bin .neq (T 3) (T 4)),
oo 2 (.mov (T 5))]
def a0c_int64 : VCode := (.seq (.reg a1c_r0) (.seq (.reg a1c_r1) .ret))
theorem a1c_is : fnV prog n_a1c = some (6, a0c_int64, [.tmp 2]) := by kernel_rfl
@[simp] def a2c_r0 :LO:=[oo 2 (.box (T 0)),
oo 3 (.mov (B false))]
@[simp] def a2c_r1 :LO:=[oo 4 (.ld (T 1) none),
oo 5 (.ld (T 2) (some 22)),
oo 6 (.call n_a3c [(T 4), (T 5)]),
oo 7 (.mov (T 6)),
og 8 7 true (.ld (T 1) none),
og 9 7 true (.ld (T 2) (some 22)),
og 10 7 true (.call n_a5c [(T 8), (T 9)]),
oo 11 (.pick (T 7) (T 10) (B false)),
oo 12 (.mov (T 11)),
og 13 12 true (.ld (T 1) none),
og 14 12 true (.ld (T 2) (some 22)),
og 15 12 true (.call n_a6c [(T 13), (T 14)]),
oo 16 (.pick (T 12) (T 15) (B false)),
oo 17 (.mov (T 16)),
og 18 17 true (.ld (T 1) none),
og 19 17 true (.ld (T 2) (some 22)),
og 20 17 true (.call n_a7c [(T 18), (T 19)]),
oo 21 (.pick (T 17) (T 20) (B false)),
oo 3 (.mov (T 21))]
def a2c : VCode := (.seq (.reg a2c_r0) (.seq (.reg a2c_r1) .ret))
theorem a2c_is : fnV prog n_a2c = some (22, a2c, [.tmp 3]) := by kernel_rfl
@[simp] def a3c_r0 :LO:=[oo 3 (.box (T 1)),
oo 4 (.mov (B false))]
@[simp] def a3c_r1 :LO:=[oo 6 (.fa 0 (T 3)),
oo 7 (.ld (T 6) none),
oo 8 (.bin .lss (T 7) (K 1)),
oo 9 (.mov (T 8)),
og 10 9 false (.fa 1 (T 3)),
og 11 9 false (.ld (T 10) none),
og 12 9 false (.bin .lss (T 11) (K 1)),
oo 13 (.pick (T 9) (B true) (T 12)),
oo 14 (.mov (T 13)),
og 15 14 false (.fa 1 (T 3)),
og 16 14 false (.ld (T 15) none),
og 17 14 false (.bin .gtr (T 16) (K 6)),
oo 18 (.pick (T 14) (B true) (T 17))]
@[simp] def a3c_r2 :LO:=[oo 4 (.mov (B false))]
@[simp] def a3c_t3 : VT :=
 oc 19 (.mov (T 0)) <|
oc 20 (.chk (T 19)) <|
oc 21 (.fa 3 (T 20)) <|
oc 22 (.ld (T 21) none) <|
oc 23 (.fa 0 (T 3)) <|
oc 24 (.ld (T 23) none) <|
oc 25 (.lkp (false, [.i .i64], false) [zi] (T 22) (T 24) false) <|
oc 5 (.mov (T 25)) <|
.done
@[simp] def a3c_r4 :LO:=[oo 26 (.fa 1 (T 3)),
oo 27 (.ld (T 26) none),
oo 28 (.bin .eql (T 27) (K 1))]
@[simp] def a3c_r5 :LO:=[oo 29 (.mov (T 5)),
oo 30 (.bin .neq (T 29) (K 0)),
oo 31 (.mov (T 30)),
og 32 31 false (.fa 2 (T 3)),
og 33 31 false (.ld (T 32) none),
og 34 31 false (.bin .lss (T 33) (K 1)),
oo 35 (.pick (T 31) (B true) (T 34)),
oo 36 (.mov (T 35)),
og 37 36 false (.fa 2 (T 3)),
og 38 36 false (.ld (T 37) none),
og 39 36 false (.bin .gtr (T 38) (K 5)),
oo 40 (.pick (T 36) (B true) (T 39))]
@[simp] def a3c_r6 :LO:=[oo 4 (.mov (B false))]
@[simp] def a3c_t7 : VT :=
 oc 41 (.mov (T 0)) <|
oc 42 (.chk (T 41)) <|
oc 43 (.fa 3 (T 42)) <|
oc 44 (.ld (T 43) none) <|
oc 45 (.fa 0 (T 3)) <|
oc 46 (.ld (T 45) none) <|
oc 47 (.fa 1 (T 3)) <|
oc 48 (.ld (T 47) none) <|
.op (on (.mset (false, [.i .i64], false) (T 44) (T 46) (T 48))) <|
.done
@[simp] def a3c_r8 :LO:=[oo 4 (.mov (B true))]
@[simp] def a3c_r9 :LO:=[oo 49 (.mov (T 5)),
oo 50 (.bin .neq (T 49) (K 1))]
@[simp] def a3c_r10 :LO:=[oo 4 (.mov (B false))]
@[simp] def a3c_r11 :LO:=[oo 51 (.fa 1 (T 3)),
oo 52 (.ld (T 51) none),
oo 53 (.bin .eql (T 52) (K 5)),
oo 54 (.mov (T 53)),
og 55 54 false (.fa 1 (T 3)),
og 56 54 false (.ld (T 55) none),
og 57 54 false (.bin .eql (T 56) (K 6)),
oo 58 (.pick (T 54) (B true) (T 57))]
@[simp] def a3c_t12 : VT :=
 oc 59 (.mov (T 0)) <|
oc 60 (.chk (T 59)) <|
oc 61 (.fa 3 (T 60)) <|
oc 62 (.ld (T 61) none) <|
oc 63 (.fa 0 (T 3)) <|
oc 64 (.ld (T 63) none) <|
oc 65 (.fa 1 (T 3)) <|
oc 66 (.ld (T 65) none) <|
.op (on (.mset (false, [.i .i64], false) (T 62) (T 64) (T 66))) <|
.done
@[simp] def a3c_r13 :LO:=[oo 4 (.mov (B true))]
def a4c_frame : VCode := (.seq (.reg a3c_r0) (.seq (.seq (.reg a3c_r1) (.cond (T 18) (.seq (.reg a3c_r2) .ret) .skip)) (.seq (.any a3c_t3) (.seq (.seq (.reg a3c_r4) (.cond (T 28) (.seq (.seq (.reg a3c_r5) (.cond (T 40) (.seq (.reg a3c_r6) .ret) .skip)) (.seq (.any a3c_t7) (.seq (.reg a3c_r8) .ret))) .skip)) (.seq (.seq (.reg a3c_r9) (.cond (T 50) (.seq (.reg a3c_r10) .ret) .skip)) (.seq (.seq (.reg a3c_r11) (.cond (T 58) (.any a3c_t12) .skip)) (.seq (.reg a3c_r13) .ret)))))))
theorem a3c_is : fnV prog n_a3c = some (67, a4c_frame, [.tmp 4]) := by kernel_rfl
@[simp] def a5c_r0 :LO:=[oo 3 (.box (T 1)),
oo 4 (.mov (B false))]
@[simp] def a5c_r1 :LO:=[oo 7 (.fa 1 (T 3)),
oo 8 (.ld (T 7) none),
oo 9 (.bin .neq (T 8) (K 2))]
@[simp] def a5c_r2 :LO:=[oo 4 (.mov (B true))]
@[simp] def a5c_r3 :LO:=[oo 10 (.fa 3 (T 3)),
oo 11 (.ld (T 10) none),
oo 12 (.fa 4 (T 3)),
oo 13 (.ld (T 12) (some 3)),
oo 14 (.build [zi, zb, zi, zs] [(0, 1, (T 11)), (1, 3, (T 13))]),
oo 5 (.alloc [zi, zb, zi, zs]),
on (.st (T 5) (T 14) 4)]
@[simp] def a5c_t4 : VT :=
 oc 15 (.mov (T 0)) <|
oc 16 (.chk (T 15)) <|
oc 17 (.fa 4 (T 16)) <|
oc 18 (.ld (T 17) none) <|
oc 19 (.fa 0 (T 3)) <|
oc 20 (.ld (T 19) none) <|
oc 21 (.ld (T 5) (some 4)) <|
oc 22 (.build [zi, zi, zb, zi, zs] [(0, 1, (T 20)), (1, 4, (T 21))]) <|
oc 23 (.lkp (true, [.i .i64, .i .i64, .b, .i .i64, .s], false) [zi] (T 18) (T 22) false) <|
oc 6 (.mov (T 23)) <|
.done
@[simp] def a5c_r5 :LO:=[oo 24 (.mov (T 6)),
oo 25 (.bin .gtr (T 24) (K 0))]
@[simp] def a5c_r6 :LO:=[oo 26 (.mov (T 0)),
oo 27 (.fa 3 (T 3)),
oo 28 (.ld (T 27) none),
oo 29 (.fa 4 (T 3)),
oo 30 (.ld (T 29) (some 3)),
oo 31 (.call n_a8d [(T 26), (T 28), (T 30)]),
oo 32 (.mov (T 31)),
og 33 32 true (.fa 7 (T 3)),
og 34 32 true (.ld (T 33) (some 2)),
og 35 32 true (.fa 0 (T 3)),
og 36 32 true (.ld (T 35) none),
og 37 32 true (.mov (T 6)),
og 38 32 true (.build [zi, zi] [(0, 1, (T 36)), (1, 1, (T 37))]),
og 39 32 true (.eqs false [.i .i64, .i .i64] (T 34) (T 38)),
oo 40 (.pick (T 32) (T 39) (B false)),
oo 4 (.mov (T 40))]
@[simp] def a5c_r7 :LO:=[oo 41 (.mov (T 0)),
oo 42 (.fa 3 (T 3)),
oo 43 (.ld (T 42) none),
oo 44 (.fa 4 (T 3)),
oo 45 (.ld (T 44) (some 3)),
oo 46 (.call n_a8d [(T 41), (T 43), (T 45)]),
oo 47 (.mov (T 46)),
og 48 47 true (.fa 7 (T 3)),
og 49 47 true (.ld (T 48) (some 2)),
og 50 47 true (.build [zi, zi] []),
og 51 47 true (.eqs false [.i .i64, .i .i64] (T 49) (T 50)),
og 52 47 true (.mov (T 51)),
og 53 52 false (.mov (T 0)),
og 54 52 false (.ld (T 5) (some 4)),
og 55 52 false (.fa 7 (T 3)),
og 56 52 false (.ld (T 55) (some 2)),
og 57 52 false (.call n_a9d [(T 53), (T 54), (T 56)]),
og 58 47 true (.pick (T 52) (B true) (T 57)),
oo 59 (.pick (T 47) (T 58) (B false)),
oo 4 (.mov (T 59))]
def a4c_read : VCode := (.seq (.reg a5c_r0) (.seq (.seq (.reg a5c_r1) (.cond (T 9) (.seq (.reg a5c_r2) .ret) .skip)) (.seq (.reg a5c_r3) (.seq (.seq (.any a5c_t4) (.seq (.reg a5c_r5) (.cond (T 25) (.seq (.reg a5c_r6) .ret) .skip))) (.seq (.reg a5c_r7) .ret)))))
theorem a5c_is : fnV prog n_a5c = some (60, a4c_read, [.tmp 4]) := by kernel_rfl
@[simp] def a6c_r0 :LO:=[oo 3 (.box (T 1)),
oo 4 (.mov (B false))]
@[simp] def a6c_r1 :LO:=[oo 11 (.fa 1 (T 3)),
oo 12 (.ld (T 11) none),
oo 13 (.bin .neq (T 12) (K 4))]
@[simp] def a6c_r2 :LO:=[oo 4 (.mov (B true))]
@[simp] def a6c_t3 : VT :=
 oc 14 (.fa 3 (T 3)) <|
oc 15 (.ld (T 14) none) <|
oc 16 (.bin .lss (T 15) (K 0)) <|
oc 17 (.mov (T 16)) <|
.op (og 18 17 false (.fa 3 (T 3))) <|
.op (og 19 17 false (.ld (T 18) none)) <|
.op (og 20 17 false (.mov (T 0))) <|
.op (og 21 17 false (.chk (T 20))) <|
.op (og 22 17 false (.fa 0 (T 21))) <|
.op (og 23 17 false (.fa 0 (T 22))) <|
.op (og 24 17 false (.ld (T 23) none)) <|
.op (og 25 17 false (.len (T 24))) <|
.op (og 26 17 false (.bin .geq (T 19) (T 25))) <|
oc 27 (.pick (T 17) (B true) (T 26)) <|
oc 28 (.mov (T 27)) <|
.op (og 29 28 false (.mov (T 0))) <|
.op (og 30 28 false (.chk (T 29))) <|
.op (og 31 28 false (.fa 0 (T 30))) <|
.op (og 32 28 false (.fa 0 (T 31))) <|
.op (og 33 28 false (.ld (T 32) none)) <|
.op (og 34 28 false (.fa 3 (T 3))) <|
.op (og 35 28 false (.ld (T 34) none)) <|
.op (og 36 28 false (.ia 1 (T 33) (T 35))) <|
.op (og 37 28 false (.ld (T 36) (some 1))) <|
.op (og 38 28 false (.fa 11 (T 3))) <|
.op (og 39 28 false (.ld (T 38) (some 9))) <|
.op (og 40 28 false (.call n_a0e [(T 37), (T 39)])) <|
.op (og 41 28 false (.bin .neq (T 40) (K 0))) <|
oc 42 (.pick (T 28) (B true) (T 41)) <|
.done
@[simp] def a6c_r4 :LO:=[oo 4 (.mov (B false))]
@[simp] def a6c_r5 :LO:=[oo 43 (.mkmap (true, [.i .i64, .b, .i .i64, .s], true)),
oo 5 (.mov (T 43))]
@[simp] def a6c_r6 :LO:=[oo 44 (.fa 20 (T 3)),
oo 45 (.ld (T 44) none),
oo 46 (.len (T 45)),
oo 47 (.mov (K 0))]
@[simp] def a6c_r7 :LO:=[oo 48 (.bin .lss (T 47) (T 46))]
@[simp] def a6c_r8 :LO:=[oo 49 (.mov (T 47)),
oo 50 (.ia 5 (T 45) (T 47)),
oo 51 (.ld (T 50) (some 5)),
oo 7 (.alloc [zb, zi, zs, zi, zi]),
oo 6 (.mov (T 49)),
on (.st (T 7) (T 51) 5)]
@[simp] def a6c_r9 :LO:=[oo 52 (.fa 3 (T 3)),
oo 53 (.ld (T 52) none),
oo 54 (.fa 0 (T 7)),
oo 55 (.ld (T 54) (some 3)),
oo 56 (.build [zi, zb, zi, zs] [(0, 1, (T 53)), (1, 3, (T 55))]),
oo 8 (.alloc [zi, zb, zi, zs]),
on (.st (T 8) (T 56) 4)]
@[simp] def a6c_t10 : VT :=
 oc 57 (.mov (T 0)) <|
oc 58 (.fa 3 (T 3)) <|
oc 59 (.ld (T 58) none) <|
oc 60 (.fa 0 (T 7)) <|
oc 61 (.ld (T 60) (some 3)) <|
oc 62 (.call n_a8d [(T 57), (T 59), (T 61)]) <|
oc 63 (.un .not (T 62)) <|
oc 64 (.mov (T 63)) <|
.op (og 65 64 false (.mov (T 0))) <|
.op (og 66 64 false (.ld (T 8) (some 4))) <|
.op (og 67 64 false (.fa 3 (T 7))) <|
.op (og 68 64 false (.ld (T 67) (some 2))) <|
.op (og 69 64 false (.call n_a9d [(T 65), (T 66), (T 68)])) <|
.op (og 70 64 false (.un .not (T 69))) <|
oc 71 (.pick (T 64) (B true) (T 70)) <|
oc 72 (.mov (T 71)) <|
.op (og 73 72 false (.mov (T 6))) <|
.op (og 74 72 false (.bin .gtr (T 73) (K 0))) <|
.op (og 75 72 false (.mov (T 74))) <|
.op (og 76 75 true (.fa 20 (T 3))) <|
.op (og 77 75 true (.ld (T 76) none)) <|
.op (og 78 75 true (.mov (T 6))) <|
.op (og 79 75 true (.bin .sub (T 78) (K 1))) <|
.op (og 80 75 true (.ia 5 (T 77) (T 79))) <|
.op (og 81 75 true (.fa 0 (T 80))) <|
.op (og 82 75 true (.ld (T 81) (some 3))) <|
.op (og 83 75 true (.fa 0 (T 7))) <|
.op (og 84 75 true (.ld (T 83) (some 3))) <|
.op (og 85 75 true (.call n_a2a [(T 82), (T 84)])) <|
.op (og 86 75 true (.bin .geq (T 85) (K 0))) <|
.op (og 87 72 false (.pick (T 75) (T 86) (B false))) <|
oc 88 (.pick (T 72) (B true) (T 87)) <|
.done
@[simp] def a6c_r11 :LO:=[oo 4 (.mov (B false))]
@[simp] def a6c_r12 :LO:=[oo 89 (.mov (T 5)),
oo 90 (.ld (T 8) (some 4)),
oo 91 (.fa 3 (T 7)),
oo 92 (.ld (T 91) (some 2)),
on (.mset (true, [.i .i64, .b, .i .i64, .s], true) (T 89) (T 90) (T 92))]
@[simp] def a6c_r13 :LO:=[oo 93 (.bin .add (T 47) (K 1)),
oo 47 (.mov (T 93))]
def a6c_l14 : VCode :=
 (.seq (.reg a6c_r7) (.seq (.cond (T 48) .skip (.exit 0)) (.seq (.block 1 (.seq (.reg a6c_r8) (.seq (.reg a6c_r9) (.seq (.seq (.any a6c_t10) (.cond (T 88) (.seq (.reg a6c_r11) .ret) .skip)) (.reg a6c_r12))))) (.reg a6c_r13))))
@[simp] def a6c_t15 : VT :=
 oc 94 (.mov (T 0)) <|
oc 95 (.chk (T 94)) <|
oc 96 (.fa 5 (T 95)) <|
oc 97 (.ld (T 96) none) <|
oc 98 (.fa 0 (T 3)) <|
oc 99 (.ld (T 98) none) <|
oc 100 (.lkp (false, [.i .i64], false) [.nil 4] (T 97) (T 99) false) <|
oc 101 (.len (T 100)) <|
oc 102 (.mov (K 0)) <|
.done
@[simp] def a6c_r16 :LO:=[oo 103 (.bin .lss (T 102) (T 101))]
@[simp] def a6c_r17 :LO:=[oo 104 (.ia 4 (T 100) (T 102)),
oo 105 (.ld (T 104) (some 4)),
oo 10 (.alloc [zi, zb, zi, zs]),
on (.st (T 10) (T 105) 4)]
@[simp] def a6c_t18 : VT :=
 oc 106 (.fa 0 (T 10)) <|
oc 107 (.ld (T 106) none) <|
oc 108 (.fa 3 (T 3)) <|
oc 109 (.ld (T 108) none) <|
oc 110 (.bin .eql (T 107) (T 109)) <|
oc 111 (.mov (T 110)) <|
.op (og 112 111 true (.mov (T 5))) <|
.op (og 113 111 true (.ld (T 10) (some 4))) <|
.op (og 114 111 true (.lkp (true, [.i .i64, .b, .i .i64, .s], true) [zi, zi] (T 112) (T 113) false)) <|
.op (og 115 111 true (.fa 0 (T 3))) <|
.op (og 116 111 true (.ld (T 115) none)) <|
.op (og 117 111 true (.mov (T 0))) <|
.op (og 118 111 true (.chk (T 117))) <|
.op (og 119 111 true (.fa 4 (T 118))) <|
.op (og 120 111 true (.ld (T 119) none)) <|
.op (og 121 111 true (.fa 0 (T 3))) <|
.op (og 122 111 true (.ld (T 121) none)) <|
.op (og 123 111 true (.ld (T 10) (some 4))) <|
.op (og 124 111 true (.build [zi, zi, zb, zi, zs] [(0, 1, (T 122)), (1, 4, (T 123))])) <|
.op (og 125 111 true (.lkp (true, [.i .i64, .i .i64, .b, .i .i64, .s], false) [zi] (T 120) (T 124) false)) <|
.op (og 126 111 true (.build [zi, zi] [(0, 1, (T 116)), (1, 1, (T 125))])) <|
.op (og 127 111 true (.eqs true [.i .i64, .i .i64] (T 114) (T 126))) <|
oc 128 (.pick (T 111) (T 127) (B false)) <|
.done
@[simp] def a6c_r19 :LO:=[oo 4 (.mov (B false))]
@[simp] def a6c_r20 :LO:=[oo 129 (.bin .add (T 102) (K 1)),
oo 102 (.mov (T 129))]
def a6c_l21 : VCode :=
 (.seq (.reg a6c_r16) (.seq (.cond (T 103) .skip (.exit 2)) (.seq (.block 3 (.seq (.reg a6c_r17) (.seq (.any a6c_t18) (.cond (T 128) (.seq (.reg a6c_r19) .ret) .skip)))) (.reg a6c_r20))))
@[simp] def a6c_r22 :LO:=[oo 4 (.mov (B true))]
def a4c_saw : VCode := (.seq (.reg a6c_r0) (.seq (.seq (.reg a6c_r1) (.cond (T 13) (.seq (.reg a6c_r2) .ret) .skip)) (.seq (.seq (.any a6c_t3) (.cond (T 42) (.seq (.reg a6c_r4) .ret) .skip)) (.seq (.reg a6c_r5) (.seq (.seq (.reg a6c_r6) (.block 0 (.loop a6c_l14))) (.seq (.seq (.any a6c_t15) (.block 2 (.loop a6c_l21))) (.seq (.reg a6c_r22) .ret)))))))
theorem a6c_is : fnV prog n_a6c = some (130, a4c_saw, [.tmp 4]) := by kernel_rfl
@[simp] def a7c_r0 :LO:=[oo 3 (.box (T 1)),
oo 4 (.mov (B false))]
@[simp] def a7c_r1 :LO:=[oo 7 (.fa 1 (T 3)),
oo 8 (.ld (T 7) none),
oo 9 (.bin .neq (T 8) (K 3))]
@[simp] def a7c_r2 :LO:=[oo 4 (.mov (B true))]
@[simp] def a7c_r3 :LO:=[oo 10 (.fa 3 (T 3)),
oo 11 (.ld (T 10) none),
oo 12 (.fa 4 (T 3)),
oo 13 (.ld (T 12) (some 3)),
oo 14 (.build [zi, zb, zi, zs] [(0, 1, (T 11)), (1, 3, (T 13))]),
oo 5 (.alloc [zi, zb, zi, zs]),
on (.st (T 5) (T 14) 4)]
@[simp] def a7c_r4 :LO:=[oo 15 (.fa 0 (T 3)),
oo 16 (.ld (T 15) none),
oo 17 (.ld (T 5) (some 4)),
oo 18 (.build [zi, zi, zb, zi, zs] [(0, 1, (T 16)), (1, 4, (T 17))]),
oo 6 (.alloc [zi, zi, zb, zi, zs]),
on (.st (T 6) (T 18) 5)]
@[simp] def a7c_t5 : VT :=
 oc 19 (.mov (T 0)) <|
oc 20 (.fa 3 (T 3)) <|
oc 21 (.ld (T 20) none) <|
oc 22 (.fa 4 (T 3)) <|
oc 23 (.ld (T 22) (some 3)) <|
oc 24 (.call n_a8d [(T 19), (T 21), (T 23)]) <|
oc 25 (.un .not (T 24)) <|
oc 26 (.mov (T 25)) <|
.op (og 27 26 false (.fa 9 (T 3))) <|
.op (og 28 26 false (.ld (T 27) none)) <|
.op (og 29 26 false (.mov (T 0))) <|
.op (og 30 26 false (.chk (T 29))) <|
.op (og 31 26 false (.fa 4 (T 30))) <|
.op (og 32 26 false (.ld (T 31) none)) <|
.op (og 33 26 false (.ld (T 6) (some 5))) <|
.op (og 34 26 false (.lkp (true, [.i .i64, .i .i64, .b, .i .i64, .s], false) [zi] (T 32) (T 33) false)) <|
.op (og 35 26 false (.bin .add (T 34) (K 1))) <|
.op (og 36 26 false (.bin .neq (T 28) (T 35))) <|
oc 37 (.pick (T 26) (B true) (T 36)) <|
.done
@[simp] def a7c_r6 :LO:=[oo 4 (.mov (B false))]
@[simp] def a7c_r7 :LO:=[oo 38 (.fa 9 (T 3)),
oo 39 (.ld (T 38) none),
oo 40 (.bin .eql (T 39) (K 1))]
@[simp] def a7c_s0 : VT :=
 oc 46 (.ld (T 45) none) <|
oc 55 (.lit 4 1 [(0, (T 54))]) <|
oc 56 (.app 4 40 (T 53) (T 55)) <|
.op (on (.mset (false, [.i .i64], false) (T 44) (T 46) (T 56))) <|
.done
@[simp] def a7c_s1 : VT :=
 oc 46 (.ld (T 45) none) <|
oc 56 (.app 4 40 (T 53) (T 55)) <|
.op (on (.mset (false, [.i .i64], false) (T 44) (T 46) (T 56))) <|
.done
@[simp] def a7c_s2 : VT :=
 oc 56 (.app 4 40 (T 53) (T 55)) <|
oc 46 (.ld (T 45) none) <|
.op (on (.mset (false, [.i .i64], false) (T 44) (T 46) (T 56))) <|
.done
@[simp] def a7c_s3 : VT :=
 oc 55 (.lit 4 1 [(0, (T 54))]) <|
.alt (a7c_s1) (a7c_s2)
@[simp] def a7c_s4 : VT :=
 oc 44 (.ld (T 43) none) <|
.alt (a7c_s0) (a7c_s3)
@[simp] def a7c_s5 : VT :=
 oc 44 (.ld (T 43) none) <|
oc 55 (.lit 4 1 [(0, (T 54))]) <|
oc 56 (.app 4 40 (T 53) (T 55)) <|
.op (on (.mset (false, [.i .i64], false) (T 44) (T 46) (T 56))) <|
.done
@[simp] def a7c_s6 : VT :=
 oc 44 (.ld (T 43) none) <|
oc 56 (.app 4 40 (T 53) (T 55)) <|
.op (on (.mset (false, [.i .i64], false) (T 44) (T 46) (T 56))) <|
.done
@[simp] def a7c_s7 : VT :=
 oc 56 (.app 4 40 (T 53) (T 55)) <|
oc 44 (.ld (T 43) none) <|
.op (on (.mset (false, [.i .i64], false) (T 44) (T 46) (T 56))) <|
.done
@[simp] def a7c_s8 : VT :=
 oc 55 (.lit 4 1 [(0, (T 54))]) <|
.alt (a7c_s6) (a7c_s7)
@[simp] def a7c_s9 : VT :=
 oc 46 (.ld (T 45) none) <|
.alt (a7c_s5) (a7c_s8)
@[simp] def a7c_s10 : VT :=
 oc 44 (.ld (T 43) none) <|
.alt (a7c_s1) (a7c_s2)
@[simp] def a7c_s11 : VT :=
 oc 46 (.ld (T 45) none) <|
.alt (a7c_s6) (a7c_s7)
@[simp] def a7c_s12 : VT :=
 oc 56 (.app 4 40 (T 53) (T 55)) <|
oc 44 (.ld (T 43) none) <|
oc 46 (.ld (T 45) none) <|
.op (on (.mset (false, [.i .i64], false) (T 44) (T 46) (T 56))) <|
.done
@[simp] def a7c_s13 : VT :=
 oc 55 (.lit 4 1 [(0, (T 54))]) <|
.alt (a7c_s10) (  .alt (a7c_s11) (a7c_s12))
@[simp] def a7c_t8 : VT :=
 oc 41 (.mov (T 0)) <|
oc 42 (.chk (T 41)) <|
oc 43 (.fa 5 (T 42)) <|
oc 45 (.fa 0 (T 3)) <|
oc 47 (.mov (T 0)) <|
oc 48 (.chk (T 47)) <|
oc 49 (.fa 5 (T 48)) <|
oc 50 (.ld (T 49) none) <|
oc 51 (.fa 0 (T 3)) <|
oc 52 (.ld (T 51) none) <|
oc 53 (.lkp (false, [.i .i64], false) [.nil 4] (T 50) (T 52) false) <|
oc 54 (.ld (T 5) (some 4)) <|
.alt (a7c_s4) (  .alt (a7c_s9) (a7c_s13))
@[simp] def a7c_t9 : VT :=
 oc 57 (.mov (T 0)) <|
oc 58 (.chk (T 57)) <|
oc 59 (.fa 4 (T 58)) <|
oc 60 (.ld (T 59) none) <|
oc 61 (.ld (T 6) (some 5)) <|
oc 62 (.fa 9 (T 3)) <|
oc 63 (.ld (T 62) none) <|
.op (on (.mset (true, [.i .i64, .i .i64, .b, .i .i64, .s], false) (T 60) (T 61) (T 63))) <|
.done
@[simp] def a7c_t10 : VT :=
 oc 64 (.fa 10 (T 3)) <|
oc 65 (.ld (T 64) none) <|
oc 66 (.len (T 65)) <|
oc 67 (.bin .eql (T 66) (K 0)) <|
oc 68 (.mov (T 67)) <|
.op (og 69 68 false (.mov (T 0))) <|
.op (og 70 68 false (.chk (T 69))) <|
.op (og 71 68 false (.fa 0 (T 70))) <|
.op (og 72 68 false (.fa 0 (T 71))) <|
.op (og 73 68 false (.ld (T 72) none)) <|
.op (og 74 68 false (.fa 3 (T 3))) <|
.op (og 75 68 false (.ld (T 74) none)) <|
.op (og 76 68 false (.ia 1 (T 73) (T 75))) <|
.op (og 77 68 false (.ld (T 76) (some 1))) <|
.op (og 78 68 false (.fa 10 (T 3))) <|
.op (og 79 68 false (.ld (T 78) none)) <|
.op (og 80 68 false (.call n_a1e [(T 77), (T 79)])) <|
.op (og 81 68 false (.mov (T 80))) <|
.op (og 82 81 true (.fa 10 (T 3))) <|
.op (og 83 81 true (.ld (T 82) none)) <|
.op (og 84 81 true (.ia 3 (T 83) (K 0))) <|
.op (og 85 81 true (.ld (T 84) (some 3))) <|
.op (og 86 81 true (.fa 4 (T 3))) <|
.op (og 87 81 true (.ld (T 86) (some 3))) <|
.op (og 88 81 true (.eqs false [.b, .i .i64, .s] (T 85) (T 87))) <|
.op (og 89 68 false (.pick (T 81) (T 88) (B false))) <|
oc 90 (.pick (T 68) (B true) (T 89)) <|
oc 4 (.mov (T 90)) <|
.done
def a4c_write : VCode := (.seq (.reg a7c_r0) (.seq (.seq (.reg a7c_r1) (.cond (T 9) (.seq (.reg a7c_r2) .ret) .skip)) (.seq (.reg a7c_r3) (.seq (.reg a7c_r4) (.seq (.seq (.any a7c_t5) (.cond (T 37) (.seq (.reg a7c_r6) .ret) .skip)) (.seq (.seq (.reg a7c_r7) (.cond (T 40) (.any a7c_t8) .skip)) (.seq (.any a7c_t9) (.seq (.any a7c_t10) .ret))))))))
theorem a7c_is : fnV prog n_a7c = some (91, a4c_write, [.tmp 4]) := by kernel_rfl
@[simp] def a8c_r0 :LO:=[oo 2 (.mov (B false))]
@[simp] def a8c_r1 :LO:=[oo 15 (.mkmap (true, [.i .i64, .i .i64, .b, .i .i64, .s], false)),
oo 3 (.mov (T 15))]
@[simp] def a8c_r2 :LO:=[oo 16 (.mov (T 0)),
oo 17 (.chk (T 16)),
oo 18 (.fa 5 (T 17)),
oo 19 (.ld (T 18) none),
oo 20 (.rng (false, [.i .i64], false) (T 19))]
@[simp] def a8c_r3 :LO:=[oo 21 (.nxt (T 20)),
oo 22 (.ext 0 (T 21))]
@[simp] def a8c_r4 :LO:=[oo 23 (.ent (T 20)),
oo 24 (.ext 0 (T 23)),
oo 25 (.ext 1 (T 23)),
oo 4 (.mov (T 24)),
oo 5 (.mov (T 25))]
@[simp] def a8c_r5 :LO:=[oo 26 (.mov (T 0)),
oo 27 (.chk (T 26)),
oo 28 (.fa 3 (T 27)),
oo 29 (.ld (T 28) none),
oo 30 (.mov (T 4)),
oo 31 (.lkp (false, [.i .i64], false) [zi] (T 29) (T 30) false),
oo 32 (.bin .eql (T 31) (K 5))]
@[simp] def a8c_r6 :LO:=[oo 33 (.mov (T 5)),
oo 34 (.len (T 33)),
oo 35 (.mov (K 0))]
@[simp] def a8c_r7 :LO:=[oo 36 (.bin .lss (T 35) (T 34))]
@[simp] def a8c_r8 :LO:=[oo 37 (.ia 4 (T 33) (T 35)),
oo 38 (.ld (T 37) (some 4)),
oo 7 (.alloc [zi, zb, zi, zs]),
on (.st (T 7) (T 38) 4)]
@[simp] def a8c_r9 :LO:=[oo 39 (.mov (T 3)),
oo 40 (.mov (T 4)),
oo 41 (.ld (T 7) (some 4)),
oo 42 (.build [zi, zi, zb, zi, zs] [(0, 1, (T 40)), (1, 4, (T 41))]),
on (.mset (true, [.i .i64, .i .i64, .b, .i .i64, .s], false) (T 39) (T 42) (K 1))]
@[simp] def a8c_r10 :LO:=[oo 43 (.bin .add (T 35) (K 1)),
oo 35 (.mov (T 43))]
def a8c_l11 : VCode :=
 (.seq (.reg a8c_r7) (.seq (.cond (T 36) .skip (.exit 2)) (.seq (.block 3 (.seq (.reg a8c_r8) (.reg a8c_r9))) (.reg a8c_r10))))
def a8c_l12 : VCode :=
 (.seq (.reg a8c_r3) (.seq (.cond (T 22) .skip (.exit 0)) (.block 1 (.seq (.reg a8c_r4) (.seq (.reg a8c_r5) (.cond (T 32) (.seq (.reg a8c_r6) (.block 2 (.loop a8c_l11))) .skip))))))
@[simp] def a8c_r13 :LO:=[oo 44 (.mkmap (true, [.i .i64, .b, .i .i64, .s], false)),
oo 8 (.mov (T 44))]
@[simp] def a8c_r14 :LO:=[oo 45 (.mov (T 0)),
oo 46 (.chk (T 45)),
oo 47 (.fa 0 (T 46)),
oo 48 (.fa 2 (T 47)),
oo 49 (.ld (T 48) none),
oo 50 (.len (T 49)),
oo 51 (.mov (K 0))]
@[simp] def a8c_r15 :LO:=[oo 52 (.bin .lss (T 51) (T 50))]
@[simp] def a8c_r16 :LO:=[oo 53 (.ia 5 (T 49) (T 51)),
oo 54 (.ld (T 53) (some 5)),
oo 10 (.alloc [zi, zb, zi, zs, .nil 1]),
on (.st (T 10) (T 54) 5)]
@[simp] def a8c_r17 :LO:=[oo 55 (.fa 0 (T 10)),
oo 56 (.ld (T 55) none),
oo 57 (.fa 1 (T 10)),
oo 58 (.ld (T 57) (some 3)),
oo 59 (.build [zi, zb, zi, zs] [(0, 1, (T 56)), (1, 3, (T 58))]),
oo 11 (.alloc [zi, zb, zi, zs]),
on (.st (T 11) (T 59) 4)]
@[simp] def a8c_s0 : VT :=
 oc 62 (.lkp (true, [.i .i64, .b, .i .i64, .s], false) [zi] (T 60) (T 61) false) <|
oc 63 (.bin .add (T 62) (K 1)) <|
oc 64 (.ment (true, [.i .i64, .b, .i .i64, .s], false) [zi] (T 60) (T 61)) <|
oc 65 (.ext 1 (T 64)) <|
.op (on (.est (T 60) (T 65) (T 63))) <|
.done
@[simp] def a8c_s1 : VT :=
 oc 64 (.ment (true, [.i .i64, .b, .i .i64, .s], false) [zi] (T 60) (T 61)) <|
oc 62 (.lkp (true, [.i .i64, .b, .i .i64, .s], false) [zi] (T 60) (T 61) false) <|
oc 63 (.bin .add (T 62) (K 1)) <|
oc 65 (.ext 1 (T 64)) <|
.op (on (.est (T 60) (T 65) (T 63))) <|
.done
@[simp] def a8c_t18 : VT :=
 oc 60 (.mov (T 8)) <|
oc 61 (.ld (T 11) (some 4)) <|
.alt (a8c_s0) (a8c_s1)
@[simp] def a8c_r19 :LO:=[oo 66 (.mov (T 8)),
oo 67 (.ld (T 11) (some 4)),
oo 68 (.lkp (true, [.i .i64, .b, .i .i64, .s], false) [zi] (T 66) (T 67) false),
oo 69 (.bin .gtr (T 68) (K 1)),
oo 70 (.mov (T 69)),
og 71 70 false (.fa 4 (T 10)),
og 72 70 false (.ld (T 71) none),
og 73 70 false (.len (T 72)),
og 74 70 false (.bin .eql (T 73) (K 0)),
oo 75 (.pick (T 70) (B true) (T 74))]
@[simp] def a8c_r20 :LO:=[oo 2 (.mov (B false))]
@[simp] def a8c_r21 :LO:=[oo 76 (.fa 4 (T 10)),
oo 77 (.ld (T 76) none),
oo 78 (.len (T 77)),
oo 79 (.mov (K 0))]
@[simp] def a8c_r22 :LO:=[oo 80 (.bin .lss (T 79) (T 78))]
@[simp] def a8c_r23 :LO:=[oo 81 (.ia 1 (T 77) (T 79)),
oo 82 (.ld (T 81) none),
oo 13 (.mov (T 82))]
@[simp] def a8c_r24 :LO:=[oo 83 (.mov (T 13)),
oo 84 (.ld (T 11) (some 4)),
oo 85 (.build [zi, zi, zb, zi, zs] [(0, 1, (T 83)), (1, 4, (T 84))]),
oo 14 (.alloc [zi, zi, zb, zi, zs]),
on (.st (T 14) (T 85) 5)]
@[simp] def a8c_r25 :LO:=[oo 86 (.mov (T 3)),
oo 87 (.ld (T 14) (some 5)),
oo 88 (.lkp (true, [.i .i64, .i .i64, .b, .i .i64, .s], false) [zi] (T 86) (T 87) false),
oo 89 (.bin .eql (T 88) (K 0))]
@[simp] def a8c_r26 :LO:=[oo 2 (.mov (B false))]
@[simp] def a8c_r27 :LO:=[oo 90 (.mov (T 3)),
oo 91 (.ld (T 14) (some 5)),
on (.mdel (true, [.i .i64, .i .i64, .b, .i .i64, .s], false) (T 90) (T 91))]
@[simp] def a8c_r28 :LO:=[oo 92 (.bin .add (T 79) (K 1)),
oo 79 (.mov (T 92))]
def a8c_l29 : VCode :=
 (.seq (.reg a8c_r22) (.seq (.cond (T 80) .skip (.exit 6)) (.seq (.block 7 (.seq (.reg a8c_r23) (.seq (.reg a8c_r24) (.seq (.seq (.reg a8c_r25) (.cond (T 89) (.seq (.reg a8c_r26) .ret) .skip)) (.reg a8c_r27))))) (.reg a8c_r28))))
@[simp] def a8c_r30 :LO:=[oo 93 (.bin .add (T 51) (K 1)),
oo 51 (.mov (T 93))]
def a8c_l31 : VCode :=
 (.seq (.reg a8c_r15) (.seq (.cond (T 52) .skip (.exit 4)) (.seq (.block 5 (.seq (.reg a8c_r16) (.seq (.reg a8c_r17) (.seq (.any a8c_t18) (.seq (.seq (.reg a8c_r19) (.cond (T 75) (.seq (.reg a8c_r20) .ret) .skip)) (.seq (.reg a8c_r21) (.block 6 (.loop a8c_l29)))))))) (.reg a8c_r30))))
@[simp] def a8c_r32 :LO:=[oo 94 (.mov (T 3)),
oo 95 (.lenm (T 94)),
oo 96 (.bin .eql (T 95) (K 0)),
oo 2 (.mov (T 96))]
def a4c_order : VCode := (.seq (.reg a8c_r0) (.seq (.reg a8c_r1) (.seq (.seq (.reg a8c_r2) (.block 0 (.loop a8c_l12))) (.seq (.reg a8c_r13) (.seq (.seq (.reg a8c_r14) (.block 4 (.loop a8c_l31))) (.seq (.reg a8c_r32) .ret))))))
theorem a8c_is : fnV prog n_a8c = some (97, a4c_order, [.tmp 2]) := by kernel_rfl
@[simp] def a9c_r0 :LO:=[oo 1 (.box (T 0)),
oo 2 (.mov (K 0))]
@[simp] def a9c_r1 :LO:=[oo 3 (.fa 0 (T 1)),
oo 4 (.ld (T 3) none),
oo 5 (.len (T 4)),
oo 6 (.bin .lss (T 5) (K 1)),
oo 7 (.mov (T 6)),
og 8 7 false (.fa 0 (T 1)),
og 9 7 false (.ld (T 8) none),
og 10 7 false (.len (T 9)),
og 11 7 false (.bin .gtr (T 10) (K 4)),
oo 12 (.pick (T 7) (B true) (T 11))]
@[simp] def a9c_r2 :LO:=[oo 2 (.mov (K 1))]
@[simp] def a9c_r3 :LO:=[oo 2 (.mov (K 0))]
def a9c : VCode := (.seq (.reg a9c_r0) (.seq (.seq (.reg a9c_r1) (.cond (T 12) (.seq (.reg a9c_r2) .ret) .skip)) (.seq (.reg a9c_r3) .ret)))
theorem a9c_is : fnV prog n_a9c = some (13, a9c, [.tmp 2]) := by kernel_rfl
@[simp] def a0d_r0 :LO:=[oo 2 (.nils 3)]
@[simp] def a0d_r1 :LO:=[oo 3 (.mov (T 0)),
oo 4 (.snil false (T 3))]
@[simp] def a0d_r2 :LO:=[oo 2 (.nils 3)]
@[simp] def a0d_r3 :LO:=[oo 5 (.lit 3 0 []),
oo 6 (.mov (T 0)),
oo 7 (.app 3 32 (T 5) (T 6)),
oo 2 (.mov (T 7))]
def a0d : VCode := (.seq (.reg a0d_r0) (.seq (.seq (.reg a0d_r1) (.cond (T 4) (.seq (.reg a0d_r2) .ret) .skip)) (.seq (.reg a0d_r3) .ret)))
theorem a0d_is : fnV prog n_a0d = some (8, a0d, [.tmp 2]) := by kernel_rfl
@[simp] def a1d_r0 :LO:=[oo 6 (.box (T 2)),
oo 7 (.box (T 3)),
oo 8 (.nils 3),
oo 9 (.mov (B false))]
@[simp] def a1d_r1 :LO:=[oo 12 (.mov (T 0)),
oo 13 (.peq false (T 12) (.const (.pointer none)))]
@[simp] def a1d_r2 :LO:=[oo 8 (.nils 3),
oo 9 (.mov (B false))]
@[simp] def a1d_r3 :LO:=[oo 14 (.ld (T 7) (some 2)),
oo 15 (.build [zi, zi] []),
oo 16 (.eqs false [.i .i64, .i .i64] (T 14) (T 15))]
@[simp] def a1d_r4 :LO:=[oo 8 (.nils 3),
oo 9 (.mov (B true))]
@[simp] def a1d_t5 : VT :=
 oc 18 (.mov (T 0)) <|
oc 19 (.chk (T 18)) <|
oc 20 (.fa 2 (T 19)) <|
oc 21 (.ld (T 20) none) <|
oc 22 (.mov (T 1)) <|
oc 23 (.ld (T 6) (some 3)) <|
oc 24 (.build [zi, zb, zi, zs] [(0, 1, (T 22)), (1, 3, (T 23))]) <|
oc 25 (.ld (T 7) (some 2)) <|
oc 26 (.build [zi, zb, zi, zs, zi, zi] [(0, 4, (T 24)), (4, 2, (T 25))]) <|
oc 27 (.lkp (true, [.i .i64, .b, .i .i64, .s, .i .i64, .i .i64], false) [.nil 3] (T 21) (T 26) true) <|
oc 17 (.mov (T 27)) <|
oc 28 (.ext 0 (T 17)) <|
oc 29 (.ext 1 (T 17)) <|
oc 10 (.mov (T 28)) <|
oc 11 (.mov (T 29)) <|
.done
@[simp] def a1d_r6 :LO:=[oo 30 (.mov (T 10)),
oo 31 (.call n_a3b [(T 30)]),
oo 32 (.mov (T 11)),
oo 8 (.mov (T 31)),
oo 9 (.mov (T 32))]
def a1d : VCode := (.seq (.reg a1d_r0) (.seq (.seq (.reg a1d_r1) (.cond (T 13) (.seq (.reg a1d_r2) .ret) .skip)) (.seq (.seq (.reg a1d_r3) (.cond (T 16) (.seq (.reg a1d_r4) .ret) .skip)) (.seq (.any a1d_t5) (.seq (.reg a1d_r6) .ret)))))
theorem a1d_is : fnV prog n_a1d = some (33, a1d, [.tmp 8, .tmp 9]) := by kernel_rfl
@[simp] def a2d_r0 :LO:=[oo 4 (.mov (K 0))]
@[simp] def a2d_r1 :LO:=[oo 6 (.mov (T 0)),
oo 7 (.len (T 6)),
oo 8 (.mov (K 0))]
@[simp] def a2d_r2 :LO:=[oo 9 (.bin .lss (T 8) (T 7))]
@[simp] def a2d_r3 :LO:=[oo 10 (.mov (T 8)),
oo 5 (.mov (T 10))]
@[simp] def a2d_r4 :LO:=[oo 11 (.mov (T 1)),
oo 12 (.mov (T 0)),
oo 13 (.mov (T 5)),
oo 14 (.ia 2 (T 12) (T 13)),
oo 15 (.ld (T 14) (some 2)),
oo 16 (.callv (T 11) [(T 15)])]
@[simp] def a2d_r5 :LO:=[oo 17 (.mov (T 5)),
oo 4 (.mov (T 17))]
@[simp] def a2d_r6 :LO:=[oo 18 (.bin .add (T 8) (K 1)),
oo 8 (.mov (T 18))]
def a2d_l7 : VCode :=
 (.seq (.reg a2d_r2) (.seq (.cond (T 9) .skip (.exit 0)) (.seq (.block 1 (.seq (.reg a2d_r3) (.seq (.reg a2d_r4) (.cond (T 16) (.seq (.reg a2d_r5) .ret) .skip)))) (.reg a2d_r6))))
@[simp] def a2d_r8 :LO:=[oo 4 (.mov (K (-1)))]
def a2d : VCode := (.seq (.reg a2d_r0) (.seq (.seq (.reg a2d_r1) (.block 0 (.loop a2d_l7))) (.seq (.reg a2d_r8) .ret)))
theorem a2d_is : fnV prog n_a2d = some (19, a2d, [.tmp 4]) := by kernel_rfl
@[simp] def a3d_r0 :LO:=[oo 5 (.box (T 2)),
oo 6 (.nils 2)]
@[simp] def a3d_t1 : VT :=
 oc 10 (.mov (T 0)) <|
oc 11 (.chk (T 10)) <|
oc 12 (.fa 4 (T 11)) <|
oc 13 (.ld (T 12) none) <|
oc 14 (.mov (T 1)) <|
oc 15 (.ld (T 5) (some 3)) <|
oc 16 (.build [zi, zb, zi, zs] [(0, 1, (T 14)), (1, 3, (T 15))]) <|
oc 17 (.lkp (true, [.i .i64, .b, .i .i64, .s], false) [.nil 2] (T 13) (T 16) true) <|
oc 9 (.mov (T 17)) <|
oc 18 (.ext 0 (T 9)) <|
oc 19 (.ext 1 (T 9)) <|
oc 7 (.mov (T 18)) <|
oc 8 (.mov (T 19)) <|
.done
@[simp] def a3d_r2 :LO:=[oo 20 (.mov (T 8)),
oo 21 (.un .not (T 20))]
@[simp] def a3d_r3 :LO:=[oo 22 (.build [zi, zi] []),
oo 23 (.lit 2 1 [(0, (T 22))]),
oo 6 (.mov (T 23))]
@[simp] def a3d_r4 :LO:=[oo 24 (.mov (T 7)),
oo 6 (.mov (T 24))]
def a4d_chain : VCode := (.seq (.reg a3d_r0) (.seq (.any a3d_t1) (.seq (.seq (.reg a3d_r2) (.cond (T 21) (.seq (.reg a3d_r3) .ret) .skip)) (.seq (.reg a3d_r4) .ret))))
theorem a3d_is : fnV prog n_a3d = some (25, a4d_chain, [.tmp 6]) := by kernel_rfl
@[simp] def a5d_r0 :LO:=[oo 2 (.box (T 0)),
oo 3 (.mov (B false))]
@[simp] def a5d_r1 :LO:=[oo 4 (.fa 0 (T 2)),
oo 5 (.ld (T 4) none),
oo 6 (.fa 0 (T 1)),
oo 7 (.ld (T 6) none),
oo 8 (.bin .eql (T 5) (T 7)),
oo 3 (.mov (T 8))]
def a5d : VCode := (.seq (.reg a5d_r0) (.seq (.reg a5d_r1) .ret))
theorem a5d_is : fnV prog n_a5d = some (9, a5d, [.tmp 3]) := by kernel_rfl
@[simp] def a6d_r0 :LO:=[oo 5 (.box (T 0)),
oo 6 (.mov (B false))]
@[simp] def a6d_r1 :LO:=[oo 10 (.ld (T 1) none),
oo 11 (.ld (T 2) none),
oo 12 (.ld (T 3) (some 3)),
oo 13 (.ld (T 5) (some 2)),
oo 14 (.call n_a1d [(T 10), (T 11), (T 12), (T 13)]),
oo 9 (.mov (T 14)),
oo 15 (.ext 0 (T 9)),
oo 16 (.ext 1 (T 9)),
oo 7 (.mov (T 15)),
oo 8 (.mov (T 16))]
@[simp] def a6d_r2 :LO:=[oo 17 (.mov (T 7)),
oo 18 (.len (T 17)),
oo 19 (.bin .gtr (T 18) (K 0)),
oo 20 (.mov (T 19)),
og 21 20 true (.ld (T 4) (some 9)),
og 22 20 true (.mov (T 7)),
og 23 20 true (.call n_a7d [(T 21), (T 22)]),
oo 24 (.pick (T 20) (T 23) (B false)),
oo 6 (.mov (T 24))]
def a6d : VCode := (.seq (.reg a6d_r0) (.seq (.reg a6d_r1) (.seq (.reg a6d_r2) .ret)))
theorem a6d_is : fnV prog n_a6d = some (25, a6d, [.tmp 6]) := by kernel_rfl
@[simp] def a7d_r0 :LO:=[oo 2 (.box (T 0)),
oo 3 (.box (T 1)),
oo 4 (.mov (B false))]
@[simp] def a7d_r1 :LO:=[oo 6 (.mkfn n_a2e [] [(T 3)]),
oo 5 (.alloc [.iv (.v .nilFunc)]),
on (.st (T 5) (T 6) 1)]
@[simp] def a7d_r2 :LO:=[oo 7 (.fa 0 (T 2)),
oo 8 (.ld (T 7) none)]
@[simp] def a7d_r3 :LO:=[oo 10 (.bin .eql (T 8) (K 1)),
oo 9 (.mov (T 10))]
@[simp] def a7d_r4 :LO:=[oo 4 (.mov (B true))]
@[simp] def a7d_r5 :LO:=[oo 12 (.bin .eql (T 8) (K 3)),
oo 11 (.mov (T 12))]
@[simp] def a7d_r6 :LO:=[oo 13 (.bin .eql (T 8) (K 4)),
oo 11 (.mov (T 13))]
@[simp] def a7d_r7 :LO:=[oo 14 (.bin .eql (T 8) (K 5)),
oo 11 (.mov (T 14))]
@[simp] def a7d_r8 :LO:=[oo 15 (.bin .eql (T 8) (K 6)),
oo 11 (.mov (T 15))]
@[simp] def a7d_r9 :LO:=[oo 16 (.bin .eql (T 8) (K 7)),
oo 11 (.mov (T 16))]
@[simp] def a7d_r10 :LO:=[oo 17 (.bin .eql (T 8) (K 8)),
oo 11 (.mov (T 17))]
@[simp] def a7d_r11 :LO:=[oo 18 (.bin .eql (T 8) (K 9)),
oo 11 (.mov (T 18))]
@[simp] def a7d_r12 :LO:=[oo 19 (.ld (T 2) (some 9)),
oo 20 (.ld (T 3) none),
oo 21 (.call n_a3e [(T 19), (T 20)]),
oo 4 (.mov (T 21))]
@[simp] def a7d_r13 :LO:=[oo 23 (.bin .eql (T 8) (K 10)),
oo 22 (.mov (T 23))]
@[simp] def a7d_t14 : VT :=
 oc 24 (.fa 8 (T 2)) <|
oc 25 (.ld (T 24) none) <|
oc 26 (.len (T 25)) <|
oc 27 (.bin .eql (T 26) (K 0)) <|
oc 28 (.mov (T 27)) <|
.op (og 29 28 false (.ld (T 5) none)) <|
.op (og 30 28 false (.fa 8 (T 2))) <|
.op (og 31 28 false (.ld (T 30) none)) <|
.op (og 32 28 false (.ia 9 (T 31) (K 0))) <|
.op (og 33 28 false (.ld (T 32) (some 9))) <|
.op (og 34 28 false (.callv (T 29) [(T 33)])) <|
.op (og 35 28 false (.un .not (T 34))) <|
oc 36 (.pick (T 28) (B true) (T 35)) <|
oc 4 (.mov (T 36)) <|
.done
@[simp] def a7d_r15 :LO:=[oo 38 (.bin .eql (T 8) (K 11)),
oo 37 (.mov (T 38))]
@[simp] def a7d_r16 :LO:=[oo 39 (.fa 8 (T 2)),
oo 40 (.ld (T 39) none),
oo 41 (.mkfn n_a5e [] [(T 5)]),
oo 42 (.call n_a4e [(T 40), (T 41)]),
oo 43 (.un .not (T 42)),
oo 4 (.mov (T 43))]
@[simp] def a7d_r17 :LO:=[oo 45 (.bin .eql (T 8) (K 12)),
oo 44 (.mov (T 45))]
@[simp] def a7d_r18 :LO:=[oo 46 (.fa 8 (T 2)),
oo 47 (.ld (T 46) none),
oo 48 (.ld (T 5) none),
oo 49 (.call n_a4e [(T 47), (T 48)]),
oo 4 (.mov (T 49))]
@[simp] def a7d_r19 :LO:=[oo 4 (.mov (B false))]
def a7d : VCode := (.seq (.reg a7d_r0) (.seq (.reg a7d_r1) (.seq (.seq (.reg a7d_r2) (.block 0 (.seq (.reg a7d_r3) (.cond (T 9) (.seq (.reg a7d_r4) .ret) (.seq (.seq (.reg a7d_r5) (.cond (T 11) .skip (.seq (.reg a7d_r6) (.cond (T 11) .skip (.seq (.reg a7d_r7) (.cond (T 11) .skip (.seq (.reg a7d_r8) (.cond (T 11) .skip (.seq (.reg a7d_r9) (.cond (T 11) .skip (.seq (.reg a7d_r10) (.cond (T 11) .skip (.reg a7d_r11))))))))))))) (.cond (T 11) (.seq (.reg a7d_r12) .ret) (.seq (.reg a7d_r13) (.cond (T 22) (.seq (.any a7d_t14) .ret) (.seq (.reg a7d_r15) (.cond (T 37) (.seq (.reg a7d_r16) .ret) (.seq (.reg a7d_r17) (.cond (T 44) (.seq (.reg a7d_r18) .ret) .skip)))))))))))) (.seq (.reg a7d_r19) .ret))))
theorem a7d_is : fnV prog n_a7d = some (50, a7d, [.tmp 4]) := by kernel_rfl
@[simp] def a8d_r0 :LO:=[oo 5 (.box (T 2)),
oo 6 (.mov (B false))]
@[simp] def a8d_t1 : VT :=
 oc 7 (.mov (T 1)) <|
oc 8 (.bin .geq (T 7) (K 0)) <|
oc 9 (.mov (T 8)) <|
.op (og 10 9 true (.mov (T 1))) <|
.op (og 11 9 true (.mov (T 0))) <|
.op (og 12 9 true (.chk (T 11))) <|
.op (og 13 9 true (.fa 0 (T 12))) <|
.op (og 14 9 true (.fa 0 (T 13))) <|
.op (og 15 9 true (.ld (T 14) none)) <|
.op (og 16 9 true (.len (T 15))) <|
.op (og 17 9 true (.bin .lss (T 10) (T 16))) <|
oc 18 (.pick (T 9) (T 17) (B false)) <|
oc 19 (.mov (T 18)) <|
.op (og 20 19 true (.ld (T 5) (some 3))) <|
.op (og 21 19 true (.call n_a6e [(T 20)])) <|
oc 22 (.pick (T 19) (T 21) (B false)) <|
oc 23 (.mov (T 22)) <|
.op (og 24 23 true (.fa 0 (T 5))) <|
.op (og 25 23 true (.ld (T 24) none)) <|
.op (og 26 23 true (.mov (T 0))) <|
.op (og 27 23 true (.chk (T 26))) <|
.op (og 28 23 true (.fa 0 (T 27))) <|
.op (og 29 23 true (.fa 0 (T 28))) <|
.op (og 30 23 true (.ld (T 29) none)) <|
.op (og 31 23 true (.mov (T 1))) <|
.op (og 32 23 true (.ia 1 (T 30) (T 31))) <|
.op (og 33 23 true (.fa 0 (T 32))) <|
.op (og 34 23 true (.ld (T 33) none)) <|
.op (og 35 23 true (.ia 1 (T 34) (K 0))) <|
.op (og 36 23 true (.ld (T 35) none)) <|
.op (og 37 23 true (.beq false (T 25) (T 36))) <|
oc 38 (.pick (T 23) (T 37) (B false)) <|
oc 6 (.mov (T 38)) <|
.done
def a4c_key : VCode := (.seq (.reg a8d_r0) (.seq (.any a8d_t1) .ret))
theorem a8d_is : fnV prog n_a8d = some (39, a4c_key, [.tmp 6]) := by kernel_rfl
@[simp] def a9d_r0 :LO:=[oo 4 (.box (T 1)),
oo 5 (.box (T 2)),
oo 6 (.mov (B false))]
@[simp] def a9d_t1 : VT :=
 oc 7 (.fa 1 (T 5)) <|
oc 8 (.ld (T 7) none) <|
oc 9 (.bin .geq (T 8) (K 1)) <|
oc 10 (.mov (T 9)) <|
.op (og 11 10 true (.fa 1 (T 5))) <|
.op (og 12 10 true (.ld (T 11) none)) <|
.op (og 13 10 true (.mov (T 0))) <|
.op (og 14 10 true (.chk (T 13))) <|
.op (og 15 10 true (.fa 4 (T 14))) <|
.op (og 16 10 true (.ld (T 15) none)) <|
.op (og 17 10 true (.fa 0 (T 5))) <|
.op (og 18 10 true (.ld (T 17) none)) <|
.op (og 19 10 true (.ld (T 4) (some 4))) <|
.op (og 20 10 true (.build [zi, zi, zb, zi, zs] [(0, 1, (T 18)), (1, 4, (T 19))])) <|
.op (og 21 10 true (.lkp (true, [.i .i64, .i .i64, .b, .i .i64, .s], false) [zi] (T 16) (T 20) false)) <|
.op (og 22 10 true (.bin .leq (T 12) (T 21))) <|
oc 23 (.pick (T 10) (T 22) (B false)) <|
oc 6 (.mov (T 23)) <|
.done
def a4c_version : VCode := (.seq (.reg a9d_r0) (.seq (.any a9d_t1) .ret))
theorem a9d_is : fnV prog n_a9d = some (24, a4c_version, [.tmp 6]) := by kernel_rfl
@[simp] def a0e_r0 :LO:=[oo 2 (.box (T 0)),
oo 3 (.box (T 1)),
oo 4 (.mov (K 0))]
@[simp] def a0e_r1 :LO:=[oo 8 (.ld (T 2) (some 1)),
oo 9 (.call n_a9c [(T 8)]),
oo 5 (.mov (T 9))]
@[simp] def a0e_r2 :LO:=[oo 10 (.mov (T 5)),
oo 11 (.bin .neq (T 10) (K 0))]
@[simp] def a0e_r3 :LO:=[oo 12 (.mov (T 5)),
oo 4 (.mov (T 12))]
@[simp] def a0e_r4 :LO:=[oo 13 (.ld (T 2) (some 1)),
oo 14 (.build [.nil 1, zb] [(0, 1, (T 13))]),
oo 15 (.box (T 14)),
oo 6 (.mov (T 15))]
@[simp] def a0e_r5 :LO:=[oo 16 (.mov (T 6)),
oo 17 (.mkfn n_a7e [(T 16)] []),
oo 7 (.mov (T 17))]
@[simp] def a0e_r6 :LO:=[oo 18 (.ld (T 3) (some 9)),
oo 19 (.mov (T 7)),
oo 20 (.call n_a9e [(T 18), (T 19)])]
@[simp] def a0e_r7 :LO:=[oo 21 (.mov (T 6)),
oo 22 (.chk (T 21)),
oo 23 (.fa 1 (T 22)),
oo 24 (.ld (T 23) none),
oo 25 (.mov (T 24)),
og 26 25 false (.ld (T 3) (some 9)),
og 27 25 false (.call n_a0f [(T 26)]),
og 28 25 false (.bin .gtr (T 27) (K 15)),
oo 29 (.pick (T 25) (B true) (T 28))]
@[simp] def a0e_r8 :LO:=[oo 4 (.mov (K 30))]
@[simp] def a0e_r9 :LO:=[oo 4 (.mov (K 0))]
def a0e : VCode := (.seq (.reg a0e_r0) (.seq (.seq (.reg a0e_r1) (.seq (.reg a0e_r2) (.cond (T 11) (.seq (.reg a0e_r3) .ret) .skip))) (.seq (.reg a0e_r4) (.seq (.reg a0e_r5) (.seq (.reg a0e_r6) (.seq (.seq (.reg a0e_r7) (.cond (T 29) (.seq (.reg a0e_r8) .ret) .skip)) (.seq (.reg a0e_r9) .ret)))))))
theorem a0e_is : fnV prog n_a0e = some (30, a0e, [.tmp 4]) := by kernel_rfl
@[simp] def a1e_r0 :LO:=[oo 2 (.box (T 0)),
oo 4 (.mov (B false))]
@[simp] def a1e_r1 :LO:=[oo 7 (.ld (T 2) (some 1)),
oo 8 (.call n_a9c [(T 7)]),
oo 9 (.bin .neq (T 8) (K 0)),
oo 10 (.mov (T 9)),
og 11 10 false (.mov (T 1)),
og 12 10 false (.len (T 11)),
og 13 10 false (.fa 0 (T 2)),
og 14 10 false (.ld (T 13) none),
og 15 10 false (.len (T 14)),
og 16 10 false (.bin .neq (T 12) (T 15)),
oo 17 (.pick (T 10) (B true) (T 16))]
@[simp] def a1e_r2 :LO:=[oo 4 (.mov (B false))]
@[simp] def a1e_r3 :LO:=[oo 18 (.mov (T 1)),
oo 19 (.len (T 18)),
oo 20 (.mov (K 0))]
@[simp] def a1e_r4 :LO:=[oo 21 (.bin .lss (T 20) (T 19))]
@[simp] def a1e_r5 :LO:=[oo 22 (.mov (T 20)),
oo 23 (.ia 3 (T 18) (T 20)),
oo 24 (.ld (T 23) (some 3)),
oo 6 (.alloc [zb, zi, zs]),
oo 5 (.mov (T 22)),
on (.st (T 6) (T 24) 3)]
@[simp] def a1e_t6 : VT :=
 oc 25 (.fa 0 (T 6)) <|
oc 26 (.ld (T 25) none) <|
oc 27 (.fa 0 (T 2)) <|
oc 28 (.ld (T 27) none) <|
oc 29 (.mov (T 5)) <|
oc 30 (.ia 1 (T 28) (T 29)) <|
oc 31 (.ld (T 30) none) <|
oc 32 (.beq true (T 26) (T 31)) <|
oc 33 (.mov (T 32)) <|
.op (og 34 33 false (.ld (T 6) (some 3))) <|
.op (og 35 33 false (.call n_a6e [(T 34)])) <|
.op (og 36 33 false (.un .not (T 35))) <|
oc 37 (.pick (T 33) (B true) (T 36)) <|
.done
@[simp] def a1e_r7 :LO:=[oo 4 (.mov (B false))]
@[simp] def a1e_r8 :LO:=[oo 38 (.bin .add (T 20) (K 1)),
oo 20 (.mov (T 38))]
def a1e_l9 : VCode :=
 (.seq (.reg a1e_r4) (.seq (.cond (T 21) .skip (.exit 0)) (.seq (.block 1 (.seq (.reg a1e_r5) (.seq (.any a1e_t6) (.cond (T 37) (.seq (.reg a1e_r7) .ret) .skip)))) (.reg a1e_r8))))
@[simp] def a1e_r10 :LO:=[oo 4 (.mov (B true))]
def a1e : VCode := (.seq (.reg a1e_r0) (.seq (.seq (.reg a1e_r1) (.cond (T 17) (.seq (.reg a1e_r2) .ret) .skip)) (.seq (.seq (.reg a1e_r3) (.block 0 (.loop a1e_l9))) (.seq (.reg a1e_r10) .ret))))
theorem a1e_is : fnV prog n_a1e = some (39, a1e, [.tmp 4]) := by kernel_rfl
@[simp] def a2e_r0 :LO:=[oo 2 (.box (T 0)),
oo 3 (.mov (B false))]
@[simp] def a2e_r1 :LO:=[oo 4 (.ld (T 2) (some 9)),
oo 5 (.ld (T 1) none),
oo 6 (.call n_a7d [(T 4), (T 5)]),
oo 3 (.mov (T 6))]
def a2e : VCode := (.seq (.reg a2e_r0) (.seq (.reg a2e_r1) .ret))
theorem a2e_is : fnV prog n_a2e = some (7, a2e, [.tmp 3]) := by kernel_rfl
@[simp] def a3e_r0 :LO:=[oo 2 (.box (T 0)),
oo 4 (.mov (B false))]
@[simp] def a3e_r1 :LO:=[oo 6 (.fa 1 (T 2)),
oo 7 (.ld (T 6) none),
oo 8 (.bin .lss (T 7) (K 0)),
oo 9 (.mov (T 8)),
og 10 9 false (.fa 1 (T 2)),
og 11 9 false (.ld (T 10) none),
og 12 9 false (.mov (T 1)),
og 13 9 false (.len (T 12)),
og 14 9 false (.bin .geq (T 11) (T 13)),
oo 15 (.pick (T 9) (B true) (T 14))]
@[simp] def a3e_r2 :LO:=[oo 4 (.mov (B false))]
@[simp] def a3e_t3 : VT :=
 oc 16 (.mov (T 1)) <|
oc 17 (.fa 1 (T 2)) <|
oc 18 (.ld (T 17) none) <|
oc 19 (.ia 3 (T 16) (T 18)) <|
oc 20 (.ld (T 19) (some 3)) <|
oc 21 (.fa 2 (T 2)) <|
oc 22 (.ld (T 21) (some 3)) <|
oc 23 (.call n_a2a [(T 20), (T 22)]) <|
oc 5 (.mov (T 23)) <|
.done
@[simp] def a3e_r4 :LO:=[oo 24 (.fa 0 (T 2)),
oo 25 (.ld (T 24) none)]
@[simp] def a3e_r5 :LO:=[oo 27 (.bin .eql (T 25) (K 3)),
oo 26 (.mov (T 27))]
@[simp] def a3e_r6 :LO:=[oo 28 (.mov (T 5)),
oo 29 (.bin .eql (T 28) (K 0)),
oo 4 (.mov (T 29))]
@[simp] def a3e_r7 :LO:=[oo 31 (.bin .eql (T 25) (K 4)),
oo 30 (.mov (T 31))]
@[simp] def a3e_r8 :LO:=[oo 32 (.mov (T 5)),
oo 33 (.bin .neq (T 32) (K 0)),
oo 4 (.mov (T 33))]
@[simp] def a3e_r9 :LO:=[oo 35 (.bin .eql (T 25) (K 5)),
oo 34 (.mov (T 35))]
@[simp] def a3e_r10 :LO:=[oo 36 (.mov (T 5)),
oo 37 (.bin .lss (T 36) (K 0)),
oo 4 (.mov (T 37))]
@[simp] def a3e_r11 :LO:=[oo 39 (.bin .eql (T 25) (K 6)),
oo 38 (.mov (T 39))]
@[simp] def a3e_r12 :LO:=[oo 40 (.mov (T 5)),
oo 41 (.bin .leq (T 40) (K 0)),
oo 4 (.mov (T 41))]
@[simp] def a3e_r13 :LO:=[oo 43 (.bin .eql (T 25) (K 7)),
oo 42 (.mov (T 43))]
@[simp] def a3e_r14 :LO:=[oo 44 (.mov (T 5)),
oo 45 (.bin .gtr (T 44) (K 0)),
oo 4 (.mov (T 45))]
@[simp] def a3e_r15 :LO:=[oo 47 (.bin .eql (T 25) (K 8)),
oo 46 (.mov (T 47))]
@[simp] def a3e_r16 :LO:=[oo 48 (.mov (T 5)),
oo 49 (.bin .geq (T 48) (K 0)),
oo 4 (.mov (T 49))]
@[simp] def a3e_t17 : VT :=
 oc 50 (.mov (T 5)) <|
oc 51 (.bin .geq (T 50) (K 0)) <|
oc 52 (.mov (T 51)) <|
.op (og 53 52 true (.mov (T 1))) <|
.op (og 54 52 true (.fa 1 (T 2))) <|
.op (og 55 52 true (.ld (T 54) none)) <|
.op (og 56 52 true (.ia 3 (T 53) (T 55))) <|
.op (og 57 52 true (.ld (T 56) (some 3))) <|
.op (og 58 52 true (.fa 5 (T 2))) <|
.op (og 59 52 true (.ld (T 58) (some 3))) <|
.op (og 60 52 true (.call n_a2a [(T 57), (T 59)])) <|
.op (og 61 52 true (.bin .leq (T 60) (K 0))) <|
oc 62 (.pick (T 52) (T 61) (B false)) <|
oc 4 (.mov (T 62)) <|
.done
def b4d : VCode := (.seq (.reg a3e_r0) (.seq (.seq (.reg a3e_r1) (.cond (T 15) (.seq (.reg a3e_r2) .ret) .skip)) (.seq (.any a3e_t3) (.seq (.seq (.reg a3e_r4) (.block 0 (.seq (.reg a3e_r5) (.cond (T 26) (.seq (.reg a3e_r6) .ret) (.seq (.reg a3e_r7) (.cond (T 30) (.seq (.reg a3e_r8) .ret) (.seq (.reg a3e_r9) (.cond (T 34) (.seq (.reg a3e_r10) .ret) (.seq (.reg a3e_r11) (.cond (T 38) (.seq (.reg a3e_r12) .ret) (.seq (.reg a3e_r13) (.cond (T 42) (.seq (.reg a3e_r14) .ret) (.seq (.reg a3e_r15) (.cond (T 46) (.seq (.reg a3e_r16) .ret) .skip)))))))))))))) (.seq (.any a3e_t17) .ret)))))
theorem a3e_is : fnV prog n_a3e = some (63, b4d, [.tmp 4]) := by kernel_rfl
@[simp] def a4e_r0 :LO:=[oo 4 (.mov (B false))]
@[simp] def a4e_r1 :LO:=[oo 5 (.mov (T 0)),
oo 6 (.mov (T 1)),
oo 7 (.call n_a1f [(T 5), (T 6)]),
oo 8 (.bin .geq (T 7) (K 0)),
oo 4 (.mov (T 8))]
def a4e : VCode := (.seq (.reg a4e_r0) (.seq (.reg a4e_r1) .ret))
theorem a4e_is : fnV prog n_a4e = some (9, a4e, [.tmp 4]) := by kernel_rfl
@[simp] def a5e_r0 :LO:=[oo 2 (.box (T 0)),
oo 3 (.mov (B false))]
@[simp] def a5e_r1 :LO:=[oo 4 (.ld (T 1) none),
oo 5 (.ld (T 2) (some 9)),
oo 6 (.callv (T 4) [(T 5)]),
oo 7 (.un .not (T 6)),
oo 3 (.mov (T 7))]
def a5e : VCode := (.seq (.reg a5e_r0) (.seq (.reg a5e_r1) .ret))
theorem a5e_is : fnV prog n_a5e = some (8, a5e, [.tmp 3]) := by kernel_rfl
@[simp] def a6e_r0 :LO:=[oo 1 (.box (T 0)),
oo 2 (.mov (B false))]
@[simp] def a6e_r1 :LO:=[oo 3 (.fa 0 (T 1)),
oo 4 (.ld (T 3) none)]
@[simp] def a6e_r2 :LO:=[oo 5 (.ld (T 1) (some 3)),
oo 6 (.fa 2 (T 1)),
oo 7 (.ld (T 6) none),
oo 8 (.build [zb, zi, zs] [(0, 1, (B true)), (2, 1, (T 7))]),
oo 9 (.eqs false [.b, .i .i64, .s] (T 5) (T 8)),
oo 10 (.mov (T 9)),
og 11 10 true (.fa 2 (T 1)),
og 12 10 true (.ld (T 11) none),
og 13 10 true (.lens (T 12)),
og 14 10 true (.bin .leq (T 13) (K 12)),
oo 15 (.pick (T 10) (T 14) (B false)),
oo 2 (.mov (T 15))]
@[simp] def a6e_r3 :LO:=[oo 16 (.ld (T 1) (some 3)),
oo 17 (.fa 1 (T 1)),
oo 18 (.ld (T 17) none),
oo 19 (.build [zb, zi, zs] [(1, 1, (T 18))]),
oo 20 (.eqs false [.b, .i .i64, .s] (T 16) (T 19)),
oo 2 (.mov (T 20))]
def a6e : VCode := (.seq (.reg a6e_r0) (.seq (.seq (.reg a6e_r1) (.cond (T 4) (.seq (.reg a6e_r2) .ret) .skip)) (.seq (.reg a6e_r3) .ret)))
theorem a6e_is : fnV prog n_a6e = some (21, a6e, [.tmp 2]) := by kernel_rfl
@[simp] def a7e_r0 :LO:=[oo 3 (.box (T 1))]
@[simp] def a7e_r1 :LO:=[oo 4 (.mov (B false))]
@[simp] def a7e_r2 :LO:=[oo 5 (.fa 0 (T 3)),
oo 6 (.ld (T 5) none)]
@[simp] def a7e_r3 :LO:=[oo 8 (.bin .eql (T 6) (K 1)),
oo 7 (.mov (T 8))]
@[simp] def a7e_r4 :LO:=[oo 9 (.bin .eql (T 6) (K 2)),
oo 7 (.mov (T 9))]
@[simp] def a7e_r5 :LO:=[oo 10 (.fa 8 (T 3)),
oo 11 (.ld (T 10) none),
oo 12 (.len (T 11)),
oo 13 (.bin .eql (T 12) (K 0)),
oo 4 (.mov (T 13))]
@[simp] def a7e_r6 :LO:=[oo 15 (.bin .eql (T 6) (K 3)),
oo 14 (.mov (T 15))]
@[simp] def a7e_r7 :LO:=[oo 16 (.bin .eql (T 6) (K 4)),
oo 14 (.mov (T 16))]
@[simp] def a7e_r8 :LO:=[oo 17 (.bin .eql (T 6) (K 5)),
oo 14 (.mov (T 17))]
@[simp] def a7e_r9 :LO:=[oo 18 (.bin .eql (T 6) (K 6)),
oo 14 (.mov (T 18))]
@[simp] def a7e_r10 :LO:=[oo 19 (.bin .eql (T 6) (K 7)),
oo 14 (.mov (T 19))]
@[simp] def a7e_r11 :LO:=[oo 20 (.bin .eql (T 6) (K 8)),
oo 14 (.mov (T 20))]
@[simp] def a7e_r12 :LO:=[oo 21 (.fa 8 (T 3)),
oo 22 (.ld (T 21) none),
oo 23 (.len (T 22)),
oo 24 (.bin .eql (T 23) (K 0)),
oo 25 (.mov (T 24)),
og 26 25 true (.mov (T 0)),
og 27 25 true (.fa 1 (T 3)),
og 28 25 true (.ld (T 27) none),
og 29 25 true (.fa 2 (T 3)),
og 30 25 true (.ld (T 29) (some 3)),
og 31 25 true (.call n_a2f [(T 26), (T 28), (T 30)]),
oo 32 (.pick (T 25) (T 31) (B false)),
oo 4 (.mov (T 32))]
@[simp] def a7e_r13 :LO:=[oo 34 (.bin .eql (T 6) (K 9)),
oo 33 (.mov (T 34))]
@[simp] def a7e_r14 :LO:=[oo 35 (.fa 8 (T 3)),
oo 36 (.ld (T 35) none),
oo 37 (.len (T 36)),
oo 38 (.bin .eql (T 37) (K 0)),
oo 39 (.mov (T 38)),
og 40 39 true (.mov (T 0)),
og 41 39 true (.fa 1 (T 3)),
og 42 39 true (.ld (T 41) none),
og 43 39 true (.fa 2 (T 3)),
og 44 39 true (.ld (T 43) (some 3)),
og 45 39 true (.call n_a2f [(T 40), (T 42), (T 44)]),
oo 46 (.pick (T 39) (T 45) (B false)),
oo 47 (.mov (T 46)),
og 48 47 true (.mov (T 0)),
og 49 47 true (.fa 1 (T 3)),
og 50 47 true (.ld (T 49) none),
og 51 47 true (.fa 5 (T 3)),
og 52 47 true (.ld (T 51) (some 3)),
og 53 47 true (.call n_a2f [(T 48), (T 50), (T 52)]),
oo 54 (.pick (T 47) (T 53) (B false)),
oo 4 (.mov (T 54))]
@[simp] def a7e_r15 :LO:=[oo 56 (.bin .eql (T 6) (K 10)),
oo 55 (.mov (T 56))]
@[simp] def a7e_r16 :LO:=[oo 57 (.fa 8 (T 3)),
oo 58 (.ld (T 57) none),
oo 59 (.len (T 58)),
oo 60 (.bin .eql (T 59) (K 1)),
oo 4 (.mov (T 60))]
@[simp] def a7e_r17 :LO:=[oo 62 (.bin .eql (T 6) (K 11)),
oo 61 (.mov (T 62))]
@[simp] def a7e_r18 :LO:=[oo 63 (.bin .eql (T 6) (K 12)),
oo 61 (.mov (T 63))]
@[simp] def a7e_r19 :LO:=[oo 64 (.fa 8 (T 3)),
oo 65 (.ld (T 64) none),
oo 66 (.len (T 65)),
oo 67 (.bin .gtr (T 66) (K 0)),
oo 4 (.mov (T 67))]
@[simp] def a7e_r20 :LO:=[oo 68 (.mov (T 0)),
oo 69 (.mov (T 0)),
oo 70 (.chk (T 69)),
oo 71 (.fa 1 (T 70)),
oo 72 (.ld (T 71) none),
oo 73 (.mov (T 72)),
og 74 73 false (.mov (T 4)),
og 75 73 false (.un .not (T 74)),
oo 76 (.pick (T 73) (B true) (T 75)),
oo 77 (.chk (T 68)),
oo 78 (.fa 1 (T 77)),
on (.st (T 78) (T 76) 1)]
def a8e_part : VCode := (.seq (.reg a7e_r0) (.seq (.reg a7e_r1) (.seq (.seq (.reg a7e_r2) (.block 0 (.seq (.seq (.reg a7e_r3) (.cond (T 7) .skip (.reg a7e_r4))) (.cond (T 7) (.reg a7e_r5) (.seq (.seq (.reg a7e_r6) (.cond (T 14) .skip (.seq (.reg a7e_r7) (.cond (T 14) .skip (.seq (.reg a7e_r8) (.cond (T 14) .skip (.seq (.reg a7e_r9) (.cond (T 14) .skip (.seq (.reg a7e_r10) (.cond (T 14) .skip (.reg a7e_r11))))))))))) (.cond (T 14) (.reg a7e_r12) (.seq (.reg a7e_r13) (.cond (T 33) (.reg a7e_r14) (.seq (.reg a7e_r15) (.cond (T 55) (.reg a7e_r16) (.seq (.seq (.reg a7e_r17) (.cond (T 61) .skip (.reg a7e_r18))) (.cond (T 61) (.reg a7e_r19) .skip)))))))))))) (.reg a7e_r20))))
theorem a7e_is : fnV prog n_a7e = some (79, a8e_part, []) := by kernel_rfl
@[simp] def a9e_r0 :LO:=[oo 2 (.box (T 0))]
@[simp] def a9e_r1 :LO:=[oo 6 (.mov (T 1)),
oo 7 (.ld (T 2) (some 9)),
oo 8 (.callv (T 6) [(T 7)])]
@[simp] def a9e_r2 :LO:=[oo 9 (.fa 8 (T 2)),
oo 10 (.ld (T 9) none),
oo 11 (.len (T 10)),
oo 12 (.mov (K 0))]
@[simp] def a9e_r3 :LO:=[oo 13 (.bin .lss (T 12) (T 11))]
@[simp] def a9e_r4 :LO:=[oo 14 (.ia 9 (T 10) (T 12)),
oo 15 (.ld (T 14) (some 9)),
oo 5 (.alloc [zi, zi, zb, zi, zs, zb, zi, zs, .nil 9]),
on (.st (T 5) (T 15) 9)]
@[simp] def a9e_r5 :LO:=[oo 16 (.ld (T 5) (some 9)),
oo 17 (.mov (T 1)),
oo 18 (.call n_a9e [(T 16), (T 17)])]
@[simp] def a9e_r6 :LO:=[oo 19 (.bin .add (T 12) (K 1)),
oo 12 (.mov (T 19))]
def a9e_l7 : VCode :=
 (.seq (.reg a9e_r3) (.seq (.cond (T 13) .skip (.exit 0)) (.seq (.block 1 (.seq (.reg a9e_r4) (.reg a9e_r5))) (.reg a9e_r6))))
def b5d : VCode := (.seq (.reg a9e_r0) (.seq (.reg a9e_r1) (.seq (.reg a9e_r2) (.block 0 (.loop a9e_l7)))))
theorem a9e_is : fnV prog n_a9e = some (20, b5d, []) := by kernel_rfl
@[simp] def a0f_r0 :LO:=[oo 1 (.box (T 0)),
oo 2 (.mov (K 0))]
@[simp] def a0f_r1 :LO:=[oo 3 (.alloc [zi]),
on (.st (T 3) (K 0) 1)]
@[simp] def a0f_r2 :LO:=[oo 4 (.ld (T 1) (some 9)),
oo 5 (.mkfn n_a3f [] [(T 3)]),
oo 6 (.call n_a9e [(T 4), (T 5)])]
@[simp] def a0f_r3 :LO:=[oo 7 (.ld (T 3) none),
oo 2 (.mov (T 7))]
def a0f : VCode := (.seq (.reg a0f_r0) (.seq (.reg a0f_r1) (.seq (.reg a0f_r2) (.seq (.reg a0f_r3) .ret))))
theorem a0f_is : fnV prog n_a0f = some (8, a0f, [.tmp 2]) := by kernel_rfl
@[simp] def a1f_r0 :LO:=[oo 4 (.mov (K 0))]
@[simp] def a1f_r1 :LO:=[oo 6 (.mov (T 0)),
oo 7 (.len (T 6)),
oo 8 (.mov (K 0))]
@[simp] def a1f_r2 :LO:=[oo 9 (.bin .lss (T 8) (T 7))]
@[simp] def a1f_r3 :LO:=[oo 10 (.mov (T 8)),
oo 5 (.mov (T 10))]
@[simp] def a1f_r4 :LO:=[oo 11 (.mov (T 1)),
oo 12 (.mov (T 0)),
oo 13 (.mov (T 5)),
oo 14 (.ia 9 (T 12) (T 13)),
oo 15 (.ld (T 14) (some 9)),
oo 16 (.callv (T 11) [(T 15)])]
@[simp] def a1f_r5 :LO:=[oo 17 (.mov (T 5)),
oo 4 (.mov (T 17))]
@[simp] def a1f_r6 :LO:=[oo 18 (.bin .add (T 8) (K 1)),
oo 8 (.mov (T 18))]
def a1f_l7 : VCode :=
 (.seq (.reg a1f_r2) (.seq (.cond (T 9) .skip (.exit 0)) (.seq (.block 1 (.seq (.reg a1f_r3) (.seq (.reg a1f_r4) (.cond (T 16) (.seq (.reg a1f_r5) .ret) .skip)))) (.reg a1f_r6))))
@[simp] def a1f_r8 :LO:=[oo 4 (.mov (K (-1)))]
def a1f : VCode := (.seq (.reg a1f_r0) (.seq (.seq (.reg a1f_r1) (.block 0 (.loop a1f_l7))) (.seq (.reg a1f_r8) .ret)))
theorem a1f_is : fnV prog n_a1f = some (19, a1f, [.tmp 4]) := by kernel_rfl
@[simp] def a2f_r0 :LO:=[oo 5 (.box (T 2)),
oo 6 (.mov (B false))]
@[simp] def a2f_t1 : VT :=
 oc 7 (.mov (T 1)) <|
oc 8 (.bin .geq (T 7) (K 0)) <|
oc 9 (.mov (T 8)) <|
.op (og 10 9 true (.mov (T 1))) <|
.op (og 11 9 true (.mov (T 0))) <|
.op (og 12 9 true (.chk (T 11))) <|
.op (og 13 9 true (.fa 0 (T 12))) <|
.op (og 14 9 true (.fa 0 (T 13))) <|
.op (og 15 9 true (.ld (T 14) none)) <|
.op (og 16 9 true (.len (T 15))) <|
.op (og 17 9 true (.bin .lss (T 10) (T 16))) <|
oc 18 (.pick (T 9) (T 17) (B false)) <|
oc 19 (.mov (T 18)) <|
.op (og 20 19 true (.fa 0 (T 5))) <|
.op (og 21 19 true (.ld (T 20) none)) <|
.op (og 22 19 true (.mov (T 0))) <|
.op (og 23 19 true (.chk (T 22))) <|
.op (og 24 19 true (.fa 0 (T 23))) <|
.op (og 25 19 true (.fa 0 (T 24))) <|
.op (og 26 19 true (.ld (T 25) none)) <|
.op (og 27 19 true (.mov (T 1))) <|
.op (og 28 19 true (.ia 1 (T 26) (T 27))) <|
.op (og 29 19 true (.ld (T 28) none)) <|
.op (og 30 19 true (.beq false (T 21) (T 29))) <|
oc 31 (.pick (T 19) (T 30) (B false)) <|
oc 32 (.mov (T 31)) <|
.op (og 33 32 true (.ld (T 5) (some 3))) <|
.op (og 34 32 true (.call n_a6e [(T 33)])) <|
oc 35 (.pick (T 32) (T 34) (B false)) <|
oc 6 (.mov (T 35)) <|
.done
def a8e_of : VCode := (.seq (.reg a2f_r0) (.seq (.any a2f_t1) .ret))
theorem a2f_is : fnV prog n_a2f = some (36, a8e_of, [.tmp 6]) := by kernel_rfl
@[simp] def a3f_r0 :LO:=[oo 2 (.box (T 0))]
@[simp] def a3f_r1 :LO:=[oo 3 (.ld (T 1) none),
oo 4 (.bin .add (T 3) (K 1)),
on (.st (T 1) (T 4) 1)]
def a3f : VCode := (.seq (.reg a3f_r0) (.reg a3f_r1))
theorem a3f_is : fnV prog n_a3f = some (5, a3f, []) := by kernel_rfl
end Go.Rt
end

section
namespace Go.Rt
open Go.Vm
@[simp] def a4f_r0 :LO:=[oo 2 (.box (T 0)),
oo 3 (.box (T 1)),
oo 4 (.mov (B false))]
@[simp] def a4f_r1 :LO:=[oo 8 (.call n_a6f []),
oo 5 (.mov (T 8))]
@[simp] def a4f_r2 :LO:=[oo 9 (.mov (T 5)),
oo 10 (.un .not (T 9))]
@[simp] def a4f_r3 :LO:=[oo 4 (.mov (B false))]
@[simp] def a4f_r4 :LO:=[oo 11 (.ld (T 2) (some 8)),
oo 12 (.ld (T 3) (some 8)),
oo 13 (.call n_a7f [(T 11), (T 12)]),
oo 6 (.mov (T 13))]
@[simp] def a4f_r5 :LO:=[oo 14 (.ld (T 3) (some 8)),
oo 15 (.ld (T 2) (some 8)),
oo 16 (.call n_a7f [(T 14), (T 15)]),
oo 7 (.mov (T 16))]
@[simp] def a4f_r6 :LO:=[oo 17 (.mov (T 6)),
oo 18 (.ld (T 2) (some 8)),
oo 19 (.ld (T 3) (some 8)),
oo 20 (.call n_a8f [(T 18), (T 19)]),
oo 21 (.beq false (T 17) (T 20)),
oo 22 (.mov (T 21)),
og 23 22 true (.mov (T 7)),
og 24 22 true (.ld (T 3) (some 8)),
og 25 22 true (.ld (T 2) (some 8)),
og 26 22 true (.call n_a8f [(T 24), (T 25)]),
og 27 22 true (.beq false (T 23) (T 26)),
oo 28 (.pick (T 22) (T 27) (B false)),
oo 29 (.mov (T 28)),
og 30 29 true (.mov (T 6)),
og 31 29 true (.mov (T 30)),
og 32 31 true (.mov (T 7)),
og 33 29 true (.pick (T 31) (T 32) (B false)),
og 34 29 true (.un .not (T 33)),
oo 35 (.pick (T 29) (T 34) (B false)),
oo 36 (.mov (T 35)),
og 37 36 true (.ld (T 2) (some 8)),
og 38 36 true (.ld (T 3) (some 8)),
og 39 36 true (.eqs true [.i .i64, .i .i64, .i .i64, .i .i64, .b, .i .i64, .s, .b] (T 37) (T 38)),
og 40 36 true (.mov (T 39)),
og 41 40 false (.mov (T 6)),
og 42 40 false (.un .not (T 41)),
og 43 36 true (.pick (T 40) (B true) (T 42)),
oo 44 (.pick (T 36) (T 43) (B false)),
oo 4 (.mov (T 44))]
def a4f : VCode := (.seq (.reg a4f_r0) (.seq (.reg a4f_r1) (.seq (.seq (.reg a4f_r2) (.cond (T 10) (.seq (.reg a4f_r3) .ret) .skip)) (.seq (.reg a4f_r4) (.seq (.reg a4f_r5) (.seq (.reg a4f_r6) .ret))))))
theorem a4f_is : fnV prog n_a4f = some (45, a4f, [.tmp 4]) := by kernel_rfl
@[simp] def a5f_r0 :LO:=[oo 1 (.box (T 0)),
oo 2 (.mov (B false))]
@[simp] def a5f_r1 :LO:=[oo 9 (.call n_a6f []),
oo 3 (.mov (T 9))]
@[simp] def a5f_r2 :LO:=[oo 10 (.mov (T 3)),
oo 11 (.un .not (T 10))]
@[simp] def a5f_r3 :LO:=[oo 2 (.mov (B false))]
@[simp] def a5f_r4 :LO:=[oo 12 (.ld (T 1) (some 3)),
oo 13 (.call n_a0a [(T 12)]),
oo 4 (.mov (T 13))]
@[simp] def a5f_r5 :LO:=[oo 14 (.mov (T 4)),
oo 15 (.un .not (T 14))]
@[simp] def a5f_r6 :LO:=[oo 2 (.mov (B true))]
@[simp] def a5f_r7 :LO:=[oo 16 (.ld (T 1) (some 3)),
oo 17 (.call n_a9f [(T 16)]),
oo 5 (.mov (T 17))]
@[simp] def a5f_r8 :LO:=[oo 6 (.mov (K 0))]
@[simp] def a5f_r9 :LO:=[oo 18 (.mov (T 6)),
oo 19 (.mov (T 5)),
oo 20 (.len (T 19)),
oo 21 (.bin .lss (T 18) (T 20))]
@[simp] def a5f_t10 : VT :=
 oc 24 (.ld (T 1) (some 3)) <|
oc 25 (.mov (T 5)) <|
oc 26 (.mov (T 6)) <|
oc 27 (.ia 8 (T 25) (T 26)) <|
oc 28 (.fa 0 (T 27)) <|
oc 29 (.ld (T 28) none) <|
oc 30 (.call n_a1a [(T 24), (T 29)]) <|
oc 7 (.mov (T 30)) <|
.done
@[simp] def a5f_t11 : VT :=
 oc 31 (.ld (T 1) (some 3)) <|
oc 32 (.mov (T 5)) <|
oc 33 (.mov (T 6)) <|
oc 34 (.ia 8 (T 32) (T 33)) <|
oc 35 (.fa 1 (T 34)) <|
oc 36 (.ld (T 35) none) <|
oc 37 (.call n_a1a [(T 31), (T 36)]) <|
oc 8 (.mov (T 37)) <|
.done
@[simp] def a5f_t12 : VT :=
 oc 38 (.mov (T 7)) <|
oc 39 (.un .not (T 38)) <|
oc 40 (.mov (T 39)) <|
.op (og 41 40 false (.mov (T 8))) <|
.op (og 42 40 false (.un .not (T 41))) <|
oc 43 (.pick (T 40) (B true) (T 42)) <|
oc 44 (.mov (T 43)) <|
.op (og 45 44 false (.mov (T 5))) <|
.op (og 46 44 false (.mov (T 6))) <|
.op (og 47 44 false (.ia 8 (T 45) (T 46))) <|
.op (og 48 44 false (.fa 0 (T 47))) <|
.op (og 49 44 false (.ld (T 48) none)) <|
.op (og 50 44 false (.mov (T 5))) <|
.op (og 51 44 false (.mov (T 6))) <|
.op (og 52 44 false (.ia 8 (T 50) (T 51))) <|
.op (og 53 44 false (.fa 1 (T 52))) <|
.op (og 54 44 false (.ld (T 53) none)) <|
.op (og 55 44 false (.bin .eql (T 49) (T 54))) <|
oc 56 (.pick (T 44) (B true) (T 55)) <|
oc 57 (.mov (T 56)) <|
.op (og 58 57 false (.mov (T 5))) <|
.op (og 59 57 false (.mov (T 6))) <|
.op (og 60 57 false (.ia 8 (T 58) (T 59))) <|
.op (og 61 57 false (.fa 2 (T 60))) <|
.op (og 62 57 false (.ld (T 61) none)) <|
.op (og 63 57 false (.bin .lss (T 62) (K 1))) <|
oc 64 (.pick (T 57) (B true) (T 63)) <|
oc 65 (.mov (T 64)) <|
.op (og 66 65 false (.mov (T 5))) <|
.op (og 67 65 false (.mov (T 6))) <|
.op (og 68 65 false (.ia 8 (T 66) (T 67))) <|
.op (og 69 65 false (.fa 2 (T 68))) <|
.op (og 70 65 false (.ld (T 69) none)) <|
.op (og 71 65 false (.bin .gtr (T 70) (K 5))) <|
oc 72 (.pick (T 65) (B true) (T 71)) <|
.done
@[simp] def a5f_r13 :LO:=[oo 2 (.mov (B false))]
@[simp] def a5f_t14 : VT :=
 oc 73 (.mov (T 6)) <|
oc 74 (.bin .gtr (T 73) (K 0)) <|
oc 75 (.mov (T 74)) <|
.op (og 76 75 true (.mov (T 5))) <|
.op (og 77 75 true (.mov (T 6))) <|
.op (og 78 75 true (.bin .sub (T 77) (K 1))) <|
.op (og 79 75 true (.ia 8 (T 76) (T 78))) <|
.op (og 80 75 true (.ld (T 79) (some 8))) <|
.op (og 81 75 true (.mov (T 5))) <|
.op (og 82 75 true (.mov (T 6))) <|
.op (og 83 75 true (.ia 8 (T 81) (T 82))) <|
.op (og 84 75 true (.ld (T 83) (some 8))) <|
.op (og 85 75 true (.call n_a7f [(T 80), (T 84)])) <|
.op (og 86 75 true (.un .not (T 85))) <|
oc 87 (.pick (T 75) (T 86) (B false)) <|
.done
@[simp] def a5f_r15 :LO:=[oo 2 (.mov (B false))]
@[simp] def a5f_r16 :LO:=[oo 88 (.mov (T 5)),
oo 89 (.mov (T 6)),
oo 90 (.ia 8 (T 88) (T 89)),
oo 91 (.fa 7 (T 90)),
oo 92 (.ld (T 91) none),
oo 93 (.mov (T 92)),
og 94 93 true (.mov (T 5)),
og 95 93 true (.mov (T 6)),
og 96 93 true (.ia 8 (T 94) (T 95)),
og 97 93 true (.fa 2 (T 96)),
og 98 93 true (.ld (T 97) none),
og 99 93 true (.bin .neq (T 98) (K 2)),
oo 100 (.pick (T 93) (T 99) (B false)),
oo 101 (.mov (T 100)),
og 102 101 true (.mov (T 5)),
og 103 101 true (.mov (T 6)),
og 104 101 true (.ia 8 (T 102) (T 103)),
og 105 101 true (.fa 2 (T 104)),
og 106 101 true (.ld (T 105) none),
og 107 101 true (.bin .neq (T 106) (K 4)),
oo 108 (.pick (T 101) (T 107) (B false))]
@[simp] def a5f_r17 :LO:=[oo 2 (.mov (B false))]
@[simp] def a5f_r18 :LO:=[oo 22 (.mov (T 6)),
oo 23 (.bin .add (T 22) (K 1)),
oo 6 (.mov (T 23))]
def a5f_l19 : VCode :=
 (.seq (.seq (.reg a5f_r9) (.cond (T 21) .skip (.exit 0))) (.seq (.block 1 (.seq (.any a5f_t10) (.seq (.any a5f_t11) (.seq (.seq (.any a5f_t12) (.cond (T 72) (.seq (.reg a5f_r13) .ret) .skip)) (.seq (.seq (.any a5f_t14) (.cond (T 87) (.seq (.reg a5f_r15) .ret) .skip)) (.seq (.reg a5f_r16) (.cond (T 108) (.seq (.reg a5f_r17) .ret) .skip))))))) (.reg a5f_r18)))
@[simp] def a5f_r20 :LO:=[oo 2 (.mov (B true))]
def a5f : VCode := (.seq (.reg a5f_r0) (.seq (.reg a5f_r1) (.seq (.seq (.reg a5f_r2) (.cond (T 11) (.seq (.reg a5f_r3) .ret) .skip)) (.seq (.reg a5f_r4) (.seq (.seq (.reg a5f_r5) (.cond (T 15) (.seq (.reg a5f_r6) .ret) .skip)) (.seq (.reg a5f_r7) (.seq (.seq (.reg a5f_r8) (.block 0 (.loop a5f_l19))) (.seq (.reg a5f_r20) .ret))))))))
theorem a5f_is : fnV prog n_a5f = some (109, a5f, [.tmp 2]) := by kernel_rfl
@[simp] def a6f_r0 :LO:=[oo 0 (.mov (B false))]
@[simp] def a6f_r1 :LO:=[oo 4 (.build [zb, zi, zs] [(1, 1, (K 5))]),
oo 1 (.alloc [zb, zi, zs]),
on (.st (T 1) (T 4) 3)]
@[simp] def a6f_r2 :LO:=[oo 2 (.nils 22)]
@[simp] def a6f_r3 :LO:=[oo 5 (.mov (T 2)),
oo 6 (.build [zi, zi, zi, zi, zb, zi, zs, zi, zi, zi, .nil 3, zi, zi, zb, zi, zs, zb, zi, zs, .nil 9, .nil 5, zb] [(0, 1, (K 1)), (1, 1, (K 1)), (2, 1, (K 1))]),
oo 7 (.ld (T 1) (some 3)),
oo 8 (.ld (T 1) (some 3)),
oo 9 (.lit 3 1 [(0, (T 8))]),
oo 10 (.build [zi, zi, zi, zi, zb, zi, zs, zi, zi, zi, .nil 3, zi, zi, zb, zi, zs, zb, zi, zs, .nil 9, .nil 5, zb] [(0, 1, (K 1)), (1, 1, (K 3)), (4, 3, (T 7)), (9, 1, (K 1)), (10, 1, (T 9))]),
oo 11 (.build [zi, zi, zi, zi, zb, zi, zs, zi, zi, zi, .nil 3, zi, zi, zb, zi, zs, zb, zi, zs, .nil 9, .nil 5, zb] [(0, 1, (K 1)), (1, 1, (K 5))]),
oo 12 (.lit 22 3 [(0, (T 6)), (1, (T 10)), (2, (T 11))]),
oo 13 (.app 22 248 (T 5) (T 12)),
oo 2 (.mov (T 13))]
@[simp] def a6f_r4 :LO:=[oo 14 (.mov (T 2)),
oo 15 (.build [zi, zi, zi, zi, zb, zi, zs, zi, zi, zi, .nil 3, zi, zi, zb, zi, zs, zb, zi, zs, .nil 9, .nil 5, zb] [(0, 1, (K 2)), (1, 1, (K 1)), (2, 1, (K 1))]),
oo 16 (.ld (T 1) (some 3)),
oo 17 (.build [zi, zi] [(0, 1, (K 1)), (1, 1, (K 1))]),
oo 18 (.build [zi, zi, zi, zi, zb, zi, zs, zi, zi, zi, .nil 3, zi, zi, zb, zi, zs, zb, zi, zs, .nil 9, .nil 5, zb] [(0, 1, (K 2)), (1, 1, (K 2)), (4, 3, (T 16)), (7, 2, (T 17))]),
oo 19 (.build [zi, zi, zi, zi, zb, zi, zs, zi, zi, zi, .nil 3, zi, zi, zb, zi, zs, zb, zi, zs, .nil 9, .nil 5, zb] [(0, 1, (K 2)), (1, 1, (K 5))]),
oo 20 (.lit 22 3 [(0, (T 15)), (1, (T 18)), (2, (T 19))]),
oo 21 (.app 22 248 (T 14) (T 20)),
oo 2 (.mov (T 21))]
@[simp] def a6f_r5 :LO:=[oo 22 (.mov (T 2)),
oo 23 (.build [zi, zi, zi, zi, zb, zi, zs, zi, zi, zi, .nil 3, zi, zi, zb, zi, zs, zb, zi, zs, .nil 9, .nil 5, zb] [(0, 1, (K 3)), (1, 1, (K 1)), (2, 1, (K 1))]),
oo 24 (.ld (T 1) (some 3)),
oo 25 (.build [zi, zi, zi, zi, zb, zi, zs, zi, zi, zi, .nil 3, zi, zi, zb, zi, zs, zb, zi, zs, .nil 9, .nil 5, zb] [(0, 1, (K 3)), (1, 1, (K 3)), (4, 3, (T 24)), (9, 1, (K 1))]),
oo 26 (.build [zi, zi, zi, zi, zb, zi, zs, zi, zi, zi, .nil 3, zi, zi, zb, zi, zs, zb, zi, zs, .nil 9, .nil 5, zb] [(0, 1, (K 3)), (1, 1, (K 5))]),
oo 27 (.lit 22 3 [(0, (T 23)), (1, (T 25)), (2, (T 26))]),
oo 28 (.app 22 248 (T 22) (T 27)),
oo 2 (.mov (T 28))]
@[simp] def a6f_r6 :LO:=[oo 29 (.lit 1 1 [(0, (B false))]),
oo 30 (.build [.nil 1] [(0, 1, (T 29))]),
oo 31 (.lit 1 1 [(0, (T 30))]),
oo 32 (.mov (T 2)),
oo 33 (.ld (T 1) (some 3)),
oo 34 (.lit 1 2 [(0, (K 1)), (1, (K 3))]),
oo 35 (.build [zi, zb, zi, zs, .nil 1] [(1, 3, (T 33)), (4, 1, (T 34))]),
oo 36 (.lit 5 1 [(0, (T 35))]),
oo 37 (.build [.nil 1, .nil 22, .nil 5] [(0, 1, (T 31)), (1, 1, (T 32)), (2, 1, (T 36))]),
oo 38 (.call n_a9f [(T 37)]),
oo 3 (.mov (T 38))]
@[simp] def a6f_t7 : VT :=
 oc 39 (.mov (T 3)) <|
oc 40 (.len (T 39)) <|
oc 41 (.bin .eql (T 40) (K 3)) <|
oc 42 (.mov (T 41)) <|
.op (og 43 42 true (.mov (T 3))) <|
.op (og 44 42 true (.ia 8 (T 43) (K 0))) <|
.op (og 45 42 true (.ld (T 44) (some 8))) <|
.op (og 46 42 true (.ld (T 1) (some 3))) <|
.op (og 47 42 true (.build [zi, zi, zi, zi, zb, zi, zs, zb] [(0, 1, (K 1)), (1, 1, (K 2)), (2, 1, (K 2)), (4, 3, (T 46))])) <|
.op (og 48 42 true (.eqs false [.i .i64, .i .i64, .i .i64, .i .i64, .b, .i .i64, .s, .b] (T 45) (T 47))) <|
oc 49 (.pick (T 42) (T 48) (B false)) <|
oc 50 (.mov (T 49)) <|
.op (og 51 50 true (.mov (T 3))) <|
.op (og 52 50 true (.ia 8 (T 51) (K 1))) <|
.op (og 53 50 true (.ld (T 52) (some 8))) <|
.op (og 54 50 true (.ld (T 1) (some 3))) <|
.op (og 55 50 true (.build [zi, zi, zi, zi, zb, zi, zs, zb] [(0, 1, (K 1)), (1, 1, (K 3)), (2, 1, (K 1)), (4, 3, (T 54))])) <|
.op (og 56 50 true (.eqs false [.i .i64, .i .i64, .i .i64, .i .i64, .b, .i .i64, .s, .b] (T 53) (T 55))) <|
oc 57 (.pick (T 50) (T 56) (B false)) <|
oc 58 (.mov (T 57)) <|
.op (og 59 58 true (.mov (T 3))) <|
.op (og 60 58 true (.ia 8 (T 59) (K 2))) <|
.op (og 61 58 true (.ld (T 60) (some 8))) <|
.op (og 62 58 true (.ld (T 1) (some 3))) <|
.op (og 63 58 true (.build [zi, zi, zi, zi, zb, zi, zs, zb] [(0, 1, (K 2)), (1, 1, (K 3)), (2, 1, (K 4)), (4, 3, (T 62))])) <|
.op (og 64 58 true (.eqs false [.i .i64, .i .i64, .i .i64, .i .i64, .b, .i .i64, .s, .b] (T 61) (T 63))) <|
oc 65 (.pick (T 58) (T 64) (B false)) <|
oc 0 (.mov (T 65)) <|
.done
def b4s : VCode := (.seq (.reg a6f_r0) (.seq (.reg a6f_r1) (.seq (.reg a6f_r2) (.seq (.reg a6f_r3) (.seq (.reg a6f_r4) (.seq (.reg a6f_r5) (.seq (.reg a6f_r6) (.seq (.any a6f_t7) .ret))))))))
theorem a6f_is : fnV prog n_a6f = some (66, b4s, [.tmp 0]) := by kernel_rfl
@[simp] def a7f_r0 :LO:=[oo 2 (.box (T 0)),
oo 3 (.box (T 1)),
oo 4 (.mov (B false))]
@[simp] def a7f_r1 :LO:=[oo 7 (.fa 0 (T 2)),
oo 8 (.ld (T 7) none),
oo 9 (.fa 0 (T 3)),
oo 10 (.ld (T 9) none),
oo 11 (.bin .neq (T 8) (T 10)),
oo 6 (.mov (T 11))]
@[simp] def a7f_r2 :LO:=[oo 12 (.fa 0 (T 2)),
oo 13 (.ld (T 12) none),
oo 14 (.fa 0 (T 3)),
oo 15 (.ld (T 14) none),
oo 16 (.bin .lss (T 13) (T 15)),
oo 4 (.mov (T 16))]
@[simp] def a7f_r3 :LO:=[oo 18 (.fa 1 (T 2)),
oo 19 (.ld (T 18) none),
oo 20 (.fa 1 (T 3)),
oo 21 (.ld (T 20) none),
oo 22 (.bin .neq (T 19) (T 21)),
oo 17 (.mov (T 22))]
@[simp] def a7f_r4 :LO:=[oo 23 (.fa 1 (T 2)),
oo 24 (.ld (T 23) none),
oo 25 (.fa 1 (T 3)),
oo 26 (.ld (T 25) none),
oo 27 (.bin .lss (T 24) (T 26)),
oo 4 (.mov (T 27))]
@[simp] def a7f_r5 :LO:=[oo 29 (.fa 2 (T 2)),
oo 30 (.ld (T 29) none),
oo 31 (.fa 2 (T 3)),
oo 32 (.ld (T 31) none),
oo 33 (.bin .neq (T 30) (T 32)),
oo 28 (.mov (T 33))]
@[simp] def a7f_r6 :LO:=[oo 34 (.fa 2 (T 2)),
oo 35 (.ld (T 34) none),
oo 36 (.fa 2 (T 3)),
oo 37 (.ld (T 36) none),
oo 38 (.bin .lss (T 35) (T 37)),
oo 4 (.mov (T 38))]
@[simp] def a7f_r7 :LO:=[oo 40 (.fa 3 (T 2)),
oo 41 (.ld (T 40) none),
oo 42 (.fa 3 (T 3)),
oo 43 (.ld (T 42) none),
oo 44 (.bin .neq (T 41) (T 43)),
oo 39 (.mov (T 44))]
@[simp] def a7f_r8 :LO:=[oo 45 (.fa 3 (T 2)),
oo 46 (.ld (T 45) none),
oo 47 (.fa 3 (T 3)),
oo 48 (.ld (T 47) none),
oo 49 (.bin .lss (T 46) (T 48)),
oo 4 (.mov (T 49))]
@[simp] def a7f_r9 :LO:=[oo 50 (.fa 4 (T 2)),
oo 51 (.ld (T 50) (some 3)),
oo 52 (.fa 4 (T 3)),
oo 53 (.ld (T 52) (some 3)),
oo 54 (.call n_a2a [(T 51), (T 53)]),
oo 5 (.mov (T 54))]
@[simp] def a7f_r10 :LO:=[oo 55 (.mov (T 5)),
oo 56 (.bin .neq (T 55) (K 0))]
@[simp] def a7f_r11 :LO:=[oo 57 (.mov (T 5)),
oo 58 (.bin .lss (T 57) (K 0)),
oo 4 (.mov (T 58))]
@[simp] def a7f_r12 :LO:=[oo 59 (.fa 7 (T 2)),
oo 60 (.ld (T 59) none),
oo 61 (.un .not (T 60)),
oo 62 (.mov (T 61)),
og 63 62 true (.fa 7 (T 3)),
og 64 62 true (.ld (T 63) none),
oo 65 (.pick (T 62) (T 64) (B false)),
oo 4 (.mov (T 65))]
def a7f : VCode := (.seq (.reg a7f_r0) (.seq (.block 0 (.seq (.reg a7f_r1) (.cond (T 6) (.seq (.reg a7f_r2) .ret) (.seq (.reg a7f_r3) (.cond (T 17) (.seq (.reg a7f_r4) .ret) (.seq (.reg a7f_r5) (.cond (T 28) (.seq (.reg a7f_r6) .ret) (.seq (.reg a7f_r7) (.cond (T 39) (.seq (.reg a7f_r8) .ret) .skip))))))))) (.seq (.seq (.reg a7f_r9) (.seq (.reg a7f_r10) (.cond (T 56) (.seq (.reg a7f_r11) .ret) .skip))) (.seq (.reg a7f_r12) .ret))))
theorem a7f_is : fnV prog n_a7f = some (66, a7f, [.tmp 4]) := by kernel_rfl
@[simp] def a8f_r0 :LO:=[oo 2 (.box (T 0)),
oo 3 (.box (T 1)),
oo 4 (.mov (B false))]
@[simp] def a8f_r1 :LO:=[oo 6 (.fa 0 (T 2)),
oo 7 (.ld (T 6) none),
oo 8 (.fa 0 (T 3)),
oo 9 (.ld (T 8) none),
oo 10 (.bin .neq (T 7) (T 9))]
@[simp] def a8f_r2 :LO:=[oo 11 (.fa 0 (T 2)),
oo 12 (.ld (T 11) none),
oo 13 (.fa 0 (T 3)),
oo 14 (.ld (T 13) none),
oo 15 (.bin .lss (T 12) (T 14)),
oo 4 (.mov (T 15))]
@[simp] def a8f_r3 :LO:=[oo 16 (.fa 1 (T 2)),
oo 17 (.ld (T 16) none),
oo 18 (.fa 1 (T 3)),
oo 19 (.ld (T 18) none),
oo 20 (.bin .neq (T 17) (T 19))]
@[simp] def a8f_r4 :LO:=[oo 21 (.fa 1 (T 2)),
oo 22 (.ld (T 21) none),
oo 23 (.fa 1 (T 3)),
oo 24 (.ld (T 23) none),
oo 25 (.bin .lss (T 22) (T 24)),
oo 4 (.mov (T 25))]
@[simp] def a8f_r5 :LO:=[oo 26 (.fa 2 (T 2)),
oo 27 (.ld (T 26) none),
oo 28 (.fa 2 (T 3)),
oo 29 (.ld (T 28) none),
oo 30 (.bin .neq (T 27) (T 29))]
@[simp] def a8f_r6 :LO:=[oo 31 (.fa 2 (T 2)),
oo 32 (.ld (T 31) none),
oo 33 (.fa 2 (T 3)),
oo 34 (.ld (T 33) none),
oo 35 (.bin .lss (T 32) (T 34)),
oo 4 (.mov (T 35))]
@[simp] def a8f_r7 :LO:=[oo 36 (.fa 3 (T 2)),
oo 37 (.ld (T 36) none),
oo 38 (.fa 3 (T 3)),
oo 39 (.ld (T 38) none),
oo 40 (.bin .neq (T 37) (T 39))]
@[simp] def a8f_r8 :LO:=[oo 41 (.fa 3 (T 2)),
oo 42 (.ld (T 41) none),
oo 43 (.fa 3 (T 3)),
oo 44 (.ld (T 43) none),
oo 45 (.bin .lss (T 42) (T 44)),
oo 4 (.mov (T 45))]
@[simp] def a8f_r9 :LO:=[oo 46 (.fa 4 (T 2)),
oo 47 (.ld (T 46) (some 3)),
oo 48 (.fa 4 (T 3)),
oo 49 (.ld (T 48) (some 3)),
oo 50 (.call n_a3a [(T 47), (T 49)]),
oo 5 (.mov (T 50))]
@[simp] def a8f_r10 :LO:=[oo 51 (.mov (T 5)),
oo 52 (.bin .neq (T 51) (K 0))]
@[simp] def a8f_r11 :LO:=[oo 53 (.mov (T 5)),
oo 54 (.bin .lss (T 53) (K 0)),
oo 4 (.mov (T 54))]
@[simp] def a8f_r12 :LO:=[oo 55 (.fa 7 (T 2)),
oo 56 (.ld (T 55) none),
oo 57 (.un .not (T 56)),
oo 58 (.mov (T 57)),
og 59 58 true (.fa 7 (T 3)),
og 60 58 true (.ld (T 59) none),
oo 61 (.pick (T 58) (T 60) (B false)),
oo 4 (.mov (T 61))]
def a8f : VCode := (.seq (.reg a8f_r0) (.seq (.seq (.reg a8f_r1) (.cond (T 10) (.seq (.reg a8f_r2) .ret) .skip)) (.seq (.seq (.reg a8f_r3) (.cond (T 20) (.seq (.reg a8f_r4) .ret) .skip)) (.seq (.seq (.reg a8f_r5) (.cond (T 30) (.seq (.reg a8f_r6) .ret) .skip)) (.seq (.seq (.reg a8f_r7) (.cond (T 40) (.seq (.reg a8f_r8) .ret) .skip)) (.seq (.reg a8f_r9) (.seq (.seq (.reg a8f_r10) (.cond (T 52) (.seq (.reg a8f_r11) .ret) .skip)) (.seq (.reg a8f_r12) .ret))))))))
theorem a8f_is : fnV prog n_a8f = some (62, a8f, [.tmp 4]) := by kernel_rfl
@[simp] def a9f_r0 :LO:=[oo 1 (.box (T 0)),
oo 2 (.nils 8)]
@[simp] def a9f_r1 :LO:=[oo 12 (.ld (T 1) (some 3)),
oo 13 (.call n_a5a [(T 12)]),
oo 3 (.mov (T 13))]
@[simp] def a9f_r2 :LO:=[oo 14 (.mov (T 3)),
oo 15 (.peq false (T 14) (.const (.pointer none)))]
@[simp] def a9f_r3 :LO:=[oo 2 (.nils 8)]
@[simp] def a9f_r4 :LO:=[oo 16 (.ld (T 1) (some 3)),
oo 17 (.mov (T 3)),
oo 18 (.mkmap (true, [.i .i64, .i .i64, .i .i64, .i .i64, .b, .i .i64, .s, .b], false)),
oo 19 (.build [.nil 1, .nil 22, .nil 5, .iv (.v (.pointer none)), .iv (.v (.map none))] [(0, 3, (T 16)), (3, 1, (T 17)), (4, 1, (T 18))]),
oo 20 (.box (T 19)),
oo 4 (.mov (T 20))]
@[simp] def a9f_r5 :LO:=[oo 21 (.fa 0 (T 1)),
oo 22 (.ld (T 21) none),
oo 23 (.len (T 22)),
oo 24 (.mov (K 0))]
@[simp] def a9f_r6 :LO:=[oo 25 (.bin .lss (T 24) (T 23))]
@[simp] def a9f_r7 :LO:=[oo 26 (.mov (T 24)),
oo 5 (.mov (T 26))]
@[simp] def a9f_r8 :LO:=[oo 27 (.mov (T 4)),
oo 28 (.mov (T 5)),
oo 29 (.call n_a0g [(T 27), (T 28)])]
@[simp] def a9f_r9 :LO:=[oo 30 (.bin .add (T 24) (K 1)),
oo 24 (.mov (T 30))]
def a9f_l10 : VCode :=
 (.seq (.reg a9f_r6) (.seq (.cond (T 25) .skip (.exit 0)) (.seq (.block 1 (.seq (.reg a9f_r7) (.reg a9f_r8))) (.reg a9f_r9))))
@[simp] def a9f_r11 :LO:=[oo 31 (.mkmap (false, [.i .i64], false)),
oo 6 (.mov (T 31))]
@[simp] def a9f_r12 :LO:=[oo 32 (.mov (T 3)),
oo 33 (.call n_a6a [(T 32)]),
oo 34 (.len (T 33)),
oo 35 (.mov (K 0))]
@[simp] def a9f_r13 :LO:=[oo 36 (.bin .lss (T 35) (T 34))]
@[simp] def a9f_r14 :LO:=[oo 37 (.ia 1 (T 33) (T 35)),
oo 38 (.ld (T 37) none),
oo 8 (.mov (T 38))]
@[simp] def a9f_r15 :LO:=[oo 39 (.mov (T 6)),
oo 40 (.mov (T 8)),
on (.mset (false, [.i .i64], false) (T 39) (T 40) (K 1))]
@[simp] def a9f_r16 :LO:=[oo 41 (.bin .add (T 35) (K 1)),
oo 35 (.mov (T 41))]
def a9f_l17 : VCode :=
 (.seq (.reg a9f_r13) (.seq (.cond (T 36) .skip (.exit 2)) (.seq (.block 3 (.seq (.reg a9f_r14) (.reg a9f_r15))) (.reg a9f_r16))))
@[simp] def a9f_r18 :LO:=[oo 42 (.fa 1 (T 1)),
oo 43 (.ld (T 42) none),
oo 44 (.len (T 43)),
oo 45 (.mov (K 0))]
@[simp] def a9f_r19 :LO:=[oo 46 (.bin .lss (T 45) (T 44))]
@[simp] def a9f_r20 :LO:=[oo 47 (.ia 22 (T 43) (T 45)),
oo 48 (.ld (T 47) (some 22)),
oo 10 (.alloc [zi, zi, zi, zi, zb, zi, zs, zi, zi, zi, .nil 3, zi, zi, zb, zi, zs, zb, zi, zs, .nil 9, .nil 5, zb]),
on (.st (T 10) (T 48) 22)]
@[simp] def a9f_r21 :LO:=[oo 50 (.mov (T 6)),
oo 51 (.fa 0 (T 10)),
oo 52 (.ld (T 51) none),
oo 53 (.lkp (false, [.i .i64], false) [zi] (T 50) (T 52) false),
oo 54 (.bin .eql (T 53) (K 0)),
oo 49 (.mov (T 54))]
@[simp] def a9f_r22 :LO:=[oo 56 (.fa 1 (T 10)),
oo 57 (.ld (T 56) none),
oo 58 (.bin .eql (T 57) (K 2)),
oo 55 (.mov (T 58))]
@[simp] def a9f_r23 :LO:=[oo 59 (.mov (T 4)),
oo 60 (.ld (T 10) (some 22)),
oo 61 (.call n_a2g [(T 59), (T 60)])]
@[simp] def a9f_r24 :LO:=[oo 63 (.fa 1 (T 10)),
oo 64 (.ld (T 63) none),
oo 65 (.bin .eql (T 64) (K 4)),
oo 62 (.mov (T 65))]
@[simp] def a9f_r25 :LO:=[oo 66 (.mov (T 4)),
oo 67 (.ld (T 10) (some 22)),
oo 68 (.call n_a3g [(T 66), (T 67)])]
@[simp] def a9f_r26 :LO:=[oo 69 (.bin .add (T 45) (K 1)),
oo 45 (.mov (T 69))]
def a9f_l27 : VCode :=
 (.seq (.reg a9f_r19) (.seq (.cond (T 46) .skip (.exit 4)) (.seq (.block 5 (.seq (.reg a9f_r20) (.block 6 (.seq (.reg a9f_r21) (.cond (T 49) .skip (.seq (.reg a9f_r22) (.cond (T 55) (.reg a9f_r23) (.seq (.reg a9f_r24) (.cond (T 62) (.reg a9f_r25) .skip))))))))) (.reg a9f_r26))))
@[simp] def a9f_r28 :LO:=[oo 70 (.mov (T 4)),
oo 71 (.chk (T 70)),
oo 72 (.fa 4 (T 71)),
oo 73 (.ld (T 72) none),
oo 74 (.call n_a5g [(T 73)]),
oo 75 (.call n_a4g [(T 74)]),
oo 11 (.mov (T 75))]
@[simp] def a9f_r29 :LO:=[oo 76 (.mov (T 11)),
oo 77 (.call n_a4h [(T 76), (.func n_a7g)])]
@[simp] def a9f_r30 :LO:=[oo 78 (.mov (T 11)),
oo 2 (.mov (T 78))]
def a9f : VCode := (.seq (.reg a9f_r0) (.seq (.reg a9f_r1) (.seq (.seq (.reg a9f_r2) (.cond (T 15) (.seq (.reg a9f_r3) .ret) .skip)) (.seq (.reg a9f_r4) (.seq (.seq (.reg a9f_r5) (.block 0 (.loop a9f_l10))) (.seq (.reg a9f_r11) (.seq (.seq (.reg a9f_r12) (.block 2 (.loop a9f_l17))) (.seq (.seq (.reg a9f_r18) (.block 4 (.loop a9f_l27))) (.seq (.reg a9f_r28) (.seq (.reg a9f_r29) (.seq (.reg a9f_r30) .ret)))))))))))
theorem a9f_is : fnV prog n_a9f = some (79, a9f, [.tmp 2]) := by kernel_rfl
@[simp] def a0g_r0 :LO:=[oo 2 (.box (T 0)),
oo 3 (.box (T 1))]
@[simp] def a0g_r1 :LO:=[oo 7 (.ld (T 2) none),
oo 8 (.ld (T 3) none),
oo 9 (.call n_a9g [(T 7), (T 8)])]
@[simp] def a0g_r2 :LO:=[oo 4 (.alloc [zb, zi, zs]),
on (.st (T 4) (T 10) 3)]
@[simp] def a0g_r3 :LO:=[oo 5 (.mov (T 11))]
@[simp] def a0g_r4 :LO:=[oo 6 (.mov (K 2))]
@[simp] def a0g_r5 :LO:=[oo 12 (.mov (T 6)),
oo 13 (.mov (T 5)),
oo 14 (.len (T 13)),
oo 15 (.bin .lss (T 12) (T 14))]
@[simp] def a0g_t6 : VT :=
 oc 18 (.ld (T 2) none) <|
oc 19 (.mov (T 5)) <|
oc 20 (.mov (T 6)) <|
oc 21 (.bin .sub (T 20) (K 1)) <|
oc 22 (.ia 2 (T 19) (T 21)) <|
oc 23 (.fa 0 (T 22)) <|
oc 24 (.ld (T 23) none) <|
oc 25 (.mov (T 5)) <|
oc 26 (.mov (T 6)) <|
oc 27 (.ia 2 (T 25) (T 26)) <|
oc 28 (.fa 0 (T 27)) <|
oc 29 (.ld (T 28) none) <|
oc 30 (.ld (T 3) none) <|
oc 31 (.ld (T 4) (some 3)) <|
oc 32 (.build [zi, zi, zi, zi, zb, zi, zs, zb] [(0, 1, (T 24)), (1, 1, (T 29)), (2, 1, (K 1)), (3, 1, (T 30)), (4, 3, (T 31))]) <|
oc 33 (.call n_a0h [(T 18), (T 32)]) <|
.done
@[simp] def a0g_r7 :LO:=[oo 16 (.mov (T 6)),
oo 17 (.bin .add (T 16) (K 1)),
oo 6 (.mov (T 17))]
def a0g_l8 : VCode :=
 (.seq (.seq (.reg a0g_r5) (.cond (T 15) .skip (.exit 2))) (.seq (.block 3 (.any a0g_t6)) (.reg a0g_r7)))
def a0g_a9 : VCode :=
 (.seq (.reg a0g_r2) (.reg a0g_r3))
def a0g_b10 : VCode :=
 (.block 1 (.seq (.reg a0g_r4) (.block 2 (.loop a0g_l8))))
def a1g_writes : VCode := (.seq (.reg a0g_r0) (.seq (.reg a0g_r1) (.block 0 (.rng (T 9) [10, 11] a0g_a9 a0g_b10))))
theorem a0g_is : fnV prog n_a0g = some (34, a1g_writes, []) := by kernel_rfl
@[simp] def a2g_r0 :LO:=[oo 3 (.box (T 1))]
@[simp] def a2g_t1 : VT :=
 oc 6 (.mov (T 0)) <|
oc 7 (.chk (T 6)) <|
oc 8 (.fa 3 (T 7)) <|
oc 9 (.ld (T 8) none) <|
oc 10 (.fa 3 (T 3)) <|
oc 11 (.ld (T 10) none) <|
oc 12 (.fa 4 (T 3)) <|
oc 13 (.ld (T 12) (some 3)) <|
oc 14 (.fa 7 (T 3)) <|
oc 15 (.ld (T 14) (some 2)) <|
oc 16 (.call n_a6b [(T 9), (T 11), (T 13), (T 15)]) <|
oc 4 (.mov (T 16)) <|
.done
@[simp] def a2g_t2 : VT :=
 oc 17 (.mov (T 0)) <|
oc 18 (.chk (T 17)) <|
oc 19 (.fa 3 (T 18)) <|
oc 20 (.ld (T 19) none) <|
oc 21 (.fa 3 (T 3)) <|
oc 22 (.ld (T 21) none) <|
oc 23 (.fa 4 (T 3)) <|
oc 24 (.ld (T 23) (some 3)) <|
oc 25 (.call n_a7b [(T 20), (T 22), (T 24)]) <|
oc 5 (.mov (T 25)) <|
.done
@[simp] def a2g_r3 :LO:=[oo 26 (.mov (T 4)),
oo 27 (.bin .gtr (T 26) (K 0))]
@[simp] def a2g_r4 :LO:=[oo 28 (.mov (T 0)),
oo 29 (.fa 7 (T 3)),
oo 30 (.fa 0 (T 29)),
oo 31 (.ld (T 30) none),
oo 32 (.fa 0 (T 3)),
oo 33 (.ld (T 32) none),
oo 34 (.fa 3 (T 3)),
oo 35 (.ld (T 34) none),
oo 36 (.fa 4 (T 3)),
oo 37 (.ld (T 36) (some 3)),
oo 38 (.fa 21 (T 3)),
oo 39 (.ld (T 38) none),
oo 40 (.build [zi, zi, zi, zi, zb, zi, zs, zb] [(0, 1, (T 31)), (1, 1, (T 33)), (2, 1, (K 2)), (3, 1, (T 35)), (4, 3, (T 37)), (7, 1, (T 39))]),
oo 41 (.call n_a0h [(T 28), (T 40)])]
@[simp] def a2g_r5 :LO:=[oo 42 (.mov (T 4)),
oo 43 (.bin .geq (T 42) (K 0)),
oo 44 (.mov (T 43)),
og 45 44 true (.mov (T 4)),
og 46 44 true (.bin .add (T 45) (K 1)),
og 47 44 true (.mov (T 5)),
og 48 44 true (.len (T 47)),
og 49 44 true (.bin .lss (T 46) (T 48)),
oo 50 (.pick (T 44) (T 49) (B false)),
oo 51 (.mov (T 50)),
og 52 51 true (.fa 7 (T 3)),
og 53 51 true (.fa 0 (T 52)),
og 54 51 true (.ld (T 53) none),
og 55 51 true (.fa 0 (T 3)),
og 56 51 true (.ld (T 55) none),
og 57 51 true (.bin .neq (T 54) (T 56)),
oo 58 (.pick (T 51) (T 57) (B false))]
@[simp] def a2g_t6 : VT :=
 oc 59 (.mov (T 0)) <|
oc 60 (.fa 0 (T 3)) <|
oc 61 (.ld (T 60) none) <|
oc 62 (.mov (T 5)) <|
oc 63 (.mov (T 4)) <|
oc 64 (.bin .add (T 63) (K 1)) <|
oc 65 (.ia 2 (T 62) (T 64)) <|
oc 66 (.fa 0 (T 65)) <|
oc 67 (.ld (T 66) none) <|
oc 68 (.fa 3 (T 3)) <|
oc 69 (.ld (T 68) none) <|
oc 70 (.fa 4 (T 3)) <|
oc 71 (.ld (T 70) (some 3)) <|
oc 72 (.fa 21 (T 3)) <|
oc 73 (.ld (T 72) none) <|
oc 74 (.build [zi, zi, zi, zi, zb, zi, zs, zb] [(0, 1, (T 61)), (1, 1, (T 67)), (2, 1, (K 4)), (3, 1, (T 69)), (4, 3, (T 71)), (7, 1, (T 73))]) <|
oc 75 (.call n_a0h [(T 59), (T 74)]) <|
.done
def a1g_read : VCode := (.seq (.reg a2g_r0) (.seq (.any a2g_t1) (.seq (.any a2g_t2) (.seq (.seq (.reg a2g_r3) (.cond (T 27) (.reg a2g_r4) .skip)) (.seq (.reg a2g_r5) (.cond (T 58) (.any a2g_t6) .skip))))))
theorem a2g_is : fnV prog n_a2g = some (76, a1g_read, []) := by kernel_rfl
@[simp] def a3g_r0 :LO:=[oo 2 (.box (T 0)),
oo 3 (.box (T 1))]
@[simp] def a3g_r1 :LO:=[oo 12 (.mkmap (true, [.b, .i .i64, .s], true)),
oo 4 (.alloc [.iv (.v (.map none))]),
on (.st (T 4) (T 12) 1)]
@[simp] def a3g_r2 :LO:=[oo 13 (.fa 20 (T 3)),
oo 14 (.ld (T 13) none),
oo 15 (.len (T 14)),
oo 16 (.mov (K 0))]
@[simp] def a3g_r3 :LO:=[oo 17 (.bin .lss (T 16) (T 15))]
@[simp] def a3g_r4 :LO:=[oo 18 (.ia 5 (T 14) (T 16)),
oo 19 (.ld (T 18) (some 5)),
oo 6 (.alloc [zb, zi, zs, zi, zi]),
on (.st (T 6) (T 19) 5)]
@[simp] def a3g_r5 :LO:=[oo 20 (.ld (T 4) none),
oo 21 (.fa 0 (T 6)),
oo 22 (.ld (T 21) (some 3)),
oo 23 (.fa 3 (T 6)),
oo 24 (.ld (T 23) (some 2)),
on (.mset (true, [.b, .i .i64, .s], true) (T 20) (T 22) (T 24))]
@[simp] def a3g_r6 :LO:=[oo 25 (.bin .add (T 16) (K 1)),
oo 16 (.mov (T 25))]
def a3g_l7 : VCode :=
 (.seq (.reg a3g_r3) (.seq (.cond (T 17) .skip (.exit 0)) (.seq (.block 1 (.seq (.reg a3g_r4) (.reg a3g_r5))) (.reg a3g_r6))))
@[simp] def a3g_r8 :LO:=[oo 26 (.ld (T 2) none),
oo 27 (.fa 3 (T 3)),
oo 28 (.ld (T 27) none),
oo 29 (.call n_a9g [(T 26), (T 28)])]
@[simp] def a3g_r9 :LO:=[oo 7 (.alloc [zb, zi, zs]),
on (.st (T 7) (T 30) 3)]
@[simp] def a3g_r10 :LO:=[oo 8 (.mov (T 31))]
@[simp] def a3g_r11 :LO:=[oo 32 (.ld (T 4) none),
oo 33 (.ld (T 7) (some 3)),
oo 34 (.lkp (true, [.b, .i .i64, .s], true) [zi, zi] (T 32) (T 33) false),
oo 9 (.alloc [zi, zi]),
on (.st (T 9) (T 34) 2)]
@[simp] def a3g_t12 : VT :=
 oc 35 (.ld (T 2) none) <|
oc 36 (.chk (T 35)) <|
oc 37 (.fa 3 (T 36)) <|
oc 38 (.ld (T 37) none) <|
oc 39 (.fa 3 (T 3)) <|
oc 40 (.ld (T 39) none) <|
oc 41 (.ld (T 7) (some 3)) <|
oc 42 (.ld (T 9) (some 2)) <|
oc 43 (.call n_a6b [(T 38), (T 40), (T 41), (T 42)]) <|
oc 10 (.mov (T 43)) <|
.done
@[simp] def a3g_r13 :LO:=[oo 44 (.mov (T 10)),
oo 45 (.bin .lss (T 44) (K 0)),
oo 46 (.mov (T 45)),
og 47 46 false (.fa 0 (T 9)),
og 48 46 false (.ld (T 47) none),
og 49 46 false (.fa 0 (T 3)),
og 50 46 false (.ld (T 49) none),
og 51 46 false (.bin .eql (T 48) (T 50)),
oo 52 (.pick (T 46) (B true) (T 51))]
@[simp] def a3g_r14 :LO:=[oo 53 (.mov (T 8)),
oo 54 (.len (T 53)),
oo 55 (.mov (K 0))]
@[simp] def a3g_r15 :LO:=[oo 56 (.bin .lss (T 55) (T 54))]
@[simp] def a3g_r16 :LO:=[oo 57 (.mov (T 55)),
oo 11 (.mov (T 57))]
@[simp] def a3g_t17 : VT :=
 oc 72 (.ld (T 2) none) <|
oc 73 (.chk (T 72)) <|
oc 74 (.fa 3 (T 73)) <|
oc 75 (.ld (T 74) none) <|
oc 76 (.fa 3 (T 3)) <|
oc 77 (.ld (T 76) none) <|
oc 78 (.ld (T 7) (some 3)) <|
oc 79 (.mov (T 11)) <|
oc 80 (.fa 11 (T 3)) <|
oc 81 (.ld (T 80) (some 9)) <|
oc 82 (.call n_a8b [(T 75), (T 77), (T 78), (T 79), (T 81)]) <|
oc 83 (.un .not (T 82)) <|
oc 71 (.mov (T 83)) <|
.done
@[simp] def a3g_r18 :LO:=[oo 85 (.mov (T 11)),
oo 86 (.mov (T 10)),
oo 87 (.bin .leq (T 85) (T 86)),
oo 84 (.mov (T 87))]
@[simp] def a3g_t19 : VT :=
 oc 88 (.ld (T 2) none) <|
oc 89 (.mov (T 8)) <|
oc 90 (.mov (T 11)) <|
oc 91 (.ia 2 (T 89) (T 90)) <|
oc 92 (.fa 0 (T 91)) <|
oc 93 (.ld (T 92) none) <|
oc 94 (.fa 0 (T 3)) <|
oc 95 (.ld (T 94) none) <|
oc 96 (.fa 3 (T 3)) <|
oc 97 (.ld (T 96) none) <|
oc 98 (.ld (T 7) (some 3)) <|
oc 99 (.build [zi, zi, zi, zi, zb, zi, zs, zb] [(0, 1, (T 93)), (1, 1, (T 95)), (2, 1, (K 3)), (3, 1, (T 97)), (4, 3, (T 98))]) <|
oc 100 (.call n_a0h [(T 88), (T 99)]) <|
.done
@[simp] def a3g_t20 : VT :=
 oc 58 (.ld (T 2) none) <|
oc 59 (.fa 0 (T 3)) <|
oc 60 (.ld (T 59) none) <|
oc 61 (.mov (T 8)) <|
oc 62 (.mov (T 11)) <|
oc 63 (.ia 2 (T 61) (T 62)) <|
oc 64 (.fa 0 (T 63)) <|
oc 65 (.ld (T 64) none) <|
oc 66 (.fa 3 (T 3)) <|
oc 67 (.ld (T 66) none) <|
oc 68 (.ld (T 7) (some 3)) <|
oc 69 (.build [zi, zi, zi, zi, zb, zi, zs, zb] [(0, 1, (T 60)), (1, 1, (T 65)), (2, 1, (K 5)), (3, 1, (T 67)), (4, 3, (T 68))]) <|
oc 70 (.call n_a0h [(T 58), (T 69)]) <|
.done
@[simp] def a3g_r21 :LO:=[oo 101 (.bin .add (T 55) (K 1)),
oo 55 (.mov (T 101))]
def a3g_l22 : VCode :=
 (.seq (.reg a3g_r15) (.seq (.cond (T 56) .skip (.exit 4)) (.seq (.block 5 (.seq (.reg a3g_r16) (.block 6 (.seq (.any a3g_t17) (.cond (T 71) .skip (.seq (.reg a3g_r18) (.cond (T 84) (.any a3g_t19) (.any a3g_t20)))))))) (.reg a3g_r21))))
def a3g_a23 : VCode :=
 (.seq (.reg a3g_r9) (.reg a3g_r10))
def a3g_b24 : VCode :=
 (.block 3 (.seq (.reg a3g_r11) (.seq (.any a3g_t12) (.seq (.seq (.reg a3g_r13) (.cond (T 52) (.exit 3) .skip)) (.seq (.reg a3g_r14) (.block 4 (.loop a3g_l22)))))))
def a1g_saw : VCode := (.seq (.reg a3g_r0) (.seq (.reg a3g_r1) (.seq (.seq (.reg a3g_r2) (.block 0 (.loop a3g_l7))) (.seq (.reg a3g_r8) (.block 2 (.rng (T 29) [30, 31] a3g_a23 a3g_b24))))))
theorem a3g_is : fnV prog n_a3g = some (102, a1g_saw, []) := by kernel_rfl
@[simp] def a4g_r0 :LO:=[oo 2 (.nils 8)]
@[simp] def a4g_r1 :LO:=[oo 3 (.mov (T 0)),
oo 4 (.call n_a1h [(.const (.slice none 0 0)), (T 3)]),
oo 2 (.mov (T 4))]
def a4g : VCode := (.seq (.reg a4g_r0) (.seq (.reg a4g_r1) .ret))
theorem a4g_is : fnV prog n_a4g = some (5, a4g, [.tmp 2]) := by kernel_rfl
@[simp] def a5g_r0 :LO:=[oo 1 (.box (T 0)),
oo 2 (.mov (.const .nilFunc))]
@[simp] def a5g_r1 :LO:=[oo 3 (.mkfn n_a2h [] [(T 1)]),
oo 2 (.mov (T 3))]
def a6g_int : VCode := (.seq (.reg a5g_r0) (.seq (.reg a5g_r1) .ret))
theorem a5g_is : fnV prog n_a5g = some (4, a6g_int, [.tmp 2]) := by kernel_rfl
@[simp] def a7g_r0 :LO:=[oo 2 (.box (T 0)),
oo 3 (.box (T 1)),
oo 4 (.mov (K 0))]
@[simp] def a7g_r1 :LO:=[oo 6 (.ld (T 2) (some 8)),
oo 7 (.ld (T 3) (some 8)),
oo 8 (.call n_a8g [(T 6), (T 7)]),
oo 5 (.mov (T 8))]
@[simp] def a7g_r2 :LO:=[oo 9 (.mov (T 5)),
oo 10 (.bin .neq (T 9) (K 0)),
oo 11 (.mov (T 10)),
og 12 11 false (.fa 7 (T 2)),
og 13 11 false (.ld (T 12) none),
og 14 11 false (.fa 7 (T 3)),
og 15 11 false (.ld (T 14) none),
og 16 11 false (.beq false (T 13) (T 15)),
oo 17 (.pick (T 11) (B true) (T 16))]
@[simp] def a7g_r3 :LO:=[oo 18 (.mov (T 5)),
oo 4 (.mov (T 18))]
@[simp] def a7g_r4 :LO:=[oo 19 (.fa 7 (T 3)),
oo 20 (.ld (T 19) none)]
@[simp] def a7g_r5 :LO:=[oo 4 (.mov (K (-1)))]
@[simp] def a7g_r6 :LO:=[oo 4 (.mov (K 1))]
def a7g : VCode := (.seq (.reg a7g_r0) (.seq (.seq (.reg a7g_r1) (.seq (.reg a7g_r2) (.cond (T 17) (.seq (.reg a7g_r3) .ret) .skip))) (.seq (.seq (.reg a7g_r4) (.cond (T 20) (.seq (.reg a7g_r5) .ret) .skip)) (.seq (.reg a7g_r6) .ret))))
theorem a7g_is : fnV prog n_a7g = some (21, a7g, [.tmp 4]) := by kernel_rfl
@[simp] def a8g_r0 :LO:=[oo 2 (.box (T 0)),
oo 3 (.box (T 1)),
oo 4 (.mov (K 0))]
@[simp] def a8g_r1 :LO:=[oo 7 (.fa 0 (T 2)),
oo 8 (.ld (T 7) none),
oo 9 (.fa 0 (T 3)),
oo 10 (.ld (T 9) none),
oo 11 (.bin .sub (T 8) (T 10)),
oo 12 (.fa 1 (T 2)),
oo 13 (.ld (T 12) none),
oo 14 (.fa 1 (T 3)),
oo 15 (.ld (T 14) none),
oo 16 (.bin .sub (T 13) (T 15)),
oo 17 (.fa 2 (T 2)),
oo 18 (.ld (T 17) none),
oo 19 (.fa 2 (T 3)),
oo 20 (.ld (T 19) none),
oo 21 (.bin .sub (T 18) (T 20)),
oo 22 (.fa 3 (T 2)),
oo 23 (.ld (T 22) none),
oo 24 (.fa 3 (T 3)),
oo 25 (.ld (T 24) none),
oo 26 (.bin .sub (T 23) (T 25)),
oo 27 (.build [zi, zi, zi, zi] [(0, 1, (T 11)), (1, 1, (T 16)), (2, 1, (T 21)), (3, 1, (T 26))]),
oo 28 (.mov (K 0))]
@[simp] def a8g_r2 :LO:=[oo 29 (.bin .lss (T 28) (K 4))]
@[simp] def a8g_r3 :LO:=[oo 30 (.ix 4 (T 27) (T 28)),
oo 6 (.mov (T 30))]
@[simp] def a8g_r4 :LO:=[oo 31 (.mov (T 6)),
oo 32 (.bin .neq (T 31) (K 0))]
@[simp] def a8g_r5 :LO:=[oo 33 (.mov (T 6)),
oo 4 (.mov (T 33))]
@[simp] def a8g_r6 :LO:=[oo 34 (.bin .add (T 28) (K 1)),
oo 28 (.mov (T 34))]
def a8g_l7 : VCode :=
 (.seq (.reg a8g_r2) (.seq (.cond (T 29) .skip (.exit 0)) (.seq (.block 1 (.seq (.reg a8g_r3) (.seq (.reg a8g_r4) (.cond (T 32) (.seq (.reg a8g_r5) .ret) .skip)))) (.reg a8g_r6))))
@[simp] def a8g_r8 :LO:=[oo 35 (.fa 4 (T 2)),
oo 36 (.ld (T 35) (some 3)),
oo 37 (.fa 4 (T 3)),
oo 38 (.ld (T 37) (some 3)),
oo 39 (.call n_a2a [(T 36), (T 38)]),
oo 4 (.mov (T 39))]
def b5s : VCode := (.seq (.reg a8g_r0) (.seq (.seq (.reg a8g_r1) (.block 0 (.loop a8g_l7))) (.seq (.reg a8g_r8) .ret)))
theorem a8g_is : fnV prog n_a8g = some (40, b5s, [.tmp 4]) := by kernel_rfl
@[simp] def a9g_r0 :LO:=[oo 2 (.box (T 0)),
oo 3 (.box (T 1)),
oo 4 (.mov (.const .nilFunc))]
@[simp] def a9g_r1 :LO:=[oo 5 (.mkfn n_a3h [] [(T 2), (T 3)]),
oo 4 (.mov (T 5))]
def a1g_chains : VCode := (.seq (.reg a9g_r0) (.seq (.reg a9g_r1) .ret))
theorem a9g_is : fnV prog n_a9g = some (6, a1g_chains, [.tmp 4]) := by kernel_rfl
@[simp] def a0h_r0 :LO:=[oo 3 (.box (T 1))]
@[simp] def a0h_r1 :LO:=[oo 4 (.fa 0 (T 3)),
oo 5 (.ld (T 4) none),
oo 6 (.fa 1 (T 3)),
oo 7 (.ld (T 6) none),
oo 8 (.bin .neq (T 5) (T 7))]
@[simp] def a0h_t2 : VT :=
 oc 9 (.mov (T 0)) <|
oc 10 (.chk (T 9)) <|
oc 11 (.fa 4 (T 10)) <|
oc 12 (.ld (T 11) none) <|
oc 13 (.ld (T 3) (some 8)) <|
.op (on (.mset (true, [.i .i64, .i .i64, .i .i64, .i .i64, .b, .i .i64, .s, .b], false) (T 12) (T 13) (K 1))) <|
.done
def a1g_put : VCode := (.seq (.reg a0h_r0) (.seq (.reg a0h_r1) (.cond (T 8) (.any a0h_t2) .skip)))
theorem a0h_is : fnV prog n_a0h = some (14, a1g_put, []) := by kernel_rfl
@[simp] def a1h_r0 :LO:=[oo 2 (.box (T 0)),
oo 4 (.nils 8)]
@[simp] def a1h_r1 :LO:=[oo 6 (.mov (T 1))]
@[simp] def a1h_r2 :LO:=[oo 5 (.alloc [zi, zi, zi, zi, zb, zi, zs, zb]),
on (.st (T 5) (T 7) 8)]
@[simp] def a1h_r3 :LO:=[oo 8 (.ld (T 2) none),
oo 9 (.ld (T 5) (some 8)),
oo 10 (.lit 8 1 [(0, (T 9))]),
oo 11 (.app 8 72 (T 8) (T 10)),
on (.st (T 2) (T 11) 1)]
def a1h_a4 : VCode :=
 (.reg a1h_r2)
def a1h_b5 : VCode :=
 (.block 1 (.reg a1h_r3))
@[simp] def a1h_r6 :LO:=[oo 12 (.ld (T 2) none),
oo 4 (.mov (T 12))]
def a1h : VCode := (.seq (.reg a1h_r0) (.seq (.seq (.reg a1h_r1) (.block 0 (.rng (T 6) [7] a1h_a4 a1h_b5))) (.seq (.reg a1h_r6) .ret)))
theorem a1h_is : fnV prog n_a1h = some (13, a1h, [.tmp 4]) := by kernel_rfl
@[simp] def a2h_r0 :LO:=[oo 4 (.ld (T 1) none),
oo 5 (.rng (true, [.i .i64, .i .i64, .i .i64, .i .i64, .b, .i .i64, .s, .b], false) (T 4))]
@[simp] def a2h_r1 :LO:=[oo 6 (.nxt (T 5)),
oo 7 (.ext 0 (T 6))]
@[simp] def a2h_r2 :LO:=[oo 8 (.ent (T 5)),
oo 9 (.ext 0 (T 8)),
oo 3 (.alloc [zi, zi, zi, zi, zb, zi, zs, zb]),
on (.st (T 3) (T 9) 8)]
@[simp] def a2h_r3 :LO:=[oo 10 (.mov (T 0)),
oo 11 (.ld (T 3) (some 8)),
oo 12 (.callv (T 10) [(T 11)]),
oo 13 (.un .not (T 12))]
def a2h_l4 : VCode :=
 (.seq (.reg a2h_r1) (.seq (.cond (T 7) .skip (.exit 0)) (.block 1 (.seq (.reg a2h_r2) (.seq (.reg a2h_r3) (.cond (T 13) .ret .skip))))))
def a2h : VCode := (.seq (.reg a2h_r0) (.block 0 (.loop a2h_l4)))
theorem a2h_is : fnV prog n_a2h = some (14, a2h, []) := by kernel_rfl
@[simp] def a3h_r0 :LO:=[oo 6 (.ld (T 1) none),
oo 7 (.chk (T 6)),
oo 8 (.fa 0 (T 7)),
oo 9 (.fa 2 (T 8)),
oo 10 (.ld (T 9) none),
oo 11 (.len (T 10)),
oo 12 (.mov (K 0))]
@[simp] def a3h_r1 :LO:=[oo 13 (.bin .lss (T 12) (T 11))]
@[simp] def a3h_r2 :LO:=[oo 14 (.ia 5 (T 10) (T 12)),
oo 15 (.ld (T 14) (some 5)),
oo 5 (.alloc [zi, zb, zi, zs, .nil 1]),
on (.st (T 5) (T 15) 5)]
@[simp] def a3h_s0 : VT :=
 .op (og 23 20 true (.ld (T 22) (some 3))) <|
.op (og 31 20 true (.call n_a7b [(T 27), (T 28), (T 30)])) <|
.op (og 32 20 true (.callv (T 21) [(T 23), (T 31)])) <|
.op (og 33 20 true (.un .not (T 32))) <|
oc 34 (.pick (T 20) (T 33) (B false)) <|
.done
@[simp] def a3h_s1 : VT :=
 .op (og 31 20 true (.call n_a7b [(T 27), (T 28), (T 30)])) <|
.op (og 23 20 true (.ld (T 22) (some 3))) <|
.op (og 32 20 true (.callv (T 21) [(T 23), (T 31)])) <|
.op (og 33 20 true (.un .not (T 32))) <|
oc 34 (.pick (T 20) (T 33) (B false)) <|
.done
@[simp] def a3h_t3 : VT :=
 oc 16 (.fa 0 (T 5)) <|
oc 17 (.ld (T 16) none) <|
oc 18 (.ld (T 2) none) <|
oc 19 (.bin .eql (T 17) (T 18)) <|
oc 20 (.mov (T 19)) <|
.op (og 21 20 true (.mov (T 0))) <|
.op (og 22 20 true (.fa 1 (T 5))) <|
.op (og 24 20 true (.ld (T 1) none)) <|
.op (og 25 20 true (.chk (T 24))) <|
.op (og 26 20 true (.fa 3 (T 25))) <|
.op (og 27 20 true (.ld (T 26) none)) <|
.op (og 28 20 true (.ld (T 2) none)) <|
.op (og 29 20 true (.fa 1 (T 5))) <|
.op (og 30 20 true (.ld (T 29) (some 3))) <|
.alt (a3h_s0) (a3h_s1)
@[simp] def a3h_r4 :LO:=[oo 35 (.bin .add (T 12) (K 1)),
oo 12 (.mov (T 35))]
def a3h_l5 : VCode :=
 (.seq (.reg a3h_r1) (.seq (.cond (T 13) .skip (.exit 0)) (.seq (.block 1 (.seq (.reg a3h_r2) (.seq (.any a3h_t3) (.cond (T 34) .ret .skip)))) (.reg a3h_r4))))
def a3h : VCode := (.seq (.reg a3h_r0) (.block 0 (.loop a3h_l5)))
theorem a3h_is : fnV prog n_a3h = some (36, a3h, []) := by kernel_rfl
end Go.Rt
end

section
namespace Go.Vm
theorem b1R {P : Program} {d : Nat} {f : FuncId} {pre post : List CapV} {ops : List Operand} {y : Option Operand} {s : St} {K K' : St → AV → Prop} (hK : ∀ s x, K s x → K' s x)
   (h : b5K P d f pre ops post y s K) : b5K P d f pre ops post y s K' := by
 unfold b5K at *
 obtain ⟨s0, h0, fr, H, R, s1, a, b, as1, d, c, k⟩ := h
 exact ⟨s0, h0, fr, H, R, s1, a, b, as1, d, c, fun r K e => hK _ _ (k r K e)⟩
theorem b2R {P : Program} {l : Nat} {ops : List Operand} {s : St} {K K' : St → AV → Prop} (hK : ∀ s x, K s x → K' s x) (h : b1K P l ops s K) : b1K P l ops s K' := by
 obtain ⟨s1, g, Z, b, Z', xs, h1, h2, h3, h4, h5⟩ := h
 exact ⟨s1, g, Z, b, Z', xs, h1, h2, h3, h4, hK _ _ h5⟩
theorem b3R {P : Program} {d : Nat} {s : St} {K K' : St → AV → Prop} (hK : ∀ s x, K s x → K' s x) (r : Rhs) : stp P d s K r → stp P d s K' r := by
 unfold stp
 repeat' split
 all_goals intro h
 all_goals first
   | exact hK _ _ h
   | exact h.elim
   | exact ⟨h.1, hK _ _ h.2⟩
   | exact ⟨h.1, h.2.1, hK _ _ h.2.2⟩
   | exact ⟨h.1, h.2.1, h.2.2.1, hK _ _ h.2.2.2⟩
   | exact ⟨h.1, h.2.1, h.2.2.1, h.2.2.2.1, hK _ _ h.2.2.2.2⟩
   | exact ⟨h.1, h.2.1, h.2.2.1, h.2.2.2.1, h.2.2.2.2.1, hK _ _ h.2.2.2.2.2⟩
   | exact ⟨h.1, h.2.1, h.2.2.1, h.2.2.2.1, h.2.2.2.2.1, h.2.2.2.2.2.1, hK _ _ h.2.2.2.2.2.2⟩
   | exact ⟨h.1, h.2.1, h.2.2.1, h.2.2.2.1, h.2.2.2.2.1, h.2.2.2.2.2.1, h.2.2.2.2.2.2.1, hK _ _ h.2.2.2.2.2.2.2⟩
   | exact ⟨h.1, h.2.1, h.2.2.1, h.2.2.2.1, h.2.2.2.2.1, h.2.2.2.2.2.1, h.2.2.2.2.2.2.1, h.2.2.2.2.2.2.2.1, hK _ _ h.2.2.2.2.2.2.2.2⟩
   | exact fun b hb => hK _ _ (h b hb)
   | exact fun c hc => hK _ _ (h c hc)
   | exact ⟨h.1, h.2.1, fun n => hK _ _ (h.2.2 n)⟩
   | exact ⟨h.1, fun L a b c => hK _ _ (h.2 L a b c)⟩
   | exact ⟨fun e => hK _ _ (h.1 e), fun k c a b e => hK _ _ (h.2 k c a b e)⟩
   | exact b1R hK h
   | exact ⟨h.1, b1R hK h.2⟩
   | exact ⟨h.1, h.2.1, b2R hK h.2.2⟩
   | exact ⟨h.1, h.2.1, h.2.2.1, b1R hK h.2.2.2⟩
   | exact h
theorem b4R {P : Program} : ∀ {l : List VOp} {s : St} {K K' : St → Prop}, (∀ s, K s → K' s) → vops P l s K → vops P l s K'
 | [], s, K, K', hK, h => hK _ h
 | o :: r, s, K, K', hK, h => b3Y (fun _ h => b4R hK h) (fun _ _ _ _ hK _ => b3R hK _) h
theorem b5R {P : Program} : ∀ {t : VT} {s : St} {K K' : St → Prop}, (∀ s, K s → K' s) → c4B P t s K → c4B P t s K'
 | .done, s, K, K', hK, h => hK _ h
 | .op o t, s, K, K', hK, h => b3Y (fun _ h => b5R hK h) (fun _ _ _ _ hK _ => b3R hK _) h
 | .alt a b, s, K, K', hK, h => ⟨b5R hK h.1, b5R hK h.2⟩
theorem b6R {P : Program} (c : VCode) : ∀ {s : St} {O O' : Outs}, (∀ s, O.n s → O'.n s) → (∀ i s, O.x i s → O'.x i s) → (∀ s, O.r s → O'.r s) → (∀ i s, O.g i s → O'.g i s) → wpV P c s O → wpV P c s O' := by
 induction c with
 | skip => exact fun hn hx hr hg h => hn _ h
 | reg ops => exact fun hn hx hr hg h => b4R hn h
 | any t => exact fun hn hx hr hg h => b5R hn h
 | seq a b iha ihb =>
   intro s O O' hn hx hr hg h
   exact iha (O := { O with n := fun s' => wpV P b s' O }) (O' := { O' with n := fun s' => wpV P b s' O' }) (fun _ h => ihb hn hx hr hg h) hx hr hg h
 | cond x t e iht ihe =>
   intro s O O' hn hx hr hg h
   simp only [wpV] at h ⊢
   split at h
   · exact ⟨fun hb => iht hn hx hr hg (h.1 hb), fun hb => ihe hn hx hr hg (h.2 hb)⟩
   · exact h.elim
 | block id c ih =>
   intro s O O' hn hx hr hg h
   refine ih (O := { O with x := fun j s' => if j = id then O.n s' else O.x j s' }) (O' := { O' with x := fun j s' => if j = id then O'.n s' else O'.x j s' }) hn (fun i s h => ?_) hr hg h
   simp only at h ⊢
   split
   · rw [if_pos (by assumption)] at h; exact hn _ h
   · rw [if_neg (by assumption)] at h; exact hx _ _ h
 | loop c ih =>
   intro s O O' hn hx hr hg h
   obtain ⟨I, hi, h⟩ := h
   exact ⟨I, hi, fun k s' hs => ih (O := { O with n := fun s2 => ∃ m s3, m < k ∧ Le s2 s3 ∧ I m s3 }) (O' := { O' with n := fun s2 => ∃ m s3, m < k ∧ Le s2 s3 ∧ I m s3 }) (fun _ h => h) hx hr hg (h k s' hs)⟩
 | exit id => exact fun hn hx hr hg h => hx _ _ h
 | ret => exact fun hn hx hr hg h => hr _ h
 | goto l => exact fun hn hx hr hg h => hg _ _ h
 | scope c ih =>
   intro s O O' hn hx hr hg h
   exact ih (O := { O with g := fun _ _ => False }) (O' := { O' with g := fun _ _ => False }) hn hx hr (fun _ _ h => h) h
 | scopeL c l r ihc ihr =>
   intro s O O' hn hx hr hg h
   exact ihc (O := { O with g := fun l' s' => l' = l ∧ wpV P r s' { O with g := fun _ _ => False } }) (O' := { O' with g := fun l' s' => l' = l ∧ wpV P r s' { O' with g := fun _ _ => False } }) hn hx hr
     (fun _ _ h => ⟨h.1, ihr (O := { O with g := fun _ _ => False }) (O' := { O' with g := fun _ _ => False }) hn hx hr (fun _ _ h => h) h.2⟩) h
 | rng g ps x y ihx ihy => exact fun hn hx hr hg h => c7N ihx ihy hn hx hr h
end Go.Vm
end

section
namespace Go.Vm
class Tg {α : Type} (x : α) : Type where
 mk ::
instance tg {α : Type} (x : α) : Tg x := ⟨⟩
def a5L (P : Program) (d : Nat) (f : FuncId) (pre : List CapV) (ops : List Operand) (post : List CapV) (y : Option Operand) (s : St) (K : St → AV → Prop) [Tg K] : Prop := b5K P d f pre ops post y s K
def rngW (P : Program) (g : Operand) (ps : List Nat) (x y : VCode) (s : St) (O : Outs) [Tg x] [Tg y] [Tg O] : Prop := rngV P (wpV P x) (wpV P y) g ps s O
def a6L (P : Program) (l : Nat) (ops : List Operand) (s : St) (K : St → AV → Prop) [Tg K] : Prop := b1K P l ops s K
def a7L (P : Program) (c : VCode) (s : St) (O : Outs) [Tg c] [Tg O] : Prop := loopV (wpV P c) s O
def onB (x : AV) (K : Bool → Prop) [Tg K] : Prop := match x with | .iv (.v (.bool b)) => K b | _ => False
def onG (x : AV) (K : Bool → Prop) [Tg K] (U : Prop) : Prop := match x with | .iv (.v (.bool b)) => K b | .un => U | _ => False
def onD (x : AV) (A B : Prop) [Tg A] [Tg B] : Prop := match x with | .iv (.v (.bool b)) => (b = true → A) ∧ (b = false → B) | _ => False
def onH (x : AV) (b : Bool) (A B U : Prop) [Tg A] [Tg B] [Tg U] : Prop := match x with | .iv (.v (.bool c)) => (c = b → A) ∧ (c = !b → B) | .un => U | _ => False
def onSt (s : St) (K : St → Prop) [Tg K] : Prop := K s
def onV (x : AV) (K : Value → Prop) [Tg K] : Prop := match x with | .iv (.v u) => K u | _ => False
def onI (x : AV) (K : Int → Prop) [Tg K] : Prop := match x with | .iv (.v (.int _ m)) => K m | _ => False
def onT (x : AV) (K : ByteArray → Prop) [Tg K] : Prop := match x with | .iv (.v (.string t)) => K t | _ => False
def onS {α : Type} (x : Option α) (K : α → Prop) [Tg K] : Prop := match x with | some y => K y | none => False
def a8L (x : AV) (K : List AV → Prop) [Tg K] : Prop := match x with | .agg cs => K cs | _ => False
def a9L (x : AV) (K : List AV → Prop) [Tg K] : Prop := match x with | .tup cs => K cs | _ => False
def a0M (x : Option Ob) (K : List AV → Prop) [Tg K] : Prop := match x with | some (.box cs) => K cs | _ => False
def a1M (x : Option Ob) (K : Nat → List (List IV) → Prop) [Tg K] : Prop := match x with | some (.list sz xs) => K sz xs | _ => False
def onL2 (x : Option Ob) (K : Nat → List (List IV) → Prop) (K2 : Nat → List (List (List IV)) → Option Nat → Prop) [Tg K] [Tg K2] : Prop := match x with | some (.list sz xs) => K sz xs | some (.listo sz xs hole) => K2 sz xs hole | _ => False
def a2M (x : AV) (K : Nat → Nat → Nat → Nat → Prop) [Tg K] : Prop := match x with | .sl a b c d => K a b c d | _ => False
def a3M (x : Option Ob) (K : Sk → (List Value → Option (List IV)) → Prop) [Tg K] : Prop := match x with | some (.map sk g) => K sk g | _ => False
def a4M (x : Option Ob) (K : Sk → (List Value → Option (List IV)) → Int → List Value → Prop) [Tg K] : Prop := match x with | some (.mapS sk g n k) => K sk g n k | _ => False
def a5M (x : Option Ob) (K : Sk → (List Value → Option (List IV)) → List (List Value) → Option (List Value) → Prop) [Tg K] : Prop := match x with | some (.iter sk g l k) => K sk g l k | _ => False
def a6M (x : AV) (K : Nat → Prop) [Tg K] : Prop := match x with | .mpr id => K id | _ => False
section
variable {P : Program} {d id off : Nat} {s : St} {K : St → AV → Prop} {K1 : St → Prop} {x y : Operand}
@[simp] theorem onB_b {b : Bool} {K : Bool → Prop} : onB (.iv (.v (.bool b))) K ↔ K b := ⟨id, id⟩
@[simp] theorem onG_b {b : Bool} {K : Bool → Prop} {U : Prop} : onG (.iv (.v (.bool b))) K U ↔ K b := ⟨id, id⟩
@[simp] theorem a7M {K : Bool → Prop} {U : Prop} : onG .un K U ↔ U := ⟨id, id⟩
@[simp] theorem onD_t {A B : Prop} : onD (.iv (.v (.bool true))) A B ↔ A := by simp [onD]
@[simp] theorem onD_f {A B : Prop} : onD (.iv (.v (.bool false))) A B ↔ B := by simp [onD]
@[simp low] theorem onD_b {b : Bool} {A B : Prop} : onD (.iv (.v (.bool b))) A B ↔ (b = true → A) ∧ (b = false → B) := ⟨fun h => h, fun h => h⟩
@[simp] theorem a8M {A B U : Prop} : onH (.iv (.v (.bool true))) true A B U ↔ A := by simp [onH]
@[simp] theorem a9M {A B U : Prop} : onH (.iv (.v (.bool true))) false A B U ↔ B := by simp [onH]
@[simp] theorem a0N {A B U : Prop} : onH (.iv (.v (.bool false))) true A B U ↔ B := by simp [onH]
@[simp] theorem a1N {A B U : Prop} : onH (.iv (.v (.bool false))) false A B U ↔ A := by simp [onH]
@[simp] theorem a2N {b : Bool} {A B U : Prop} : onH .un b A B U ↔ U := ⟨fun h => h, fun h => h⟩
@[simp low] theorem onH_t {c : Bool} {A B U : Prop} : onH (.iv (.v (.bool c))) true A B U ↔ (c = true → A) ∧ (c = false → B) := ⟨fun h => h, fun h => h⟩
@[simp low] theorem onH_f {c : Bool} {A B U : Prop} : onH (.iv (.v (.bool c))) false A B U ↔ (c = false → A) ∧ (c = true → B) := ⟨fun h => h, fun h => h⟩
@[simp] theorem onSt_mk {fr : List (Nat × AV)} {hp : Hp} {K : St → Prop} : onSt ⟨fr, hp⟩ K ↔ K ⟨fr, hp⟩ := ⟨fun h => h, fun h => h⟩
@[simp] theorem onV_v {u : Value} {K : Value → Prop} : onV (.iv (.v u)) K ↔ K u := ⟨id, id⟩
@[simp] theorem onI_i {k : IntKind} {m : Int} {K : Int → Prop} : onI (.iv (.v (.int k m))) K ↔ K m := ⟨id, id⟩
@[simp] theorem onT_t {t : ByteArray} {K : ByteArray → Prop} : onT (.iv (.v (.string t))) K ↔ K t := ⟨id, id⟩
@[simp] theorem a3N {α : Type} {a : α} {K : α → Prop} : onS (some a) K ↔ K a := ⟨id, id⟩
@[simp] theorem onS_n {α : Type} {K : α → Prop} : onS none K ↔ False := ⟨id, id⟩
@[simp] theorem a4N {cs : List AV} {K : List AV → Prop} : a8L (.agg cs) K ↔ K cs := ⟨id, id⟩
@[simp] theorem a5N {cs : List AV} {K : List AV → Prop} : a9L (.tup cs) K ↔ K cs := ⟨id, id⟩
@[simp] theorem a6N {cs : List AV} {K : List AV → Prop} : a0M (some (.box cs)) K ↔ K cs := ⟨id, id⟩
@[simp] theorem a7N {sz : Nat} {xs : List (List IV)} {K : Nat → List (List IV) → Prop} : a1M (some (.list sz xs)) K ↔ K sz xs := ⟨id, id⟩
@[simp] theorem a8N {sk g} {K : Sk → (List Value → Option (List IV)) → Prop} : a3M (some (.map sk g)) K ↔ K sk g := ⟨id, id⟩
@[simp] theorem a9N {sk g n k} {K : Sk → (List Value → Option (List IV)) → Int → List Value → Prop} : a4M (some (.mapS sk g n k)) K ↔ K sk g n k := ⟨id, id⟩
@[simp] theorem a0O {sk g l k} {K : Sk → (List Value → Option (List IV)) → List (List Value) → Option (List Value) → Prop} : a5M (some (.iter sk g l k)) K ↔ K sk g l k := ⟨id, id⟩
@[simp] theorem a1O {K : Nat → Prop} : a6M (.mpr id) K ↔ K id := ⟨fun h => h, fun h => h⟩
theorem a2O {x : AV} {K : Bool → Prop} : onB x K ↔ ∃ b, x = .iv (.v (.bool b)) ∧ K b := by
 unfold onB; split <;> simp_all
theorem a3O {x : AV} {K : Value → Prop} : onV x K ↔ ∃ b, x = .iv (.v b) ∧ K b := by
 unfold onV; split <;> simp_all
theorem a4O {x : AV} {K : ByteArray → Prop} : onT x K ↔ ∃ b, x = .iv (.v (.string b)) ∧ K b := by
 unfold onT; split <;> simp_all
theorem a5O {x : AV} {K : List AV → Prop} : a8L x K ↔ ∃ b, x = .agg b ∧ K b := by
 unfold a8L; split <;> simp_all
theorem a6O {x : AV} {K : List AV → Prop} : a9L x K ↔ ∃ b, x = .tup b ∧ K b := by
 unfold a9L; split <;> simp_all
theorem a7O {x : AV} {K : Nat → Prop} : a6M x K ↔ ∃ b, x = .mpr b ∧ K b := by
 unfold a6M; split <;> simp_all
theorem a8O {x : AV} {K : Int → Prop} : onI x K ↔ ∃ k b, x = .iv (.v (.int k b)) ∧ K b := by
 unfold onI; split
 · exact ⟨fun h => ⟨_, _, rfl, h⟩, fun ⟨_, _, e, h⟩ => by cases e; exact h⟩
 · rename_i hn; exact ⟨fun h => h.elim, fun ⟨_, _, e, h⟩ => (hn _ _ e).elim⟩
theorem a9O {α : Type} {x : Option α} {K : α → Prop} : onS x K ↔ ∃ b, x = some b ∧ K b := by
 unfold onS; split <;> simp_all
theorem a0P {x : Option Ob} {K : List AV → Prop} : a0M x K ↔ ∃ b, x = some (.box b) ∧ K b := by
 unfold a0M; split <;> simp_all
@[simp] theorem a1P {sz : Nat} {xs : List (List IV)} {K : Nat → List (List IV) → Prop} {K2 : Nat → List (List (List IV)) → Option Nat → Prop} : onL2 (some (.list sz xs)) K K2 ↔ K sz xs := ⟨id, id⟩
@[simp] theorem a2P {sz : Nat} {xs : List (List (List IV))} {hole : Option Nat} {K : Nat → List (List IV) → Prop} {K2 : Nat → List (List (List IV)) → Option Nat → Prop} : onL2 (some (.listo sz xs hole)) K K2 ↔ K2 sz xs hole := ⟨id, id⟩
@[simp] theorem a3P {a b c d : Nat} {K : Nat → Nat → Nat → Nat → Prop} : a2M (.sl a b c d) K ↔ K a b c d := ⟨id, id⟩
theorem a4P {x : Option Ob} {K : Nat → List (List IV) → Prop} : a1M x K ↔ ∃ sz b, x = some (.list sz b) ∧ K sz b := by
 unfold a1M; split
 · exact ⟨fun h => ⟨_, _, rfl, h⟩, fun ⟨_, _, e, h⟩ => by cases e; exact h⟩
 · rename_i hn; exact ⟨fun h => h.elim, fun ⟨_, _, e, h⟩ => (hn _ _ e).elim⟩
theorem a5P {x : Option Ob} {K : Sk → (List Value → Option (List IV)) → Prop} : a3M x K ↔ ∃ sk g, x = some (.map sk g) ∧ K sk g := by
 unfold a3M; split
 · exact ⟨fun h => ⟨_, _, rfl, h⟩, fun ⟨_, _, e, h⟩ => by cases e; exact h⟩
 · rename_i hn; exact ⟨fun h => h.elim, fun ⟨_, _, e, h⟩ => (hn _ _ e).elim⟩
theorem a6P {x : Option Ob} {K : Sk → (List Value → Option (List IV)) → Int → List Value → Prop} : a4M x K ↔ ∃ sk g n k, x = some (.mapS sk g n k) ∧ K sk g n k := by
 unfold a4M; split
 · exact ⟨fun h => ⟨_, _, _, _, rfl, h⟩, fun ⟨_, _, _, _, e, h⟩ => by cases e; exact h⟩
 · rename_i hn; exact ⟨fun h => h.elim, fun ⟨_, _, _, _, e, h⟩ => (hn _ _ _ _ e).elim⟩
theorem a7P {x : Option Ob} {K : Sk → (List Value → Option (List IV)) → List (List Value) → Option (List Value) → Prop} : a5M x K ↔ ∃ sk g l k, x = some (.iter sk g l k) ∧ K sk g l k := by
 unfold a5M; split
 · exact ⟨fun h => ⟨_, _, _, _, rfl, h⟩, fun ⟨_, _, _, _, e, h⟩ => by cases e; exact h⟩
 · rename_i hn; exact ⟨fun h => h.elim, fun ⟨_, _, _, _, e, h⟩ => (hn _ _ _ _ e).elim⟩
@[congr] theorem a8P {x x' : AV} {K : Bool → Prop} (h : x = x') : onB x K = onB x' K := by rw [h]
@[congr] theorem a9P {x x' : AV} {K : Value → Prop} (h : x = x') : onV x K = onV x' K := by rw [h]
@[congr] theorem a0Q {x x' : AV} {K : Int → Prop} (h : x = x') : onI x K = onI x' K := by rw [h]
@[congr] theorem a1Q {x x' : AV} {K : ByteArray → Prop} (h : x = x') : onT x K = onT x' K := by rw [h]
@[congr] theorem a2Q {x x' : AV} {K : List AV → Prop} (h : x = x') : a8L x K = a8L x' K := by rw [h]
@[congr] theorem a3Q {x x' : AV} {K : List AV → Prop} (h : x = x') : a9L x K = a9L x' K := by rw [h]
@[congr] theorem a4Q {x x' : Option Ob} {K : List AV → Prop} (h : x = x') : a0M x K = a0M x' K := by rw [h]
@[congr] theorem a5Q {x x' : Option Ob} {K : Nat → List (List IV) → Prop} (h : x = x') : a1M x K = a1M x' K := by rw [h]
@[congr] theorem a6Q {x x' : Option Ob} {K : Nat → List (List IV) → Prop} {K2 : Nat → List (List (List IV)) → Option Nat → Prop} (h : x = x') : onL2 x K K2 = onL2 x' K K2 := by rw [h]
@[congr] theorem a7Q {x x' : AV} {K : Nat → Nat → Nat → Nat → Prop} (h : x = x') : a2M x K = a2M x' K := by rw [h]
@[congr] theorem a8Q {x x' : Option Ob} {K : Sk → (List Value → Option (List IV)) → Prop} (h : x = x') : a3M x K = a3M x' K := by rw [h]
@[congr] theorem a9Q {x x' : Option Ob} {K : Sk → (List Value → Option (List IV)) → Int → List Value → Prop} (h : x = x') : a4M x K = a4M x' K := by rw [h]
@[congr] theorem a0R {x x' : Option Ob} {K : Sk → (List Value → Option (List IV)) → List (List Value) → Option (List Value) → Prop} (h : x = x') : a5M x K = a5M x' K := by rw [h]
@[congr] theorem a1R {x x' : AV} {K : Nat → Prop} (h : x = x') : a6M x K = a6M x' K := by rw [h]
@[congr] theorem a2R {x x' : AV} {A B : Prop} (h : x = x') : onD x A B = onD x' A B := by rw [h]
@[congr] theorem a3R {x x' : AV} {b : Bool} {A B U : Prop} (h : x = x') : onH x b A B U = onH x' b A B U := by rw [h]
@[congr] theorem a4R {s s' : St} {K : St → Prop} (h : s = s') : onSt s K = onSt s' K := by rw [h]
@[congr] theorem a5R {x x' : AV} {K : Bool → Prop} {U : Prop} (h : x = x') : onG x K U = onG x' K U := by rw [h]
@[congr] theorem a6R {α : Type} {x x' : Option α} {K : α → Prop} (h : x = x') : onS x K = onS x' K := by rw [h]
@[congr] theorem a7R {P : Program} {l l' : List VOp} {s s' : St} {K : St → Prop} (hl : l = l') (h : s = s') : vops P l s K = vops P l' s' K := by rw [h, hl]
@[congr] theorem a8R {P : Program} {l l' : VT} {s s' : St} {K : St → Prop} (hl : l = l') (h : s = s') : c4B P l s K = c4B P l' s' K := by rw [h, hl]
@[congr] theorem a9R {P : Program} {c c' : VCode} {s s' : St} {O : Outs} (hc : c = c') (h : s = s') : wpV P c s O = wpV P c' s' O := by rw [h, hc]
@[congr] theorem a0S {P : Program} {d : Nat} {f : FuncId} {pre post : List CapV} {ops : List Operand} {y : Option Operand} {s s' : St} {K : St → AV → Prop} (h : s = s') :
   a5L P d f pre ops post y s K = a5L P d f pre ops post y s' K := by rw [h]
@[congr] theorem a1S {P : Program} {g : Operand} {ps : List Nat} {x y : VCode} {s s' : St} {O : Outs} (h : s = s') : rngW P g ps x y s O = rngW P g ps x y s' O := by rw [h]
@[congr] theorem a2S {P : Program} {l : Nat} {ops : List Operand} {s s' : St} {K : St → AV → Prop} (h : s = s') : a6L P l ops s K = a6L P l ops s' K := by rw [h]
@[congr] theorem a3S {P : Program} {c : VCode} {s s' : St} {O : Outs} (h : s = s') : a7L P c s O = a7L P c s' O := by rw [h]
@[simp] theorem a4S {s : St} : vops P [] s K1 ↔ K1 s := ⟨fun h => h, fun h => h⟩
@[simp] theorem a5S {o : VOp} {r : List VOp} : vops P (o :: r) s K1 ↔ vop1 P o s fun s' => vops P r s' K1 := ⟨fun h => h, fun h => h⟩
@[simp] theorem a6S : c4B P .done s K1 ↔ K1 s := ⟨fun h => h, fun h => h⟩
@[simp] theorem a7S {o : VOp} {t : VT} : c4B P (.op o t) s K1 ↔ vop1 P o s fun s' => c4B P t s' K1 := ⟨fun h => h, fun h => h⟩
@[simp] theorem a8S {a b : VT} : c4B P (.alt a b) s K1 ↔ c4B P a s K1 ∧ c4B P b s K1 := ⟨fun h => h, fun h => h⟩
@[simp] theorem a9S {d : Option Nat} {r : Rhs} : vop1 P ⟨d, none, r⟩ s K1 ↔ onSt s fun s => stp P (d.getD 999) s (fun s' x => K1 (s'.put d x)) r := ⟨fun h => h, fun h => h⟩
@[simp] theorem a0T {d : Option Nat} {t : Nat} {b : Bool} {r : Rhs} : vop1 P ⟨d, some (t, b), r⟩ s K1 ↔
   onSt s fun s => onH (s.get t) b (stp P (d.getD 999) (s.lit t b) (fun s' x => K1 (s'.put d x)) r) (K1 ((s.lit t !b).put d .un)) (K1 (s.put d .un)) := by
 simp only [vop1, onSt, onH]; split <;> simp_all
variable {O : Outs}
@[simp] theorem a1T : wpV P .skip s O ↔ O.n s := ⟨fun h => h, fun h => h⟩
@[simp] theorem a2T {l : List VOp} : wpV P (.reg l) s O ↔ vops P l s O.n := ⟨fun h => h, fun h => h⟩
@[simp] theorem a3T {t : VT} : wpV P (.any t) s O ↔ c4B P t s O.n := ⟨fun h => h, fun h => h⟩
@[simp] theorem a4T {a b : VCode} : wpV P (.seq a b) s O ↔ wpV P a s ⟨fun s' => wpV P b s' O, O.x, O.r, O.g⟩ := ⟨fun h => h, fun h => h⟩
@[simp] theorem a5T {t e : VCode} : wpV P (.cond x t e) s O ↔ onSt s fun s => onD (s.ev x) (wpV P t s O) (wpV P e s O) := by
 simp only [wpV, onSt, onD]; split <;> simp_all
@[simp] theorem a6T {c : VCode} : wpV P (.block id c) s O ↔ wpV P c s ⟨O.n, fun j s' => if j = id then O.n s' else O.x j s', O.r, O.g⟩ := ⟨fun h => h, fun h => h⟩
@[simp] theorem wpV_rng {g : Operand} {ps : List Nat} {x y : VCode} : wpV P (.rng g ps x y) s O ↔ rngW P g ps x y s O := ⟨fun h => h, fun h => h⟩
@[simp] theorem a7T {c : VCode} : wpV P (.loop c) s O ↔ a7L P c s O := ⟨fun h => h, fun h => h⟩
@[simp] theorem a8T : wpV P (.exit id) s O ↔ O.x id s := ⟨fun h => h, fun h => h⟩
@[simp] theorem a9T : wpV P .ret s O ↔ O.r s := ⟨fun h => h, fun h => h⟩
@[simp] theorem a0U {l : Nat} : wpV P (.goto l) s O ↔ O.g l s := ⟨fun h => h, fun h => h⟩
@[simp] theorem a1U {c : VCode} : wpV P (.scope c) s O ↔ wpV P c s ⟨O.n, O.x, O.r, fun _ _ => False⟩ := ⟨fun h => h, fun h => h⟩
@[simp] theorem a2U {c r : VCode} {l : Nat} : wpV P (.scopeL c l r) s O ↔ wpV P c s ⟨O.n, O.x, O.r, fun l' s' => l' = l ∧ wpV P r s' ⟨O.n, O.x, O.r, fun _ _ => False⟩⟩ := ⟨fun h => h, fun h => h⟩
@[simp] theorem a3U : stp P d s K (.mov x) ↔ K s (s.ev x) := ⟨fun h => h, fun h => h⟩
@[simp] theorem a4U {sz : Nat} : stp P d s K (.nils sz) ↔ K ((s.drop d).add d (.list sz [])) (.sl d sz 0 0) := ⟨fun h => h, fun h => h⟩
@[simp] theorem a5U {c : Operand} : stp P d s K (.pick c x y) ↔ onB (s.ev c) fun t => K s (if t then s.ev x else s.ev y) := by
 first
 | exact ⟨fun h => h, fun h => h⟩
 | (simp only [stp, a2O, a3O, a4O, a5O, a6O, a7O, a8O, a9O, a0P, a4P, a5P, a6P, a7P]; repeat' split
    all_goals first | (simp_all; done) | grind)
@[simp] theorem a6U {z : List AV} : stp P d s K (.alloc z) ↔ K ((s.drop d).add d (.box z)) (.ptr d 0) := ⟨fun h => h, fun h => h⟩
@[simp] theorem a7U : stp P d s K (.box x) ↔ onS (((s.drop d).ev x).cellsOf) fun cs => K ((s.drop d).add d (.box cs)) (.ptr d 0) := by
 first
 | exact ⟨fun h => h, fun h => h⟩
 | (simp only [stp, a2O, a3O, a4O, a5O, a6O, a7O, a8O, a9O, a0P, a4P, a5P, a6P, a7P]; repeat' split
    all_goals first | (simp_all; done) | grind)
@[simp] theorem a8U {z : List AV} {parts : List (Nat × Nat × Operand)} : stp P d s K (.build z parts) ↔ onS (b7K s z parts) fun cs => K s (.agg cs) := by
 first
 | exact ⟨fun h => h, fun h => h⟩
 | (simp only [stp, a2O, a3O, a4O, a5O, a6O, a7O, a8O, a9O, a0P, a4P, a5P, a6P, a7P]; repeat' split
    all_goals first | (simp_all; done) | grind)
@[simp] theorem a9U {sz len : Nat} {parts : List (Nat × Operand)} : stp P d s K (.lit sz len parts) ↔
   onS (litA ((s.frz (parts.map fun p => s.ev p.2)).drop d) sz parts) fun xs => K (((s.frz (parts.map fun p => s.ev p.2)).drop d).add d (.list sz xs)) (.sl d sz 0 len) := by
 first
 | exact ⟨fun h => h, fun h => h⟩
 | (simp only [stp, a2O, a3O, a4O, a5O, a6O, a7O, a8O, a9O, a0P, a4P, a5P, a6P, a7P]; repeat' split
    all_goals first | (simp_all; done) | grind)
def ldN (s : St) (d : Nat) (x : Operand) (K : St → AV → Prop) [Tg K] : AV → Prop
   | .ptr id off => a0M (look s.hp id) fun cs => onS cs[off]? (K s)
   | .ep id _ i off => onL2 (look s.hp id) (fun _ xs => onS (at2 xs i off) fun y => K s (.iv y)) (fun sz2 xs hole => hole = none ∧ off = 0 ∧ id ≠ d ∧ (s.drop d).ev x = .ep id 1 i 0 ∧ look (s.drop d).hp id = some (.listo sz2 xs none) ∧ onS xs[i]? fun ys => K (((s.drop d).add id (.listo sz2 xs (some i))).add d (.lent id sz2 ys)) (.sl d sz2 0 ys.length))
   | .iv (.pt cs) => onS cs[0]? fun y => K s (.iv y)
   | _ => False
@[simp] theorem a0V {K : St → AV → Prop} : ldN s d x K (.ptr id off) ↔ a0M (look s.hp id) fun cs => onS cs[off]? (K s) := ⟨fun h => h, fun h => h⟩
@[simp] theorem a1V {K : St → AV → Prop} {z i : Nat} : ldN s d x K (.ep id z i off) ↔ onL2 (look s.hp id) (fun _ xs => onS (at2 xs i off) fun y => K s (.iv y)) (fun sz2 xs hole => hole = none ∧ off = 0 ∧ id ≠ d ∧ (s.drop d).ev x = .ep id 1 i 0 ∧ look (s.drop d).hp id = some (.listo sz2 xs none) ∧ onS xs[i]? fun ys => K (((s.drop d).add id (.listo sz2 xs (some i))).add d (.lent id sz2 ys)) (.sl d sz2 0 ys.length)) := ⟨fun h => h, fun h => h⟩
@[simp] theorem a2V {K : St → AV → Prop} {cs : List IV} : ldN s d x K (.iv (.pt cs)) ↔ onS cs[0]? fun y => K s (.iv y) := ⟨fun h => h, fun h => h⟩
@[simp] theorem a3V : stp P d s K (.ld x none) ↔ ldN s d x K (s.ev x) := by
 simp only [stp]
 generalize s.ev x = ax
 cases ax with
 | ptr id off =>
   simp only [a0V, a0P, a9O]
   repeat' split
   all_goals (simp_all; done)
 | ep id sz i off =>
   simp only [a1V]
   cases hl : look s.hp id with
   | none => exact ⟨fun h => h, fun h => h⟩
   | some o =>
     cases o with
     | list z xs => simp only [a1P, a9O]; split <;> simp_all
     | listo z xs hole => simp only [a2P, a9O]; split <;> simp_all
     | _ => exact ⟨fun h => h, fun h => h⟩
 | iv y =>
   cases y with
   | pt cs => simp only [a2V, a9O]; repeat' split
              all_goals (simp_all; done)
   | _ => exact ⟨fun h => h, fun h => h⟩
 | _ => exact ⟨fun h => h, fun h => h⟩
def ldS (H : Hp) (n : Nat) (x : AV) (K : AV → Prop) [Tg K] : Prop := match x with
   | .ptr id off => a0M (look H id) fun cs => off + n ≤ cs.length ∧ K (.agg ((cs.drop off).take n))
   | .ep id _ i off => a1M (look H id) fun _ xs => onS xs[i]? fun r => off + n ≤ r.length ∧ K (.agg (((r.drop off).take n).map .iv))
   | .iv (.pt cs) => n ≤ cs.length ∧ K (.agg ((cs.take n).map .iv))
   | _ => False
@[simp] theorem a4V {H : Hp} {n : Nat} {K : AV → Prop} : ldS H n (.ptr id off) K ↔ a0M (look H id) fun cs => off + n ≤ cs.length ∧ K (.agg ((cs.drop off).take n)) := ⟨fun h => h, fun h => h⟩
@[simp] theorem a5V {H : Hp} {n : Nat} {K : AV → Prop} {z i : Nat} : ldS H n (.ep id z i off) K ↔ a1M (look H id) fun _ xs => onS xs[i]? fun r => off + n ≤ r.length ∧ K (.agg (((r.drop off).take n).map .iv)) := ⟨fun h => h, fun h => h⟩
@[simp] theorem a6V {H : Hp} {n : Nat} {K : AV → Prop} {cs : List IV} : ldS H n (.iv (.pt cs)) K ↔ n ≤ cs.length ∧ K (.agg ((cs.take n).map .iv)) := ⟨fun h => h, fun h => h⟩
@[simp] theorem a7V {n : Nat} : stp P d s K (.ld x (some n)) ↔ ldS s.hp n (s.ev x) (K s) := by
 first
 | exact ⟨fun h => h, fun h => h⟩
 | (simp only [stp, ldS, a2O, a3O, a4O, a5O, a6O, a7O, a8O, a9O, a0P, a4P, a5P, a6P, a7P]; repeat' split
    all_goals first | (simp_all; done) | grind)
def stC (s : St) (x : Operand) (y : Operand) (n : Nat) (K : St → Prop) [Tg K] : AV → Prop
   | .ptr id off => a0M (look s.hp id) fun cs => onS (s.ev y).cellsOf fun cy => cy.length = n ∧ off + n ≤ cs.length ∧ cy.all AV.one = true ∧ K (s.add id (.box (b0Q cs off cy)))
   | .ep id _ i off => onL2 (look (s.frz [s.ev y]).hp id) (fun sz xs => onS (((s.frz [s.ev y]).ev y).cellsOf.bind fun cs => allO AV.iv? cs) fun cy => onS xs[i]? fun r =>
       (s.frz [s.ev y]).ev x = .ep id sz i off ∧ cy.length = n ∧ off + n ≤ r.length ∧ K ((s.frz [s.ev y]).add id (.list sz (xs.set i (b0Q r off cy))))) (fun sz2 xs hole => a2M (s.ev y) fun d' sz' lo len => onS (look s.hp d') fun o => onS o.els fun e => lo = 0 ∧ look s.hp id = some (.listo sz2 xs hole) ∧ (n = 1 ∧ off = 0) ∧ sz' = sz2 ∧ d' < 1000 ∧ d' ≠ id ∧ len = e.2.length ∧ (o.org? = none ∨ o.org? = some id) ∧ hole = some i ∧ K ((s.kill d').add id (.listo sz2 (xs.set i e.2) none)))
   | _ => False
theorem a8V {α β : Type} (f : α → Option β) : ∀ l : List α, l.mapM f = allO f l
 | [] => rfl
 | x :: r => by
   rw [List.mapM_cons]
   simp only [allO, ← a8V f r]
   cases f x with
   | none => rfl
   | some y => cases r.mapM f <;> rfl
@[simp] theorem a9V {n : Nat} {K : St → Prop} : stC s x y n K (.ptr id off) ↔ a0M (look s.hp id) fun cs => onS (s.ev y).cellsOf fun cy => cy.length = n ∧ off + n ≤ cs.length ∧ cy.all AV.one = true ∧ K (s.add id (.box (b0Q cs off cy))) := ⟨fun h => h, fun h => h⟩
@[simp] theorem a0W {n z i : Nat} {K : St → Prop} : stC s x y n K (.ep id z i off) ↔ onL2 (look (s.frz [s.ev y]).hp id) (fun sz xs => onS (((s.frz [s.ev y]).ev y).cellsOf.bind fun cs => allO AV.iv? cs) fun cy => onS xs[i]? fun r =>
       (s.frz [s.ev y]).ev x = .ep id sz i off ∧ cy.length = n ∧ off + n ≤ r.length ∧ K ((s.frz [s.ev y]).add id (.list sz (xs.set i (b0Q r off cy))))) (fun sz2 xs hole => a2M (s.ev y) fun d' sz' lo len => onS (look s.hp d') fun o => onS o.els fun e => lo = 0 ∧ look s.hp id = some (.listo sz2 xs hole) ∧ (n = 1 ∧ off = 0) ∧ sz' = sz2 ∧ d' < 1000 ∧ d' ≠ id ∧ len = e.2.length ∧ (o.org? = none ∨ o.org? = some id) ∧ hole = some i ∧ K ((s.kill d').add id (.listo sz2 (xs.set i e.2) none))) := ⟨fun h => h, fun h => h⟩
@[simp] theorem a1W {n : Nat} : stp P d s K (.st x y n) ↔ stC s x y n (fun s' => K s' .un) (s.ev x) := by
 simp only [stp]
 generalize hx : s.ev x = ax
 cases ax with
 | ptr id off =>
   simp only [a9V, a0P, a9O]
   repeat' split
   all_goals first | (simp_all; done) | grind
 | ep id sz i off =>
   simp only [a0W, a8V]
   cases hl : look (s.frz [s.ev y]).hp id with
   | none => exact ⟨fun h => h, fun h => h⟩
   | some o =>
     cases o with
     | list z xs => simp only [a1P, a9O]; repeat' split
                    all_goals first | (simp_all; done) | grind
     | listo z xs hole =>
       simp only [a2P]
       clear hl hx
       generalize s.ev y = ay
       cases ay with
       | sl d' sz' lo len =>
         simp only [a3P, a9O]
         cases lo with
         | zero =>
           cases h1 : look s.hp d' with
           | none => simp [h1]
           | some o =>
             cases h2 : o.els with
             | none => simp [h1, h2]
             | some e =>
               obtain ⟨e1, e2⟩ := e
               simp only [h1, h2, Option.some.injEq, exists_eq_left', true_and]
         | succ lo => exact ⟨fun h => h.elim, fun ⟨_, _, _, _, h, _⟩ => by cases h⟩
       | _ => exact ⟨fun h => h, fun h => h⟩
     | _ => exact ⟨fun h => h, fun h => h⟩
 | _ => exact ⟨fun h => h, fun h => h⟩
def chkK (x : AV) (K : AV → Prop) [Tg K] : Prop := match x with
   | .ptr id off => K (.ptr id off)
   | .ep id sz i off => K (.ep id sz i off)
   | .iv (.pt cs) => K (.iv (.pt cs))
   | _ => False
@[simp] theorem a2W {K : AV → Prop} : chkK (.ptr id off) K ↔ K (.ptr id off) := ⟨fun h => h, fun h => h⟩
@[simp] theorem a3W {K : AV → Prop} {sz i : Nat} : chkK (.ep id sz i off) K ↔ K (.ep id sz i off) := ⟨fun h => h, fun h => h⟩
@[simp] theorem a4W {K : AV → Prop} {cs : List IV} : chkK (.iv (.pt cs)) K ↔ K (.iv (.pt cs)) := ⟨fun h => h, fun h => h⟩
@[simp] theorem a5W : stp P d s K (.chk x) ↔ chkK (s.ev x) (K s) := ⟨fun h => h, fun h => h⟩
@[simp] theorem a6W {op : BinOp} : stp P d s K (.bin op x y) ↔ onV (s.ev x) fun u => onV (s.ev y) fun v => onS (binV op u v) fun r => K s (.iv (.v r)) := by
 first
 | exact ⟨fun h => h, fun h => h⟩
 | (simp only [stp, a2O, a3O, a4O, a5O, a6O, a7O, a8O, a9O, a0P, a4P, a5P, a6P, a7P]; repeat' split
    all_goals first | (simp_all; done) | grind)
@[simp] theorem a7W {neg : Bool} : stp P d s K (.beq neg x y) ↔ onB (s.ev x) fun u => onB (s.ev y) fun v => K s (.iv (.v (.bool (if neg then u != v else u == v)))) := by
 first
 | exact ⟨fun h => h, fun h => h⟩
 | (simp only [stp, a2O, a3O, a4O, a5O, a6O, a7O, a8O, a9O, a0P, a4P, a5P, a6P, a7P]; repeat' split
    all_goals first | (simp_all; done) | grind)
def peqV : AV → AV → Option Bool
   | .iv (.v (.pointer none)), .iv (.v (.pointer none)) => some true
   | .iv (.v (.pointer none)), .ptr .. => some false
   | .iv (.v (.pointer none)), .iv (.pt _) => some false
   | .ptr .., .iv (.v (.pointer none)) => some false
   | .iv (.pt _), .iv (.v (.pointer none)) => some false
   | _, _ => none
@[simp] theorem a8W : peqV (.iv (.v (.pointer none))) (.iv (.v (.pointer none))) = some true := rfl
@[simp] theorem a9W : peqV (.iv (.v (.pointer none))) (.ptr id off) = some false := rfl
@[simp] theorem a0X {cs : List IV} : peqV (.iv (.v (.pointer none))) (.iv (.pt cs)) = some false := rfl
@[simp] theorem a1X : peqV (.ptr id off) (.iv (.v (.pointer none))) = some false := rfl
@[simp] theorem a2X {cs : List IV} : peqV (.iv (.pt cs)) (.iv (.v (.pointer none))) = some false := rfl
@[simp] theorem a3X {neg : Bool} : stp P d s K (.peq neg x y) ↔ onS (peqV (s.ev x) (s.ev y)) fun b => K s (.iv (.v (.bool (b != neg)))) := by
 first
 | exact ⟨fun h => h, fun h => h⟩
 | (simp only [stp, peqV, a2O, a3O, a4O, a5O, a6O, a7O, a8O, a9O, a0P, a4P, a5P, a6P, a7P]; repeat' split
    all_goals first | (simp_all; done) | grind)
@[simp] theorem a4X {neg : Bool} {ks : List Kd} : stp P d s K (.eqs neg ks x y) ↔ a8L (s.ev x) fun cs => a8L (s.ev y) fun ds => onS (b6Q ks cs ds) fun b => K s (.iv (.v (.bool (if neg then !b else b)))) := by
 first
 | exact ⟨fun h => h, fun h => h⟩
 | (simp only [stp, a2O, a3O, a4O, a5O, a6O, a7O, a8O, a9O, a0P, a4P, a5P, a6P, a7P]; repeat' split
    all_goals first | (simp_all; done) | grind)
@[simp] theorem a5X {op : UnOp} : stp P d s K (.un op x) ↔ onV (s.ev x) fun v => onS (unV op v) fun r => K s (.iv (.v r)) := by
 first
 | exact ⟨fun h => h, fun h => h⟩
 | (simp only [stp, a2O, a3O, a4O, a5O, a6O, a7O, a8O, a9O, a0P, a4P, a5P, a6P, a7P]; repeat' split
    all_goals first | (simp_all; done) | grind)
@[simp] theorem a6X {k : IntKind} : stp P d s K (.cvt k x) ↔ onI (s.ev x) fun m => K s (.iv (.v (.int k (k.wrap m)))) := by
 first
 | exact ⟨fun h => h, fun h => h⟩
 | (simp only [stp, a2O, a3O, a4O, a5O, a6O, a7O, a8O, a9O, a0P, a4P, a5P, a6P, a7P]; repeat' split
    all_goals first | (simp_all; done) | grind)
def cutK (s : St) (sz : Nat) (lo hi : Option Operand) (K : AV → Prop) [Tg K] : AV → Prop
   | .iv (.lst sz' xs) => onS (s.bound 0 lo) fun l => onS (s.bound xs.length hi) fun h => sz' = sz ∧ 0 ≤ l ∧ l ≤ h ∧ h ≤ xs.length ∧ K (.iv (.lst sz ((xs.drop l.toNat).take (h - l).toNat)))
   | .sl id sz' o m => onS (s.bound 0 lo) fun l => onS (s.bound m hi) fun h => sz' = sz ∧ 0 ≤ l ∧ l ≤ h ∧ h ≤ m ∧ K (.sl id sz (o + l.toNat) (h - l).toNat)
   | .nil sz' => onS (s.bound 0 lo) fun l => onS (s.bound 0 hi) fun h => l = 0 ∧ h = 0 ∧ K (.nil sz')
   | _ => False
section
variable {sz sz' o m : Nat} {lo hi : Option Operand} {K2 : AV → Prop} {xs : List (List IV)}
@[simp] theorem a7X : cutK s sz lo hi K2 (.iv (.lst sz' xs)) ↔ onS (s.bound 0 lo) fun l => onS (s.bound xs.length hi) fun h => sz' = sz ∧ 0 ≤ l ∧ l ≤ h ∧ h ≤ xs.length ∧ K2 (.iv (.lst sz ((xs.drop l.toNat).take (h - l).toNat))) := ⟨fun h => h, fun h => h⟩
@[simp] theorem a8X : cutK s sz lo hi K2 (.sl id sz' o m) ↔ onS (s.bound 0 lo) fun l => onS (s.bound m hi) fun h => sz' = sz ∧ 0 ≤ l ∧ l ≤ h ∧ h ≤ m ∧ K2 (.sl id sz (o + l.toNat) (h - l).toNat) := ⟨fun h => h, fun h => h⟩
@[simp] theorem a9X : cutK s sz lo hi K2 (.nil sz') ↔ onS (s.bound 0 lo) fun l => onS (s.bound 0 hi) fun h => l = 0 ∧ h = 0 ∧ K2 (.nil sz') := ⟨fun h => h, fun h => h⟩
@[simp] theorem a0Y : stp P d s K (.cut sz x lo hi) ↔ cutK s sz lo hi (K s) (s.ev x) := by
 first
 | exact ⟨fun h => h, fun h => h⟩
 | (simp only [stp, cutK, a2O, a3O, a4O, a5O, a6O, a7O, a8O, a9O, a0P, a4P, a5P, a6P, a7P]; repeat' split
    all_goals first | (simp_all; done) | grind)
end
def faK (off : Nat) (x : AV) (K : AV → Prop) [Tg K] : Prop := match x with
   | .ptr id o => K (.ptr id (o + off))
   | .ep id sz i o => K (.ep id sz i (o + off))
   | .iv (.pt cs) => K (.iv (.pt (cs.drop off)))
   | _ => False
section
variable {K2 : AV → Prop} {sz i o n : Nat}
@[simp] theorem a1Y : faK off (.ptr id o) K2 ↔ K2 (.ptr id (o + off)) := ⟨fun h => h, fun h => h⟩
@[simp] theorem a2Y : faK off (.ep id sz i o) K2 ↔ K2 (.ep id sz i (o + off)) := ⟨fun h => h, fun h => h⟩
@[simp] theorem a3Y {cs : List IV} : faK off (.iv (.pt cs)) K2 ↔ K2 (.iv (.pt (cs.drop off))) := ⟨fun h => h, fun h => h⟩
@[simp] theorem a4Y : stp P d s K (.fa off x) ↔ faK off (s.ev x) (K s) := ⟨fun h => h, fun h => h⟩
@[simp] theorem a5Y : stp P d s K (.fld off none x) ↔ a8L (s.ev x) fun cs => onS cs[off]? (K s) := by
 simp only [stp, a2O, a3O, a4O, a5O, a6O, a7O, a8O, a9O, a0P, a4P, a5P, a6P, a7P]; repeat' split
 all_goals first | (simp_all; done) | grind
@[simp] theorem a6Y : stp P d s K (.fld off (some n) x) ↔ a8L (s.ev x) fun cs => off + n ≤ cs.length ∧ K s (.agg ((cs.drop off).take n)) := ⟨fun h => h, fun h => h⟩
end
def iaK (sz : Nat) (m : Int) (K : AV → Prop) [Tg K] : AV → Prop
   | .iv (.lst sz' xs) => sz' = sz ∧ 0 ≤ m ∧ onS xs[m.toNat]? fun r => K (.iv (.pt r))
   | .sl id sz' o k => sz' = sz ∧ 0 ≤ m ∧ m < k ∧ K (.ep id sz (o + m.toNat) 0)
   | _ => False
section
variable {K2 : AV → Prop} {sz sz' i o n k : Nat} {m : Int} {xs : List (List IV)}
@[simp] theorem a7Y : iaK sz m K2 (.iv (.lst sz' xs)) ↔ sz' = sz ∧ 0 ≤ m ∧ onS xs[m.toNat]? fun r => K2 (.iv (.pt r)) := ⟨fun h => h, fun h => h⟩
@[simp] theorem a8Y : iaK sz m K2 (.sl id sz' o k) ↔ sz' = sz ∧ 0 ≤ m ∧ m < k ∧ K2 (.ep id sz (o + m.toNat) 0) := ⟨fun h => h, fun h => h⟩
@[simp] theorem a9Y : stp P d s K (.ia sz x y) ↔ onI (s.ev y) fun m => iaK sz m (K s) (s.ev x) := by
 rw [a8O]
 simp only [stp]
 constructor
 · intro h
   split at h
   · rename_i sz' xs k m e1 e2
     refine ⟨k, m, e2, ?_⟩
     rw [e1, a7Y]
     refine ⟨h.1, h.2.1, ?_⟩
     cases hg : xs[m.toNat]? with
     | none => rw [hg] at h; exact h.2.2.elim
     | some r => rw [hg] at h; exact h.2.2
   · rename_i id sz' o q k m e1 e2
     refine ⟨k, m, e2, ?_⟩
     rw [e1, a8Y]
     exact h
   · exact h.elim
 · rintro ⟨k, m, e2, h⟩
   rw [e2]
   cases hx : s.ev x with
   | iv x' =>
     rw [hx] at h
     cases x' with
     | lst sz' xs =>
       rw [a7Y] at h
       refine ⟨h.1, h.2.1, ?_⟩
       cases hg : xs[m.toNat]? with
       | none => rw [hg] at h; exact h.2.2.elim
       | some r => rw [hg] at h; exact h.2.2
     | _ => exact h.elim
   | sl id sz' o q => rw [hx, a8Y] at h; exact h
   | _ => rw [hx] at h; exact h.elim
@[simp] theorem stp_ix {q : Nat} : stp P d s K (.ix q x y) ↔ a8L (s.ev x) fun cs => onI (s.ev y) fun m => 0 ≤ m ∧ m < q ∧ onS cs[m.toNat]? (K s) := by
 constructor
 · intro h
   simp only [stp] at h
   split at h
   · rename_i cs k m h1 h2
     rw [h1, h2]
     obtain ⟨g1, g2, g3⟩ := h
     refine ⟨g1, g2, ?_⟩
     cases hc : cs[m.toNat]? with
     | none => rw [hc] at g3; exact g3.elim
     | some y => rw [hc] at g3; exact g3
   · exact h.elim
 · intro h
   simp only [stp]
   cases h1 : s.ev x with
   | agg cs =>
     rw [h1] at h
     cases h2 : s.ev y with
     | iv c =>
       rw [h2] at h
       cases c with
       | v z => cases z with
         | int k m =>
           obtain ⟨g1, g2, g3⟩ := h
           refine ⟨g1, g2, ?_⟩
           cases hc : cs[m.toNat]? with
           | none => rw [hc] at g3; exact g3.elim
           | some y => rw [hc] at g3; exact g3
         | _ => exact h.elim
       | _ => exact h.elim
     | _ => rw [h2] at h; exact h.elim
   | _ => rw [h1] at h; exact h.elim
@[simp] theorem a0Z : stp P d s K (.is x y) ↔ onT (s.ev x) fun t => onI (s.ev y) fun m => 0 ≤ m ∧ onS t[m.toNat]? fun b => K s (.iv (.v (.int .u8 b.toNat))) := by
 first
 | exact ⟨fun h => h, fun h => h⟩
 | (simp only [stp, a2O, a3O, a4O, a5O, a6O, a7O, a8O, a9O, a0P, a4P, a5P, a6P, a7P]; repeat' split
    all_goals first | (simp_all; done) | grind)
@[simp] theorem a1Z : stp P d s K (.ext i x) ↔ a9L (s.ev x) fun vs => onS vs[i]? (K s) := by
 simp only [stp, a2O, a3O, a4O, a5O, a6O, a7O, a8O, a9O, a0P, a4P, a5P, a6P, a7P]; repeat' split
 all_goals first | (simp_all; done) | grind
end
def lenK (x : AV) (K : Nat → Prop) [Tg K] : Prop := match x with
   | .iv (.lst _ xs) => K xs.length
   | .sl _ _ _ m => K m
   | .nil _ => K 0
   | _ => False
section
variable {K2 : Nat → Prop} {sz o n : Nat} {xs : List (List IV)}
@[simp] theorem a2Z : lenK (.iv (.lst sz xs)) K2 ↔ K2 xs.length := ⟨fun h => h, fun h => h⟩
@[simp] theorem a3Z : lenK (.sl id sz o n) K2 ↔ K2 n := ⟨fun h => h, fun h => h⟩
@[simp] theorem a4Z : lenK (.nil sz) K2 ↔ K2 0 := ⟨fun h => h, fun h => h⟩
@[simp] theorem a5Z : stp P d s K (.len x) ↔ lenK (s.ev x) fun n => K s (.iv (.v (.int .i64 n))) := by
 first
 | exact ⟨fun h => h, fun h => h⟩
 | (simp only [stp, lenK, a2O, a3O, a4O, a5O, a6O, a7O, a8O, a9O, a0P, a4P, a5P, a6P, a7P]; repeat' split
    all_goals first | (simp_all; done) | grind)
@[simp] theorem a6Z : stp P d s K (.lens x) ↔ onT (s.ev x) fun t => K s (.iv (.v (.int .i64 t.size))) := ⟨fun h => h, fun h => h⟩
end
def appK (s : St) (d sz bytes : Nat) (ys : Option (Nat × List (List IV))) (K : St → AV → Prop) [Tg K] : AV → Prop
   | .sl id sz' lo m => onS ys fun (sz2, ys) => onS (look s.hp id) fun o => onS o.els fun (_, xs) => sz' = sz ∧ (sz2 = sz ∨ ys = []) ∧ id < 1000 ∧ lo + m = xs.length ∧ (m + ys.length) * bytes ≤ 2 ^ 47 ∧ m + ys.length < 2 ^ 62 ∧
         K ((s.lone id).add id (o.setEls sz (xs.drop lo ++ ys))) (.sl id sz 0 (m + ys.length))
   | .nil _ => onS ys fun (sz2, ys) => (sz2 = sz ∨ ys = []) ∧ ys.length * bytes ≤ 2 ^ 47 ∧ ys.length < 2 ^ 62 ∧ K ((s.drop d).add d (.list sz ys)) (.sl d sz 0 ys.length)
   | _ => False
section
variable {sz sz' sz2 bytes lo m : Nat} {ys : List (List IV)}
@[simp] theorem a7Z : appK s d sz bytes (some (sz2, ys)) K (.sl id sz' lo m) ↔ onS (look s.hp id) fun o => onS o.els fun xs => sz' = sz ∧ (sz2 = sz ∨ ys = []) ∧ id < 1000 ∧ lo + m = xs.2.length ∧ (m + ys.length) * bytes ≤ 2 ^ 47 ∧ m + ys.length < 2 ^ 62 ∧
         K ((s.lone id).add id (o.setEls sz (xs.2.drop lo ++ ys))) (.sl id sz 0 (m + ys.length)) := ⟨fun h => h, fun h => h⟩
@[simp] theorem a8Z : appK s d sz bytes (some (sz2, ys)) K (.nil sz') ↔ (sz2 = sz ∨ ys = []) ∧ ys.length * bytes ≤ 2 ^ 47 ∧ ys.length < 2 ^ 62 ∧ K ((s.drop d).add d (.list sz ys)) (.sl d sz 0 ys.length) := ⟨fun h => h, fun h => h⟩
@[simp] theorem a9Z : stp P d s K (.app sz bytes x y) ↔ appK s d sz bytes (s.elems (s.ev y)) K (s.ev x) := by
 first
 | exact ⟨fun h => h, fun h => h⟩
 | (simp only [stp, appK, a2O, a3O, a4O, a5O, a6O, a7O, a8O, a9O, a0P, a4P, a5P, a6P, a7P]; repeat' split
    all_goals first | (simp_all; done) | grind)
@[simp] theorem b0a {mx : Bool} {xs : List Operand} : stp P d s K (.mm mx xs) ↔ onS (b8Q mx (xs.map s.ev)) fun p => K s (.iv (.v (.int p.1 p.2))) := by
 first
 | exact ⟨fun h => h, fun h => h⟩
 | (simp only [stp, a2O, a3O, a4O, a5O, a6O, a7O, a8O, a9O, a0P, a4P, a5P, a6P, a7P]; repeat' split
    all_goals first | (simp_all; done) | grind)
@[simp] theorem b1a {f : FuncId} {first caps : List Operand} : stp P d s K (.mkfn f first caps) ↔ onS (allO AV.cap (first.map s.ev)) fun a => onS (allO AV.cap (caps.map s.ev)) fun b => K s (.fn f a b) := by
 first
 | exact ⟨fun h => h, fun h => h⟩
 | (simp only [stp, a8V, a2O, a3O, a4O, a5O, a6O, a7O, a8O, a9O, a0P, a4P, a5P, a6P, a7P]; repeat' split
    all_goals first | (simp_all; done) | grind)
@[simp] theorem b2a {f : FuncId} {args : List Operand} : stp P d s K (.call f args) ↔ a5L P d f [] args [] none s K := ⟨fun h => h, fun h => h⟩
end
def b3a (P : Program) (d : Nat) (args : List Operand) (x : Operand) (s : St) (K : St → AV → Prop) [Tg K] : AV → Prop
   | .fn f first caps => okFn P f = true ∧ b5K P d f first args caps (some x) s K
   | .iv (.v (.func (.yield l) vf vc)) => vf = #[] ∧ vc = #[] ∧ b1K P l args s K
   | .iv (.v (.func (.func f) vf vc)) => vf = #[] ∧ vc = #[] ∧ okFn P f = true ∧ b5K P d f [] args [] none s K
   | _ => False
@[simp] theorem b4a {args : List Operand} {l : Nat} : b3a P d args x s K (.iv (.v (.func (.yield l) #[] #[]))) ↔ a6L P l args s K := ⟨fun h => h.2.2, fun h => ⟨rfl, rfl, h⟩⟩
@[simp] theorem b5a {args : List Operand} {f : FuncId} : b3a P d args x s K (.iv (.v (.func (.func f) #[] #[]))) ↔ okFn P f = true ∧ a5L P d f [] args [] none s K := ⟨fun h => h.2.2, fun h => ⟨rfl, rfl, h⟩⟩
@[simp] theorem b6a {args : List Operand} {f : FuncId} {first caps : List CapV} : b3a P d args x s K (.fn f first caps) ↔ okFn P f = true ∧ a5L P d f first args caps (some x) s K := ⟨fun h => h, fun h => h⟩
@[simp] theorem b7a {args : List Operand} : stp P d s K (.callv x args) ↔ b3a P d args x s K (s.ev x) := by
 first
 | exact ⟨fun h => h, fun h => h⟩
 | (simp only [stp, b3a, a2O, a3O, a4O, a5O, a6O, a7O, a8O, a9O, a0P, a4P, a5P, a6P, a7P]; repeat' split
    all_goals first | (simp_all; done) | grind)
def snK (x : AV) (K : Bool → Prop) [Tg K] : Prop := match x with
   | .nil _ => K true
   | .sl _ _ _ m => ∀ b : Bool, (0 < m → b = false) → K b
   | .iv (.lst _ xs) => ∀ b : Bool, (xs ≠ [] → b = false) → K b
   | _ => False
section
variable {K2 : Bool → Prop} {sz o n : Nat} {xs : List (List IV)}
@[simp] theorem b8a : snK (.nil sz) K2 ↔ K2 true := ⟨fun h => h, fun h => h⟩
@[simp] theorem b9a : snK (.sl id sz o n) K2 ↔ ∀ b : Bool, (0 < n → b = false) → K2 b := ⟨fun h => h, fun h => h⟩
@[simp] theorem b0b : snK (.iv (.lst sz xs)) K2 ↔ ∀ b : Bool, (xs ≠ [] → b = false) → K2 b := ⟨fun h => h, fun h => h⟩
@[simp] theorem b1b {neg : Bool} : stp P d s K (.snil neg x) ↔ snK (s.ev x) fun b => K s (.iv (.v (.bool (if neg then !b else b)))) := by
 first
 | exact ⟨fun h => h, fun h => h⟩
 | (simp only [stp, snK, a2O, a3O, a4O, a5O, a6O, a7O, a8O, a9O, a0P, a4P, a5P, a6P, a7P]; repeat' split
    all_goals first | (simp_all; done) | grind)
end
section
variable {sz bytes : Nat} {z : List AV} {l c m k : Operand} {sk : Sk} {ok : Bool}
def mksC (s : St) (d sz bytes : Nat) (z : List AV) (m q : Int) (K : St → AV → Prop) [Tg K] : Option Nat → Prop
 | some sz' => 0 ≤ m ∧ q = m ∧ m < 2 ^ 62 ∧ (bytes : Int) * m ≤ 2 ^ 47 ∧ sz = 1 ∧ K ((s.drop d).add d (.listo sz' (List.replicate m.toNat []) none)) (.sl d 1 0 m.toNat)
 | none => onS (allO AV.iv? z) fun zi => 0 ≤ m ∧ q = m ∧ m < 2 ^ 62 ∧ (bytes : Int) * m ≤ 2 ^ 47 ∧ K ((s.drop d).add d (.list sz (List.replicate m.toNat zi))) (.sl d sz 0 m.toNat)
@[simp] theorem b2b {sz : Nat} : b8K [.nil sz] = some sz := rfl
@[simp] theorem nilOf_iv {x : IV} {r : List AV} : b8K (.iv x :: r) = none := by cases r <;> rfl
@[simp] theorem b3b {x y : AV} {r : List AV} : b8K (x :: y :: r) = none := by cases x <;> rfl
@[simp] theorem b4b {sz' : Nat} {m q : Int} : mksC s d sz bytes z m q K (some sz') ↔ 0 ≤ m ∧ q = m ∧ m < 2 ^ 62 ∧ (bytes : Int) * m ≤ 2 ^ 47 ∧ sz = 1 ∧ K ((s.drop d).add d (.listo sz' (List.replicate m.toNat []) none)) (.sl d 1 0 m.toNat) := ⟨fun h => h, fun h => h⟩
@[simp] theorem b5b {m q : Int} : mksC s d sz bytes z m q K none ↔ onS (allO AV.iv? z) fun zi => 0 ≤ m ∧ q = m ∧ m < 2 ^ 62 ∧ (bytes : Int) * m ≤ 2 ^ 47 ∧ K ((s.drop d).add d (.list sz (List.replicate m.toNat zi))) (.sl d sz 0 m.toNat) := ⟨fun h => h, fun h => h⟩
@[simp] theorem b6b : stp P d s K (.mks sz bytes z l c) ↔ onI (s.ev l) fun m => onI (s.ev c) fun q => mksC s d sz bytes z m q K (b8K z) := by
 cases hz : b8K z with
 | some sz' => simp only [stp, hz, b4b, a8O]; repeat' split
               all_goals first | (simp_all; done) | grind
 | none => simp only [stp, hz, b5b, a8V, a8O, a9O]; repeat' split
           all_goals first | (simp_all; done) | grind
def cpyK (s : St) (sz : Nat) (K : St → AV → Prop) [Tg K] : Option (Nat × List (List IV)) → AV → Prop
 | some (sz2, ys), .sl id sz' lo m => a1M (look s.hp id) fun sz3 xs => (xs ≠ [] ∧ lo = 0) ∧ (sz' = sz ∧ sz3 = sz ∧ sz2 = sz) ∧ m = xs.length ∧ ys.length = m ∧ K (s.add id (.list sz ys)) (.iv (.v (.int .i64 m)))
 | _, _ => False
@[simp] theorem b7b {sz sz2 id sz' lo m : Nat} {ys : List (List IV)} : cpyK s sz K (some (sz2, ys)) (.sl id sz' lo m) ↔ a1M (look s.hp id) fun sz3 xs => (xs ≠ [] ∧ lo = 0) ∧ (sz' = sz ∧ sz3 = sz ∧ sz2 = sz) ∧ m = xs.length ∧ ys.length = m ∧ K (s.add id (.list sz ys)) (.iv (.v (.int .i64 m))) := Iff.rfl
@[simp] theorem stp_cpy {sz : Nat} : stp P d s K (.cpy sz x y) ↔ cpyK s sz K (s.elems (s.ev y)) (s.ev x) := by
 simp only [stp]
 generalize s.ev x = ax
 generalize s.elems (s.ev y) = e
 cases e with
 | none => cases ax <;> exact Iff.rfl
 | some p => obtain ⟨sz2, ys⟩ := p; cases ax with
   | sl id sz' lo m =>
     simp only [b7b, a4P]
     repeat' split
     all_goals first | (simp_all; done) | grind
   | _ => exact Iff.rfl
def clrK (s : St) (sz : Nat) (K : St → AV → Prop) [Tg K] : Option (List IV) → AV → Prop
 | some zi, .sl id sz' lo m => a1M (look s.hp id) fun sz3 xs => (sz' = sz ∧ sz3 = sz) ∧ (0 < m ∧ lo + m ≤ xs.length) ∧ K (s.add id (.list sz (xs.take lo ++ List.replicate m zi ++ xs.drop (lo + m)))) (.tup [])
 | _, _ => False
@[simp] theorem b8b {sz id sz' lo m : Nat} {zi : List IV} : clrK s sz K (some zi) (.sl id sz' lo m) ↔ a1M (look s.hp id) fun sz3 xs => (sz' = sz ∧ sz3 = sz) ∧ (0 < m ∧ lo + m ≤ xs.length) ∧ K (s.add id (.list sz (xs.take lo ++ List.replicate m zi ++ xs.drop (lo + m)))) (.tup []) := Iff.rfl
@[simp] theorem stp_clr {sz : Nat} {z : List AV} : stp P d s K (.clr sz z x) ↔ clrK s sz K (allO AV.iv? z) (s.ev x) := by
 simp only [stp, a8V]
 generalize s.ev x = ax
 generalize allO AV.iv? z = e
 cases e with
 | none => cases ax <;> exact Iff.rfl
 | some zi => cases ax with
   | sl id sz' lo m =>
     simp only [b8b, a4P]
     repeat' split
     all_goals first | (simp_all; done) | grind
   | _ => exact Iff.rfl
@[simp] theorem b9b : stp P d s K (.mkmap sk) ↔ K ((s.drop d).add d (.map sk fun _ => none)) (.mpr d) := ⟨fun h => h, fun h => h⟩
@[simp] theorem b0c : stp P d s K (.mdel sk m k) ↔ a6M (s.ev m) fun id => onS (b5O (s.ev k)) fun kk => a3M (look s.hp id) fun sk1 g => sk1 = sk ∧ kk.1 = (sk.1, sk.2.1) ∧ K (s.add id (.map sk (gset g kk.2 none))) (.tup []) := by
 first
 | exact ⟨fun h => h, fun h => h⟩
 | (simp only [stp, a2O, a3O, a4O, a5O, a6O, a7O, a8O, a9O, a0P, a4P, a5P, a6P, a7P]; repeat' split
    all_goals first | (simp_all; done) | grind)
@[simp] theorem b1c : stp P d s K (.lenm x) ↔ onS (s.mapOf (s.ev x)) fun p => ∀ n : Nat, (n = 0 ↔ ∀ k, p.2 k = none) → K s (.iv (.v (.int .i64 n))) := by
 first
 | exact ⟨fun h => h, fun h => h⟩
 | (simp only [stp, a2O, a3O, a4O, a5O, a6O, a7O, a8O, a9O, a0P, a4P, a5P, a6P, a7P]; repeat' split
    all_goals first | (simp_all; done) | grind)
@[simp] theorem b2c : stp P d s K (.ment sk z m k) ↔ a6M (s.ev m) fun id => onS (b5O (s.ev k)) fun kk => onS (allO AV.iv? z) fun zi => a3M (look s.hp id) fun sk1 g => sk1 = sk ∧ kk.1 = (sk.1, sk.2.1) ∧
   ∀ n : Int, K (s.add id (.mapS sk (gset g kk.2 (some ((g kk.2).getD zi))) n kk.2)) (.tup [b7O sk.2.2 (((g kk.2).getD zi).map .iv), .iv (.v (.int .i64 n))]) := by
 first
 | exact ⟨fun h => h, fun h => h⟩
 | (simp only [stp, a2O, a3O, a4O, a5O, a6O, a7O, a8O, a9O, a0P, a4P, a5P, a6P, a7P]; repeat' split
    all_goals first | (simp_all; done) | grind)
@[simp] theorem b3c : stp P d s K (.est m k x) ↔ a6M ((s.frz [s.ev x]).ev m) fun id => onI ((s.frz [s.ev x]).ev k) fun n' => onS (((s.frz [s.ev x]).ev x).cellsOf.bind fun cs => allO AV.iv? cs) fun c =>
   a4M (look (s.frz [s.ev x]).hp id) fun sk g n kk => n' = n ∧ b6O ((s.frz [s.ev x]).ev x) = sk.2.2 ∧ K ((s.frz [s.ev x]).add id (.map sk (gset g kk (some c)))) .un := by
 first
 | exact ⟨fun h => h, fun h => h⟩
 | (simp only [stp, a8V, a2O, a3O, a4O, a5O, a6O, a7O, a8O, a9O, a0P, a4P, a5P, a6P, a7P]; repeat' split
    all_goals first | (simp_all; done) | grind)
def onMp (x : AV) (K : Sk → (List Value → Option (List IV)) → Prop) [Tg K] : Prop := match x with | .iv (.mp sk g) => K sk g | _ => False
@[simp] theorem b4c {g} {K : Sk → (List Value → Option (List IV)) → Prop} : onMp (.iv (.mp sk g)) K ↔ K sk g := ⟨fun h => h, fun h => h⟩
@[simp] theorem b5c : stp P d s K (.rng sk x) ↔ onMp (((s.frz [s.ev x]).drop d).ev x) fun sk' g => sk' = sk ∧
   ∀ L : List (List Value), L.Nodup → (∀ k, k ∈ L ↔ g k ≠ none) → (∀ k ∈ L, k.mapM kdOf = some sk.2.1) → K (((s.frz [s.ev x]).drop d).add d (.iter sk g L none)) (.ptr d 0) := by
 first
 | exact ⟨fun h => h, fun h => h⟩
 | (simp only [stp, onMp, a2O, a3O, a4O, a5O, a6O, a7O, a8O, a9O, a0P, a4P, a5P, a6P, a7P]; repeat' split
    all_goals first | (simp_all; done) | grind)
def onP0 (x : AV) (K : Nat → Prop) [Tg K] : Prop := match x with | .ptr id 0 => K id | _ => False
@[simp] theorem b6c {K : Nat → Prop} : onP0 (.ptr id 0) K ↔ K id := ⟨fun h => h, fun h => h⟩
@[simp] theorem b7c : stp P d s K (.nxt x) ↔ onP0 (s.ev x) fun id => a5M (look s.hp id) fun sk g left _ => (left = [] → K s (.tup [.iv (.v (.bool false))])) ∧
         ∀ k c, k ∈ left → g k = some c → k.mapM kdOf = some sk.2.1 → K (s.add id (.iter sk g (rmk k left) (some k))) (.tup [vtrue, b7O sk.1 (k.map fun v => .iv (.v v)), b7O sk.2.2 (c.map .iv)]) := by
 first
 | exact ⟨fun h => h, fun h => h⟩
 | (simp only [stp, onP0, a2O, a3O, a4O, a5O, a6O, a7O, a8O, a9O, a0P, a4P, a5P, a6P, a7P]; repeat' split
    all_goals first | (simp_all; done) | grind)
@[simp] theorem b8c : stp P d s K (.ent x) ↔ onP0 (s.ev x) fun id => a5M (look s.hp id) fun sk g _ last => onS last fun k => ∀ c, g k = some c → K s (.tup [b7O sk.1 (k.map fun v => .iv (.v v)), b7O sk.2.2 (c.map .iv)]) := by
 simp only [stp]
 split
 · rename_i i e
   rw [e]
   simp only [onP0]
   cases hl : look s.hp i with
   | none => simp [a5M]
   | some o => cases o with
     | iter sk g left last => cases last <;> simp [a5M]
     | _ => simp [a5M]
 · rename_i hn
   refine ⟨fun h => h.elim, fun h => ?_⟩
   unfold onP0 at h
   split at h
   · rename_i e; exact (hn _ e).elim
   · exact h
end
end
section
variable {n r : St → Prop} {x g : Nat → St → Prop} {s : St} {i : Nat}
theorem b9c : Outs.n ⟨n, x, r, g⟩ s ↔ n s := ⟨fun h => h, fun h => h⟩
theorem b0d : Outs.x ⟨n, x, r, g⟩ i s ↔ x i s := ⟨fun h => h, fun h => h⟩
theorem b1d : Outs.r ⟨n, x, r, g⟩ s ↔ r s := ⟨fun h => h, fun h => h⟩
theorem b2d : Outs.g ⟨n, x, r, g⟩ i s ↔ g i s := ⟨fun h => h, fun h => h⟩
end
attribute [simp ↓] b9c b0d b1d b2d
attribute [simp ↓] onB_b onG_b a7M onD_t onD_f a8M a9M a0N a1N a2N onV_v onI_i onT_t a3N onS_n a4N a5N a6N a7N a8N a9N a0O a1O a4S a5S a6S a7S a8S a9S a0T a1T a2T a3T a4T a5T a6T a7T a8T a9T a0U a1U a2U a3U a4U a5U a6U a7U a8U a9U a0V a1V a2V a3V a4V a5V a6V a7V a9V a0W a1W a2W a3W a4W a5W a6W a7W a8W a9W a0X a1X a2X a3X a4X a5X a6X a7X a8X a9X a0Y a1Y a2Y a3Y a4Y a5Y a6Y a7Y a8Y a9Y a0Z a1Z a2Z a3Z a4Z a5Z a6Z a7Z a8Z a9Z b0a b1a b2a b6a b5a b7a b8a b9a b0b b1b b6b b9b b0c b1c b2c b3c b4c b5c b6c b7c b8c
attribute [simp ↓ low] onD_b onH_t onH_f
end Go.Vm
end

section
namespace Go.Vm
section
variable {P : Program} {d id off : Nat} {s : St} {K : St → AV → Prop} {x y m k : Operand} {sk : Sk} {z : List AV} {ok : Bool}
abbrev Mo := Nat × Sk × Nat × (List Value → Option (List (List IV))) × Option (List Value)
def onZ (z : List AV) (K : Nat → Prop) [Tg K] : Prop := match z with | [.nil sz] => K sz | _ => False
@[simp] theorem c9f {sz : Nat} {K : Nat → Prop} : onZ [.nil sz] K ↔ K sz := ⟨fun h => h, fun h => h⟩
theorem c0g {z : List AV} {K : Nat → Prop} : onZ z K ↔ ∃ sz, z = [.nil sz] ∧ K sz := by
 unfold onZ; split <;> simp_all
def lkpK (d : Nat) (s : St) (sk : Sk) (z : List AV) (m k : Operand) (ok : Bool) (K : St → AV → Prop) [Tg K] : Option Mo → Prop
 | none => onS (s.mapOf (s.ev m)) fun p => onS (b5O (s.ev k)) fun q => p.1 = sk ∧ q.1 = (sk.1, sk.2.1) ∧ K s (lkR z sk.2.2 ok (p.2 q.2))
 | some (id, sk1, sz, g, hole) => onS (b5O ((s.drop d).ev k)) fun q => onZ z fun sz' => ok = false ∧ sk1 = sk ∧ q.1 = (sk.1, sk.2.1) ∧ sz' = sz ∧ hole = none ∧
     (g q.2 = none → K (s.drop d) (.nil sz)) ∧ ∀ xs, g q.2 = some xs → K (((s.drop d).add id (.mapo sk sz (gset g q.2 none) (some q.2))).add d (.lent id sz xs)) (.sl d sz 0 xs.length)
@[simp] theorem c1g : lkpK d s sk z m k ok K none ↔ onS (s.mapOf (s.ev m)) fun p => onS (b5O (s.ev k)) fun q => p.1 = sk ∧ q.1 = (sk.1, sk.2.1) ∧ K s (lkR z sk.2.2 ok (p.2 q.2)) := ⟨fun h => h, fun h => h⟩
@[simp] theorem c2g {sk1 sz g hole} : lkpK d s sk z m k ok K (some (id, sk1, sz, g, hole)) ↔ onS (b5O ((s.drop d).ev k)) fun q => onZ z fun sz' => ok = false ∧ sk1 = sk ∧ q.1 = (sk.1, sk.2.1) ∧ sz' = sz ∧ hole = none ∧
     (g q.2 = none → K (s.drop d) (.nil sz)) ∧ ∀ xs, g q.2 = some xs → K (((s.drop d).add id (.mapo sk sz (gset g q.2 none) (some q.2))).add d (.lent id sz xs)) (.sl d sz 0 xs.length) := ⟨fun h => h, fun h => h⟩
@[simp] theorem c3g : stp P d s K (.lkp sk z m k ok) ↔ lkpK d s sk z m k ok K ((s.drop d).moOf ((s.drop d).ev m)) := by
 simp only [stp]
 split
 · rename_i id sk1 sz g hole e
   rw [e]
   simp only [c2g]
   split
   · rename_i sk2 kk sz' e2
     rw [e2]
     simp only [a3N, c9f]
     cases hg : g kk <;> simp
   · rename_i hn
     refine ⟨fun h => h.elim, fun h => ?_⟩
     obtain ⟨q, e2, h⟩ := a9O.1 h
     obtain ⟨sz', e3, h⟩ := c0g.1 h
     exact hn _ _ _ e2 e3
 · rename_i e
   rw [e]
   simp only [c1g]
   split
   · rename_i e1 e2; rw [e1, e2]; exact ⟨fun h => h, fun h => h⟩
   · rename_i hn
     refine ⟨fun h => h.elim, fun h => ?_⟩
     obtain ⟨q, e2, h⟩ := a9O.1 h
     obtain ⟨p, e3, h⟩ := a9O.1 h
     exact hn _ _ _ _ e2 e3
def onSl (x : AV) (K : Nat → Nat → Nat → Prop) [Tg K] : Prop := match x with | .sl id sz 0 len => K id sz len | _ => False
@[simp] theorem c4g {sz len : Nat} {K : Nat → Nat → Nat → Prop} : onSl (.sl id sz 0 len) K ↔ K id sz len := ⟨fun h => h, fun h => h⟩
theorem c5g {x : AV} {K : Nat → Nat → Nat → Prop} : onSl x K ↔ ∃ id sz len, x = .sl id sz 0 len ∧ K id sz len := by
 unfold onSl
 split
 · exact ⟨fun h => ⟨_, _, _, rfl, h⟩, fun ⟨_, _, _, e, h⟩ => by cases e; exact h⟩
 · rename_i hn; exact ⟨fun h => h.elim, fun ⟨_, _, _, e, h⟩ => (hn _ _ _ e).elim⟩
def msetK (s : St) (sk : Sk) (m k x : Operand) (K : St → AV → Prop) [Tg K] : Option Mo → Prop
 | none => a6M ((s.frz [s.ev x]).unr ((s.frz [s.ev x]).ev m)) fun id => onS (b5O ((s.frz [s.ev x]).ev k)) fun q => onS (((s.frz [s.ev x]).ev x).cellsOf.bind fun cs => allO AV.iv? cs) fun c => a3M (look (s.frz [s.ev x]).hp id) fun sk1 g =>
     sk1 = sk ∧ q.1 = (sk.1, sk.2.1) ∧ b6O ((s.frz [s.ev x]).ev x) = sk.2.2 ∧ K ((s.frz [s.ev x]).add id (.map sk (gset g q.2 (some c)))) .un
 | some (id, sk1, sz, g, hole) => onS (b5O (s.ev k)) fun q => onSl (s.ev x) fun d' sz' len => onS (look s.hp d') fun o => onS o.els fun xs =>
     sk1 = sk ∧ q.1 = (sk.1, sk.2.1) ∧ sz' = sz ∧ d' < 1000 ∧ d' ≠ id ∧ len = xs.2.length ∧ (o.org? = none ∨ o.org? = some id) ∧
           (hole = some q.2 ∨ (hole = none ∧ g q.2 = none)) ∧ K ((s.kill d').add id (.mapo sk sz (gset g q.2 (some xs.2)) none)) .un
@[simp] theorem c6g : msetK s sk m k x K none ↔ a6M ((s.frz [s.ev x]).unr ((s.frz [s.ev x]).ev m)) fun id => onS (b5O ((s.frz [s.ev x]).ev k)) fun q => onS (((s.frz [s.ev x]).ev x).cellsOf.bind fun cs => allO AV.iv? cs) fun c => a3M (look (s.frz [s.ev x]).hp id) fun sk1 g =>
     sk1 = sk ∧ q.1 = (sk.1, sk.2.1) ∧ b6O ((s.frz [s.ev x]).ev x) = sk.2.2 ∧ K ((s.frz [s.ev x]).add id (.map sk (gset g q.2 (some c)))) .un := ⟨fun h => h, fun h => h⟩
@[simp] theorem c7g {sk1 sz g hole} : msetK s sk m k x K (some (id, sk1, sz, g, hole)) ↔ onS (b5O (s.ev k)) fun q => onSl (s.ev x) fun d' sz' len => onS (look s.hp d') fun o => onS o.els fun xs =>
     sk1 = sk ∧ q.1 = (sk.1, sk.2.1) ∧ sz' = sz ∧ d' < 1000 ∧ d' ≠ id ∧ len = xs.2.length ∧ (o.org? = none ∨ o.org? = some id) ∧
           (hole = some q.2 ∨ (hole = none ∧ g q.2 = none)) ∧ K ((s.kill d').add id (.mapo sk sz (gset g q.2 (some xs.2)) none)) .un := ⟨fun h => h, fun h => h⟩
@[simp] theorem c8g : stp P d s K (.mset sk m k x) ↔ msetK s sk m k x K (s.moOf (s.ev m)) := by
 simp only [stp]
 split
 · rename_i id sk1 sz g hole e
   rw [e]
   simp only [c7g]
   split
   · rename_i sk2 kk d' sz' len e1 e2
     rw [e1, e2]
     simp only [a3N, c4g]
     cases look s.hp d' with
     | none => simp
     | some o =>
       simp only [a3N]
       cases o.els with
       | none => simp
       | some p => obtain ⟨_, xs⟩ := p; simp
   · rename_i hn
     refine ⟨fun h => h.elim, fun h => ?_⟩
     obtain ⟨q, e2, h⟩ := a9O.1 h
     obtain ⟨_, _, _, e3, h⟩ := c5g.1 h
     exact hn _ _ _ _ _ e2 e3
 · rename_i e
   rw [e]
   simp only [c6g, a8V]
   split
   · rename_i id sk2 kk c e1 e2 e3
     rw [e1, e2, e3]
     simp only [a1O, a3N]
     split
     · rename_i sk1 g e4; rw [e4]; simp
     · rename_i hn
       refine ⟨fun h => h.elim, fun h => ?_⟩
       obtain ⟨_, _, e4, h⟩ := a5P.1 h
       exact hn _ _ e4
   · rename_i hn
     refine ⟨fun h => h.elim, fun h => ?_⟩
     obtain ⟨id, e1, h⟩ := a7O.1 h
     obtain ⟨q, e2, h⟩ := a9O.1 h
     obtain ⟨c, e3, h⟩ := a9O.1 h
     exact hn _ _ _ _ e1 e2 e3
end
section
variable {id sz lo len i off : Nat} {x : IV} {cs : List AV} {f : FuncId} {a b : List CapV} {s : St}
@[simp] theorem c9g : AV.cellsOf (.agg cs) = some cs := rfl
@[simp] theorem c0h : AV.cellsOf (.iv x) = some [.iv x] := rfl
@[simp] theorem c1h : AV.cellsOf (.nil sz) = some [.nil sz] := rfl
@[simp] theorem c2h : AV.cellsOf (.sl id sz lo len) = some [.sl id sz lo len] := rfl
@[simp] theorem c3h : AV.cellsOf (.ptr id off) = some [.ptr id off] := rfl
@[simp] theorem c4h : AV.cellsOf (.ep id sz i off) = some [.ep id sz i off] := rfl
@[simp] theorem c5h : AV.cellsOf (.mpr id) = some [.mpr id] := rfl
@[simp] theorem c6h : AV.cellsOf (.fn f a b) = some [.fn f a b] := rfl
@[simp] theorem c7h : AV.one (.iv x) = true := rfl
@[simp] theorem one_nil : AV.one (.nil sz) = true := rfl
@[simp] theorem one_sl : AV.one (.sl id sz lo len) = true := rfl
@[simp] theorem one_ptr : AV.one (.ptr id off) = true := rfl
@[simp] theorem one_ep : AV.one (.ep id sz i off) = true := rfl
@[simp] theorem one_mpr : AV.one (.mpr id) = true := rfl
@[simp] theorem one_fn : AV.one (.fn f a b) = true := rfl
@[simp] theorem ivq_iv : AV.iv? (.iv x) = some x := rfl
@[simp] theorem ivq_nil : AV.iv? (.nil sz) = some (.lst sz []) := rfl
@[simp] theorem ivc_iv : AV.ivc (.iv x) = some x := rfl
@[simp] theorem ivc_nil : AV.ivc (.nil sz) = some (.lst sz []) := rfl
@[simp] theorem ivc_sl : AV.ivc (.sl id sz lo len) = none := rfl
@[simp] theorem ivc_ptr : AV.ivc (.ptr id off) = none := rfl
@[simp] theorem ivc_mpr : AV.ivc (.mpr id) = none := rfl
@[simp] theorem ivc_fn : AV.ivc (.fn f a b) = none := rfl
@[simp] theorem c8h : b5H [] = some [] := rfl
@[simp] theorem ivAll_iv : b5H (.iv x :: cs) = (b5H cs).map fun l => x :: l := rfl
@[simp] theorem ivAll_ni : b5H (.nil sz :: cs) = (b5H cs).map fun l => .lst sz [] :: l := rfl
@[simp] theorem ivAll_sl : b5H (.sl id sz lo len :: cs) = none := rfl
@[simp] theorem c9h : b5H (.mpr id :: cs) = none := rfl
@[simp] theorem c0i : b5H (.ptr id off :: cs) = none := rfl
@[simp] theorem ivAll_fn : b5H (.fn f a b :: cs) = none := rfl
@[simp] theorem c1i {l : List IV} : b5H (l.map .iv) = some l := by
 induction l with
 | nil => rfl
 | cons x l ih => simp [ih]
@[simp] theorem allO_nil {α β : Type} {g : α → Option β} : allO g [] = some [] := rfl
@[simp] theorem allO_ivs {l : List IV} : allO AV.iv? (l.map .iv) = some l := by
 induction l with
 | nil => rfl
 | cons x l ih => simp [allO, ih]
@[simp] theorem allO_iv : allO AV.iv? (.iv x :: cs) = (allO AV.iv? cs).map fun l => x :: l := rfl
@[simp] theorem allO_niv : allO AV.iv? (.nil sz :: cs) = (allO AV.iv? cs).map fun l => .lst sz [] :: l := rfl
@[simp] theorem c2i : allO AV.cap (.ptr id off :: cs) = (allO AV.cap cs).map fun l => .ptr id off :: l := rfl
@[simp] theorem c3i : allO AV.cap (.iv x :: cs) = (allO AV.cap cs).map fun l => .val x :: l := rfl
@[simp] theorem c4i : allO AV.cap (.nil sz :: cs) = (allO AV.cap cs).map fun l => .val (.lst sz []) :: l := rfl
@[simp] theorem c5i : CapV.av (.ptr id off) = .ptr id off := rfl
@[simp] theorem c6i : CapV.av (.val x) = .iv x := rfl
@[simp] theorem c7i : b6O (.agg cs) = true := rfl
@[simp] theorem isAgg_iv : b6O (.iv x) = false := rfl
@[simp] theorem c8i : b6O (.nil sz) = false := rfl
@[simp] theorem pack_t : b7O true cs = .agg cs := rfl
@[simp] theorem pack_f {y : AV} : b7O false [y] = y := rfl
@[simp] theorem lkR_s {z : List AV} {ag ok : Bool} {c : List IV} : lkR z ag ok (some c) = if ok then .tup [b7O ag (c.map .iv), .iv (.v (.bool true))] else b7O ag (c.map .iv) := rfl
@[simp] theorem lkR_n {z : List AV} {ag ok : Bool} : lkR z ag ok none = if ok then .tup [b7O ag z, .iv (.v (.bool false))] else b7O ag z := rfl
@[simp] theorem kd_b {b : Bool} : kdOf (.bool b) = some .b := rfl
@[simp] theorem kd_i {k : IntKind} {n : Int} : kdOf (.int k n) = some (.i k) := rfl
@[simp] theorem kd_s {t : ByteArray} : kdOf (.string t) = some .s := rfl
@[simp] theorem keyAV_b {b : Bool} : b5O (.iv (.v (.bool b))) = some ((false, [.b]), [.bool b]) := rfl
@[simp] theorem keyAV_i {k : IntKind} {n : Int} : b5O (.iv (.v (.int k n))) = some ((false, [.i k]), [.int k n]) := rfl
@[simp] theorem keyAV_s {t : ByteArray} : b5O (.iv (.v (.string t))) = some ((false, [.s]), [.string t]) := rfl
@[simp] theorem c9i : b5O (.agg cs) = (allO b4O cs).map fun l => ((true, l.map (·.1)), l.map (·.2)) := by simp [b5O, a8V]
@[simp] theorem c0j {b : Bool} : allO b4O (.iv (.v (.bool b)) :: cs) = (allO b4O cs).map fun l => (.b, .bool b) :: l := rfl
@[simp] theorem c1j {k : IntKind} {n : Int} : allO b4O (.iv (.v (.int k n)) :: cs) = (allO b4O cs).map fun l => (.i k, .int k n) :: l := rfl
@[simp] theorem c2j {t : ByteArray} : allO b4O (.iv (.v (.string t)) :: cs) = (allO b4O cs).map fun l => (.s, .string t) :: l := rfl
theorem c3j (a b : ByteArray) : (a == b) = decide (a = b) := by
 cases a with | mk x => cases b with | mk y =>
 rw [Bool.eq_iff_iff, decide_eq_true_eq, ByteArray.mk.injEq, ← beq_iff_eq (a := x) (b := y)]
 exact ⟨fun h => h, fun h => h⟩
@[simp] theorem c4j : b6Q [] [] [] = some true := rfl
@[simp] theorem c5j {ks : List Kd} {a b : Bool} {r q : List AV} : b6Q (.b :: ks) (.iv (.v (.bool a)) :: r) (.iv (.v (.bool b)) :: q) = (b6Q ks r q).map fun y => (a == b) && y := rfl
@[simp] theorem c6j {ks : List Kd} {k : IntKind} {a b : Int} {r q : List AV} : b6Q (.i k :: ks) (.iv (.v (.int .i64 a)) :: r) (.iv (.v (.int .i64 b)) :: q) = (b6Q ks r q).map fun y => (a == b) && y := rfl
@[simp] theorem c7j {ks : List Kd} {a b : ByteArray} {r q : List AV} : b6Q (.s :: ks) (.iv (.v (.string a)) :: r) (.iv (.v (.string b)) :: q) = (b6Q ks r q).map fun y => decide (a = b) && y := by rw [← c3j]; rfl
theorem c8j {a b : ByteArray} : b3Q a b = decide (a = b) := by
 unfold b3Q
 rw [Bool.eq_iff_iff]
 simp only [beq_iff_eq, decide_eq_true_eq]
 constructor
 · intro h
   have e : a.data.toList = b.data.toList := by simpa [ByteArray.toList_eq] using h
   cases a; cases b
   simp only at e
   congr 1
   exact Array.toList_inj.1 e
 · rintro rfl; rfl
@[simp] theorem bin_add {k k' : IntKind} {m n : Int} : binV .add (.int .i64 m) (.int .i64 n) = some (.int .i64 (IntKind.i64.wrap (m + n))) := rfl
@[simp] theorem bin_sub {m n : Int} : binV .sub (.int .i64 m) (.int .i64 n) = some (.int .i64 (IntKind.i64.wrap (m - n))) := rfl
@[simp] theorem bin_mul {m n : Int} : binV .mul (.int .i64 m) (.int .i64 n) = some (.int .i64 (IntKind.i64.wrap (m * n))) := rfl
@[simp] theorem bin_rem {m n : Int} : binV .rem (.int .i64 m) (.int .i64 n) = if n = 0 then none else some (.int .i64 (m.tmod n)) := rfl
@[simp] theorem bin_and {m n : Int} : binV .and (.int .i64 m) (.int .i64 n) = some (.int .i64 (b1Q .and .i64 m n)) := rfl
@[simp] theorem bin_eql {k : IntKind} {m n : Int} : binV .eql (.int k m) (.int k n) = some (.bool (m == n)) := by simp [binV, binI]
@[simp] theorem bin_neq {k : IntKind} {m n : Int} : binV .neq (.int k m) (.int k n) = some (.bool (m != n)) := by simp [binV, binI]
@[simp] theorem bin_lss {k : IntKind} {m n : Int} : binV .lss (.int k m) (.int k n) = some (.bool (decide (m < n))) := by simp [binV, binI]
@[simp] theorem bin_leq {k : IntKind} {m n : Int} : binV .leq (.int k m) (.int k n) = some (.bool (decide (m ≤ n))) := by simp [binV, binI]
@[simp] theorem bin_gtr {k : IntKind} {m n : Int} : binV .gtr (.int k m) (.int k n) = some (.bool (decide (n < m))) := by simp [binV, binI]
@[simp] theorem bin_geq {k : IntKind} {m n : Int} : binV .geq (.int k m) (.int k n) = some (.bool (decide (n ≤ m))) := by simp [binV, binI]
@[simp] theorem bins_eql {m n : ByteArray} : binV .eql (.string m) (.string n) = some (.bool (decide (m = n))) := by rw [← c8j]; rfl
@[simp] theorem bins_neq {m n : ByteArray} : binV .neq (.string m) (.string n) = some (.bool !(decide (m = n))) := by rw [← c8j]; rfl
@[simp] theorem bins_lss {m n : ByteArray} : binV .lss (.string m) (.string n) = some (.bool (b4Q m n)) := rfl
@[simp] theorem bins_leq {m n : ByteArray} : binV .leq (.string m) (.string n) = some (.bool (b4Q m n || decide (m = n))) := by rw [← c8j]; rfl
@[simp] theorem bins_gtr {m n : ByteArray} : binV .gtr (.string m) (.string n) = some (.bool !(b4Q m n || decide (m = n))) := by rw [← c8j]; rfl
@[simp] theorem un_not {b : Bool} : unV .not (.bool b) = some (.bool (!b)) := rfl
@[simp] theorem un_neg {n : Int} : unV .neg (.int .i64 n) = some (.int .i64 (IntKind.i64.wrap (0 - n))) := rfl
@[simp] theorem bound_n {d : Nat} : s.bound d none = some (d : Int) := rfl
def AV.int? : AV → Option Int
 | .iv (.v (.int _ n)) => some n
 | _ => none
@[simp] theorem int?_i {k : IntKind} {n : Int} : AV.int? (.iv (.v (.int k n))) = some n := rfl
@[simp] theorem bound_s {d : Nat} {x : Operand} : s.bound d (some x) = (s.ev x).int? := by
 simp only [St.bound]
 cases s.ev x with
 | iv x => cases x with
   | v u => cases u <;> rfl
   | _ => rfl
 | _ => rfl
@[simp] theorem ev_tmp {t : Nat} : s.ev (.tmp t) = s.get t := rfl
@[simp] theorem ev_b {b : Bool} : s.ev (.const (.bool b)) = .iv (.v (.bool b)) := rfl
@[simp] theorem ev_i {k : IntKind} {n : Int} : s.ev (.const (.int k n)) = .iv (.v (.int k n)) := rfl
@[simp] theorem ev_s {t : ByteArray} : s.ev (.const (.string t)) = .iv (.v (.string t)) := rfl
@[simp] theorem ev_f {f : FuncId} : s.ev (.func f) = .fn f [] [] := rfl
@[simp] theorem elems_iv {xs : List (List IV)} : s.elems (.iv (.lst sz xs)) = some (sz, xs) := rfl
@[simp] theorem c9j : s.elems (.nil sz) = some (sz, []) := rfl
@[simp] theorem elems_sl : s.elems (.sl id sz lo len) = ((look s.hp id).bind Ob.els).map fun p => (sz, (p.2.drop lo).take len) := by
 simp only [St.elems]
 cases look s.hp id with
 | none => rfl
 | some o => cases h : o.els <;> simp [h]
@[simp] theorem els_list {xs : List (List IV)} : Ob.els (.list sz xs) = some (sz, xs) := rfl
@[simp] theorem els_lent {xs : List (List IV)} : Ob.els (.lent id sz xs) = some (sz, xs) := rfl
@[simp] theorem c0k {z : Nat} {xs ys : List (List IV)} : Ob.setEls (.list z ys) sz xs = .list sz xs := rfl
@[simp] theorem c1k {z : Nat} {xs ys : List (List IV)} : Ob.setEls (.lent id z ys) sz xs = .lent id sz xs := rfl
@[simp] theorem org_list {xs : List (List IV)} : Ob.org? (.list sz xs) = none := rfl
@[simp] theorem org_lent {xs : List (List IV)} : Ob.org? (.lent id sz xs) = some id := rfl
def moH (id : Nat) : Option Ob → Option Mo
 | some (.mapo sk sz g hole) => some (id, sk, sz, g, hole)
 | _ => none
def maH : Option Ob → Option (Sk × (List Value → Option (List IV)))
 | some (.map sk g) => some (sk, g)
 | some (.mapS sk g _ _) => some (sk, g)
 | _ => none
@[simp] theorem moH_mapo {sk g hole} : moH id (some (.mapo sk sz g hole)) = some (id, sk, sz, g, hole) := rfl
@[simp] theorem moH_map {sk g} : moH id (some (.map sk g)) = none := rfl
@[simp] theorem moH_mapS {sk g n k} : moH id (some (.mapS sk g n k)) = none := rfl
@[simp] theorem maH_map {sk g} : maH (some (.map sk g)) = some (sk, g) := rfl
@[simp] theorem maH_mapS {sk g n k} : maH (some (.mapS sk g n k)) = some (sk, g) := rfl
@[simp] theorem c2k : s.mapOf (.mpr id) = maH (look s.hp id) := rfl
@[simp] theorem mapOf_mp {sk g} : s.mapOf (.iv (.mp sk g)) = some (sk, g) := rfl
@[simp] theorem moOf_mpr : s.moOf (.mpr id) = moH id (look s.hp id) := rfl
@[simp] theorem moOf_iv : s.moOf (.iv x) = none := rfl
@[simp] theorem ids_iv : AV.ids (.iv x) = [] := rfl
@[simp] theorem ids_nil : AV.ids (.nil sz) = [] := rfl
@[simp] theorem ids_un : AV.ids .un = [] := rfl
@[simp] theorem ids_ptr : AV.ids (.ptr id off) = [] := rfl
@[simp] theorem ids_fn : AV.ids (.fn f a b) = [] := rfl
@[simp] theorem ids_sl : AV.ids (.sl id sz lo len) = [id] := rfl
@[simp] theorem ids_mpr : AV.ids (.mpr id) = [id] := rfl
@[simp] theorem frz_nil : s.frz [] = s := rfl
@[simp] theorem frz_iv {l : List AV} : s.frz (.iv x :: l) = s.frz l := rfl
@[simp] theorem frz_ni {l : List AV} : s.frz (.nil sz :: l) = s.frz l := rfl
@[simp] theorem frz_ptr {l : List AV} : s.frz (.ptr id off :: l) = s.frz l := rfl
@[simp] theorem frz_fn {l : List AV} : s.frz (.fn f a b :: l) = s.frz l := rfl
@[simp] theorem frz_sl {l : List AV} : s.frz (.sl id sz lo len :: l) = (if id < 1000 then s.drop id else s).frz l := rfl
@[simp] theorem frz_mpr {l : List AV} : s.frz (.mpr id :: l) = (if id < 1000 then s.drop id else s).frz l := rfl
@[simp] theorem frz_ivs {l : List IV} {r : List AV} : s.frz (.agg (l.map .iv) :: r) = s.frz r := by
 have : AV.ids (.agg (l.map .iv)) = [] := by
   simp only [AV.ids]
   induction l with
   | nil => rfl
   | cons x l ih => simp [ih]
 simp [St.frz, this]
@[simp] theorem c3k {r : List AV} : s.frz (.agg [] :: r) = s.frz r := rfl
@[simp] theorem c4k {l r : List AV} : s.frz (.agg (.iv x :: l) :: r) = s.frz (.agg l :: r) := rfl
@[simp] theorem c5k {l r : List AV} : s.frz (.agg (.nil sz :: l) :: r) = s.frz (.agg l :: r) := rfl
@[simp] theorem c6k {l r : List AV} : s.frz (.agg (.fn f a b :: l) :: r) = s.frz (.agg l :: r) := rfl
@[simp] theorem c7k {l r : List AV} : s.frz (.agg (.sl id sz lo len :: l) :: r) = (if id < 1000 then s.drop id else s).frz (.agg l :: r) := rfl
@[simp] theorem look_n {α : Type} {k : Nat} : look ([] : List (Nat × α)) k = none := rfl
@[simp] theorem look_c {α : Type} {j k : Nat} {y : α} {r : List (Nat × α)} : look ((j, y) :: r) k = if j = k then some y else look r k := rfl
@[simp] theorem c8k {z : List AV} : b7K s z [] = some z := rfl
@[simp] theorem litA_nil : litA s sz [] = some [] := rfl
@[simp] theorem mm_i {mx : Bool} {k : IntKind} {n : Int} {r : List AV} : b8Q mx (.iv (.v (.int k n)) :: r) = b7Q mx k n r := rfl
@[simp] theorem mmf_nil {mx : Bool} {k : IntKind} {n : Int} : b7Q mx k n [] = some (k, n) := rfl
@[simp] theorem mmf_i {mx : Bool} {k j : IntKind} {n m : Int} {r : List AV} : b7Q mx k n (.iv (.v (.int j m)) :: r) = b7Q mx k (if mx then max n m else min n m) r := rfl
@[simp] theorem kc_iv {p : Nat → Bool} : AV.kc p (.iv x) = .iv x := rfl
@[simp] theorem kc_nil {p : Nat → Bool} : AV.kc p (.nil sz) = .nil sz := rfl
@[simp] theorem kc_un {p : Nat → Bool} : AV.kc p .un = .un := rfl
@[simp] theorem kc_junk {p : Nat → Bool} : AV.kc p .junk = .junk := rfl
@[simp] theorem kc_ptr {p : Nat → Bool} : AV.kc p (.ptr id off) = if p id then .junk else .ptr id off := rfl
@[simp] theorem kc_sl {p : Nat → Bool} : AV.kc p (.sl id sz lo len) = if p id then .junk else .sl id sz lo len := rfl
@[simp] theorem kc_ep {p : Nat → Bool} : AV.kc p (.ep id sz i off) = if p id then .junk else .ep id sz i off := rfl
@[simp] theorem kc_mpr {p : Nat → Bool} : AV.kc p (.mpr id) = if p id then .junk else .mpr id := rfl
@[simp] theorem kc_fn {p : Nat → Bool} : AV.kc p (.fn f a b) = if a.any (CapV.of p) || b.any (CapV.of p) then .junk else .fn f a b := rfl
@[simp] theorem kc_aggj {p : Nat → Bool} : AV.kc p (.agg cs) = .junk := rfl
@[simp] theorem kc_tupj {p : Nat → Bool} : AV.kc p (.tup cs) = .junk := rfl
@[simp] theorem cof_ptr {p : Nat → Bool} : CapV.of p (.ptr id off) = p id := rfl
@[simp] theorem cof_val {p : Nat → Bool} : CapV.of p (.val x) = false := rfl
@[simp] theorem mapc_iv {g : AV → AV} : AV.mapc g (.iv x) = g (.iv x) := rfl
@[simp] theorem mapc_ni {g : AV → AV} : AV.mapc g (.nil sz) = g (.nil sz) := rfl
@[simp] theorem mapc_un {g : AV → AV} : AV.mapc g .un = g .un := rfl
@[simp] theorem c9k {g : AV → AV} : AV.mapc g .junk = g .junk := rfl
@[simp] theorem mapc_ptr {g : AV → AV} : AV.mapc g (.ptr id off) = g (.ptr id off) := rfl
@[simp] theorem mapc_sl {g : AV → AV} : AV.mapc g (.sl id sz lo len) = g (.sl id sz lo len) := rfl
@[simp] theorem mapc_ep {g : AV → AV} : AV.mapc g (.ep id sz i off) = g (.ep id sz i off) := rfl
@[simp] theorem mapc_mpr {g : AV → AV} : AV.mapc g (.mpr id) = g (.mpr id) := rfl
@[simp] theorem mapc_fn {g : AV → AV} : AV.mapc g (.fn f a b) = g (.fn f a b) := rfl
@[simp] theorem mapc_agg {g : AV → AV} : AV.mapc g (.agg cs) = .agg (cs.map g) := rfl
@[simp] theorem mapc_tup {g : AV → AV} : AV.mapc g (.tup cs) = .tup (cs.map (AV.map1 g)) := rfl
@[simp] theorem map1_iv {g : AV → AV} : AV.map1 g (.iv x) = g (.iv x) := rfl
@[simp] theorem map1_agg {g : AV → AV} : AV.map1 g (.agg cs) = .agg (cs.map g) := rfl
@[simp] theorem c0l {g : AV → AV} : Ob.mapc g (.box cs) = .box (cs.map g) := rfl
@[simp] theorem c1l {g : AV → AV} {xs : List (List IV)} : Ob.mapc g (.list sz xs) = .list sz xs := rfl
@[simp] theorem c2l {g : AV → AV} {xs : List (List IV)} : Ob.mapc g (.lent id sz xs) = .lent id sz xs := rfl
@[simp] theorem c3l {g : AV → AV} {sk h} : Ob.mapc g (.map sk h) = .map sk h := rfl
@[simp] theorem c4l {g : AV → AV} {sk h n k} : Ob.mapc g (.mapS sk h n k) = .mapS sk h n k := rfl
@[simp] theorem c5l {g : AV → AV} {sk h k} : Ob.mapc g (.mapo sk sz h k) = .mapo sk sz h k := rfl
@[simp] theorem c6l {g : AV → AV} {sk h l k} : Ob.mapc g (.iter sk h l k) = .iter sk h l k := rfl
end
def gone (id : Nat) (o : Ob) (x : AV) : AV := (x.fc id o).kc (· == id)
def goneP (off : Nat) : Option (List IV) → AV
 | some l => .iv (.pt (l.drop off))
 | none => .junk
def gonF (id : Nat) (o : Ob) : List (Nat × AV) → List (Nat × AV)
 | [] => []
 | (t, x) :: r => (t, x.mapc (gone id o)) :: gonF id o r
def gonH (id : Nat) (o : Ob) : Hp → Hp
 | [] => []
 | (j, q) :: r => if j = id then gonH id o r else (j, q.mapc (gone id o)) :: gonH id o r
def dropH (id : Nat) (fr : List (Nat × AV)) (hp : Hp) : Option Ob → St
 | none => ⟨fr, hp⟩
 | some o => ⟨gonF id o fr, gonH id o hp⟩
section
variable {id : Nat} {o : Ob}
@[simp] theorem goneP_s {off : Nat} {l : List IV} : goneP off (some l) = .iv (.pt (l.drop off)) := rfl
@[simp] theorem goneP_n {off : Nat} : goneP off none = .junk := rfl
@[simp] theorem gonF_nil : gonF id o [] = [] := rfl
@[simp] theorem c7l {t : Nat} {x : AV} {r : List (Nat × AV)} : gonF id o ((t, x) :: r) = (t, x.mapc (gone id o)) :: gonF id o r := rfl
@[simp] theorem gonH_nil : gonH id o [] = [] := rfl
@[simp] theorem c8l {j : Nat} {q : Ob} {r : Hp} : gonH id o ((j, q) :: r) = if j = id then gonH id o r else (j, q.mapc (gone id o)) :: gonH id o r := rfl
@[simp] theorem dropH_n {fr : List (Nat × AV)} {hp : Hp} : dropH id fr hp none = ⟨fr, hp⟩ := rfl
@[simp] theorem dropH_s {fr : List (Nat × AV)} {hp : Hp} : dropH id fr hp (some o) = ⟨gonF id o fr, gonH id o hp⟩ := rfl
theorem c9l (fr : List (Nat × AV)) : gonF id o fr = fr.map fun (t, x) => (t, x.mapc fun x => (x.fc id o).kc (· == id)) := by
 induction fr with
 | nil => rfl
 | cons p r ih => obtain ⟨t, x⟩ := p; simp only [gonF, List.map_cons, ih]; rfl
theorem c0m (hp : Hp) : gonH id o hp = (hp.map fun (t, x) => (t, x.mapc fun x => (x.fc id o).kc (· == id))).filter (·.1 != id) := by
 induction hp with
 | nil => rfl
 | cons p r ih =>
   obtain ⟨t, x⟩ := p
   simp only [gonH, List.map_cons, List.filter_cons, ih]
   by_cases h : t = id
   · simp [h]
   · simp [h]; rfl
@[simp] theorem drop_mk {fr : List (Nat × AV)} {hp : Hp} : St.drop id ⟨fr, hp⟩ = dropH id fr hp (look hp id) := by
 simp only [St.drop]
 cases look hp id with
 | none => rfl
 | some o => simp only [dropH, c9l, c0m]; rfl
@[simp] theorem c2m {x : IV} : gone id o (.iv x) = .iv x := rfl
@[simp] theorem gone_nil {sz : Nat} : gone id o (.nil sz) = .nil sz := rfl
@[simp] theorem gone_un : gone id o .un = .un := rfl
@[simp] theorem c3m : gone id o .junk = .junk := rfl
@[simp] theorem gone_fn {f : FuncId} {a b : List CapV} : gone id o (.fn f a b) = AV.kc (· == id) (.fn f (a.map (CapV.fc id o)) (b.map (CapV.fc id o))) := rfl
@[simp] theorem c4m {x : IV} : CapV.fc id o (.val x) = .val x := rfl
def capP (j off : Nat) : Option (List IV) → CapV
 | some l => .val (.pt (l.drop off))
 | none => .ptr j off
@[simp] theorem capP_s {j off : Nat} {l : List IV} : capP j off (some l) = .val (.pt (l.drop off)) := rfl
@[simp] theorem capP_n {j off : Nat} : capP j off none = .ptr j off := rfl
@[simp] theorem c5m {cs : List AV} {j off : Nat} : CapV.fc id (.box cs) (.ptr j off) = if j = id then capP j off (b5H cs) else .ptr j off := by
 simp only [CapV.fc]; split
 · cases b5H cs <;> rfl
 · rfl
@[simp] theorem c6m {cs : List AV} {j sz2 lo len : Nat} : gone id (.box cs) (.sl j sz2 lo len) = if j = id then .junk else .sl j sz2 lo len := by
 by_cases h : j = id <;> simp [gone, AV.fc, h]
@[simp] theorem c7m {cs : List AV} {j sz2 i off : Nat} : gone id (.box cs) (.ep j sz2 i off) = if j = id then .junk else .ep j sz2 i off := by
 by_cases h : j = id <;> simp [gone, AV.fc, h]
@[simp] theorem c8m {cs : List AV} {j : Nat} : gone id (.box cs) (.mpr j) = if j = id then .junk else .mpr j := by
 by_cases h : j = id <;> simp [gone, AV.fc, h]
@[simp] theorem c9m {cs : List AV} {j off : Nat} : gone id (.box cs) (.ptr j off) = if j = id then goneP off (b5H cs) else .ptr j off := by
 by_cases h : j = id <;> simp [gone, AV.fc, h]
 cases b5H cs <;> simp
@[simp] theorem c0n {sz : Nat} {xs : List (List IV)} {j off : Nat} : CapV.fc id (.list sz xs) (.ptr j off) = .ptr j off := by
 simp only [CapV.fc, ite_self]
@[simp] theorem c1n {sz : Nat} {xs : List (List IV)} {j sz2 lo len : Nat} : gone id (.list sz xs) (.sl j sz2 lo len) = if j = id then .iv (.lst sz2 ((xs.drop lo).take len)) else .sl j sz2 lo len := by
 by_cases h : j = id <;> simp [gone, AV.fc, h]
@[simp] theorem c2n {sz : Nat} {xs : List (List IV)} {j sz2 i off : Nat} : gone id (.list sz xs) (.ep j sz2 i off) = if j = id then .iv (.pt ((xs.getD i []).drop off)) else .ep j sz2 i off := by
 by_cases h : j = id <;> simp [gone, AV.fc, h]
@[simp] theorem c3n {sz : Nat} {xs : List (List IV)} {j : Nat} : gone id (.list sz xs) (.mpr j) = if j = id then .junk else .mpr j := by
 by_cases h : j = id <;> simp [gone, AV.fc, h]
@[simp] theorem c4n {sz : Nat} {xs : List (List IV)} {j off : Nat} : gone id (.list sz xs) (.ptr j off) = if j = id then .junk else .ptr j off := by
 by_cases h : j = id <;> simp [gone, AV.fc, h]
@[simp] theorem c5n {sk : Sk} {g : List Value → Option (List IV)} {j off : Nat} : CapV.fc id (.map sk g) (.ptr j off) = .ptr j off := by
 simp only [CapV.fc, ite_self]
attribute [simp] c1e
@[simp] theorem c6n {Z : GZ} {vs : List Value} {cs : List AV} {j sz2 lo len : Nat} : gone id (.gh Z vs cs) (.sl j sz2 lo len) = if j = id then .junk else .sl j sz2 lo len := by
 by_cases h : j = id <;> simp [gone, AV.fc, h]
@[simp] theorem c7n {Z : GZ} {vs : List Value} {cs : List AV} {j sz2 i off : Nat} : gone id (.gh Z vs cs) (.ep j sz2 i off) = if j = id then .junk else .ep j sz2 i off := by
 by_cases h : j = id <;> simp [gone, AV.fc, h]
@[simp] theorem c8n {Z : GZ} {vs : List Value} {cs : List AV} {j : Nat} : gone id (.gh Z vs cs) (.mpr j) = if j = id then .junk else .mpr j := by
 by_cases h : j = id <;> simp [gone, AV.fc, h]
@[simp] theorem c9n {Z : GZ} {vs : List Value} {cs : List AV} {j off : Nat} : gone id (.gh Z vs cs) (.ptr j off) = if j = id then .junk else .ptr j off := by
 by_cases h : j = id <;> simp [gone, AV.fc, h]
@[simp] theorem c0o {sk : Sk} {g : List Value → Option (List IV)} {j sz2 lo len : Nat} : gone id (.map sk g) (.sl j sz2 lo len) = if j = id then .junk else .sl j sz2 lo len := by
 by_cases h : j = id <;> simp [gone, AV.fc, h]
@[simp] theorem c1o {sk : Sk} {g : List Value → Option (List IV)} {j sz2 i off : Nat} : gone id (.map sk g) (.ep j sz2 i off) = if j = id then .junk else .ep j sz2 i off := by
 by_cases h : j = id <;> simp [gone, AV.fc, h]
@[simp] theorem c2o {sk : Sk} {g : List Value → Option (List IV)} {j : Nat} : gone id (.map sk g) (.mpr j) = if j = id then .iv (.mp sk g) else .mpr j := by
 by_cases h : j = id <;> simp [gone, AV.fc, h]
@[simp] theorem c3o {sk : Sk} {g : List Value → Option (List IV)} {j off : Nat} : gone id (.map sk g) (.ptr j off) = if j = id then .junk else .ptr j off := by
 by_cases h : j = id <;> simp [gone, AV.fc, h]
@[simp] theorem c4o {sk : Sk} {g : List Value → Option (List IV)} {n : Int} {k : List Value} {j off : Nat} : CapV.fc id (.mapS sk g n k) (.ptr j off) = .ptr j off := by
 simp only [CapV.fc, ite_self]
@[simp] theorem c5o {sk : Sk} {g : List Value → Option (List IV)} {n : Int} {k : List Value} {j sz2 lo len : Nat} : gone id (.mapS sk g n k) (.sl j sz2 lo len) = if j = id then .junk else .sl j sz2 lo len := by
 by_cases h : j = id <;> simp [gone, AV.fc, h]
@[simp] theorem c6o {sk : Sk} {g : List Value → Option (List IV)} {n : Int} {k : List Value} {j sz2 i off : Nat} : gone id (.mapS sk g n k) (.ep j sz2 i off) = if j = id then .junk else .ep j sz2 i off := by
 by_cases h : j = id <;> simp [gone, AV.fc, h]
@[simp] theorem c7o {sk : Sk} {g : List Value → Option (List IV)} {n : Int} {k : List Value} {j : Nat} : gone id (.mapS sk g n k) (.mpr j) = if j = id then .junk else .mpr j := by
 by_cases h : j = id <;> simp [gone, AV.fc, h]
@[simp] theorem c8o {sk : Sk} {g : List Value → Option (List IV)} {n : Int} {k : List Value} {j off : Nat} : gone id (.mapS sk g n k) (.ptr j off) = if j = id then .junk else .ptr j off := by
 by_cases h : j = id <;> simp [gone, AV.fc, h]
@[simp] theorem c9o {n sz : Nat} {xs : List (List IV)} {j off : Nat} : CapV.fc id (.lent n sz xs) (.ptr j off) = .ptr j off := by
 simp only [CapV.fc, ite_self]
@[simp] theorem c0p {n sz : Nat} {xs : List (List IV)} {j sz2 lo len : Nat} : gone id (.lent n sz xs) (.sl j sz2 lo len) = if j = id then .junk else .sl j sz2 lo len := by
 by_cases h : j = id <;> simp [gone, AV.fc, h]
@[simp] theorem c1p {n sz : Nat} {xs : List (List IV)} {j sz2 i off : Nat} : gone id (.lent n sz xs) (.ep j sz2 i off) = if j = id then .junk else .ep j sz2 i off := by
 by_cases h : j = id <;> simp [gone, AV.fc, h]
@[simp] theorem c2p {n sz : Nat} {xs : List (List IV)} {j : Nat} : gone id (.lent n sz xs) (.mpr j) = if j = id then .junk else .mpr j := by
 by_cases h : j = id <;> simp [gone, AV.fc, h]
@[simp] theorem c3p {n sz : Nat} {xs : List (List IV)} {j off : Nat} : gone id (.lent n sz xs) (.ptr j off) = if j = id then .junk else .ptr j off := by
 by_cases h : j = id <;> simp [gone, AV.fc, h]
@[simp] theorem c4p {sk : Sk} {sz : Nat} {h : List Value → Option (List (List IV))} {hole : Option (List Value)} {j off : Nat} : CapV.fc id (.mapo sk sz h hole) (.ptr j off) = .ptr j off := by
 simp only [CapV.fc, ite_self]
@[simp] theorem c5p {sk : Sk} {sz : Nat} {h : List Value → Option (List (List IV))} {hole : Option (List Value)} {j sz2 lo len : Nat} : gone id (.mapo sk sz h hole) (.sl j sz2 lo len) = if j = id then .junk else .sl j sz2 lo len := by
 by_cases h : j = id <;> simp [gone, AV.fc, h]
@[simp] theorem c6p {sk : Sk} {sz : Nat} {h : List Value → Option (List (List IV))} {hole : Option (List Value)} {j sz2 i off : Nat} : gone id (.mapo sk sz h hole) (.ep j sz2 i off) = if j = id then .junk else .ep j sz2 i off := by
 by_cases h : j = id <;> simp [gone, AV.fc, h]
@[simp] theorem c7p {sk : Sk} {sz : Nat} {h : List Value → Option (List (List IV))} {hole : Option (List Value)} {j off : Nat} : gone id (.mapo sk sz h hole) (.ptr j off) = if j = id then .junk else .ptr j off := by
 by_cases h : j = id <;> simp [gone, AV.fc, h]
@[simp] theorem c8p {sz : Nat} {ys : List (List (List IV))} {hole : Option Nat} {j off : Nat} : CapV.fc id (.listo sz ys hole) (.ptr j off) = .ptr j off := by
 simp only [CapV.fc, ite_self]
@[simp] theorem c9p {sz : Nat} {ys : List (List (List IV))} {hole : Option Nat} {j sz2 i off : Nat} : gone id (.listo sz ys hole) (.ep j sz2 i off) = if j = id then .junk else .ep j sz2 i off := by
 by_cases h : j = id <;> simp [gone, AV.fc, h]
@[simp] theorem c0q {sz : Nat} {ys : List (List (List IV))} {hole : Option Nat} {j : Nat} : gone id (.listo sz ys hole) (.mpr j) = if j = id then .junk else .mpr j := by
 by_cases h : j = id <;> simp [gone, AV.fc, h]
@[simp] theorem c1q {sz : Nat} {ys : List (List (List IV))} {hole : Option Nat} {j off : Nat} : gone id (.listo sz ys hole) (.ptr j off) = if j = id then .junk else .ptr j off := by
 by_cases h : j = id <;> simp [gone, AV.fc, h]
@[simp] theorem c2q {sk : Sk} {g : List Value → Option (List IV)} {left : List (List Value)} {last : Option (List Value)} {j off : Nat} : CapV.fc id (.iter sk g left last) (.ptr j off) = .ptr j off := by
 simp only [CapV.fc, ite_self]
@[simp] theorem c3q {sk : Sk} {g : List Value → Option (List IV)} {left : List (List Value)} {last : Option (List Value)} {j sz2 lo len : Nat} : gone id (.iter sk g left last) (.sl j sz2 lo len) = if j = id then .junk else .sl j sz2 lo len := by
 by_cases h : j = id <;> simp [gone, AV.fc, h]
@[simp] theorem c4q {sk : Sk} {g : List Value → Option (List IV)} {left : List (List Value)} {last : Option (List Value)} {j sz2 i off : Nat} : gone id (.iter sk g left last) (.ep j sz2 i off) = if j = id then .junk else .ep j sz2 i off := by
 by_cases h : j = id <;> simp [gone, AV.fc, h]
@[simp] theorem c5q {sk : Sk} {g : List Value → Option (List IV)} {left : List (List Value)} {last : Option (List Value)} {j : Nat} : gone id (.iter sk g left last) (.mpr j) = if j = id then .junk else .mpr j := by
 by_cases h : j = id <;> simp [gone, AV.fc, h]
@[simp] theorem c6q {sk : Sk} {g : List Value → Option (List IV)} {left : List (List Value)} {last : Option (List Value)} {j off : Nat} : gone id (.iter sk g left last) (.ptr j off) = if j = id then .junk else .ptr j off := by
 by_cases h : j = id <;> simp [gone, AV.fc, h]
@[simp] theorem c7q {sz : Nat} {ys : List (List (List IV))} {j sz2 lo len : Nat} : gone id (.listo sz ys none) (.sl j sz2 lo len) = if j = id then .iv (.lst 1 (((ys.map fun x => [IV.lst sz x]).drop lo).take len)) else .sl j sz2 lo len := by
 by_cases h : j = id <;> simp [gone, AV.fc, h]
@[simp] theorem c8q {sk : Sk} {sz : Nat} {h : List Value → Option (List (List IV))} {j : Nat} : gone id (.mapo sk sz h none) (.mpr j) = if j = id then .iv (.mp sk fun k => (h k).map fun xs => [IV.lst sz xs]) else .mpr j := by
 by_cases h : j = id <;> simp [gone, AV.fc, h]
end
section
variable {s : St} {id : Nat} {fr : List (Nat × AV)} {hp : Hp}
@[simp] theorem c9q {z : List AV} {off n : Nat} {x : Operand} {r : List (Nat × Nat × Operand)} : b7K s z ((off, n, x) :: r) = (s.ev x).cellsOf.bind fun cs => if cs.length = n ∧ off + n ≤ z.length then b7K s (b0Q z off cs) r else none := by
 simp only [b7K]
 cases (s.ev x).cellsOf <;> rfl
@[simp] theorem c0r {sz i : Nat} {x : Operand} {r : List (Nat × Operand)} : litA s sz ((i, x) :: r) = ((s.ev x).cellsOf.bind fun cs => allO AV.iv? cs).bind fun c => if c.length = sz then (litA s sz r).map fun q => c :: q else none := by
 simp only [litA, a8V]
 cases ((s.ev x).cellsOf.bind fun cs => allO AV.iv? cs) <;> rfl
@[simp] theorem c1r {α : Type} {z cs : List α} {off : Nat} : b0Q z off cs = z.take off ++ cs ++ z.drop (off + cs.length) := rfl
@[simp] theorem add_mk {o : Ob} : St.add ⟨fr, hp⟩ id o = ⟨fr, (id, o) :: hp⟩ := rfl
@[simp] theorem join_mk {H : Hp} : St.join ⟨fr, hp⟩ H = ⟨fr, H ++ hp⟩ := rfl
@[simp] theorem put_s {d : Nat} {x : AV} : St.put ⟨fr, hp⟩ (some d) x = ⟨(d, x) :: fr, hp⟩ := rfl
@[simp] theorem put_n {x : AV} : St.put ⟨fr, hp⟩ none x = ⟨fr, hp⟩ := rfl
@[simp] theorem get_mk' {t : Nat} : St.get ⟨fr, hp⟩ t = (look fr t).getD .junk := rfl
def loF (id : Nat) : List (Nat × AV) → List (Nat × AV)
 | [] => []
 | (t, x) :: r => (t, x.mapc (AV.kc (· == id))) :: loF id r
def loH (id : Nat) : Hp → Hp
 | [] => []
 | (t, x) :: r => (t, x.mapc (AV.kc (· == id))) :: loH id r
def kiH (id : Nat) : Hp → Hp
 | [] => []
 | (t, x) :: r => if t = id then kiH id r else (t, x.mapc (AV.kc (· == id))) :: kiH id r
@[simp] theorem loF_nil : loF id [] = [] := rfl
@[simp] theorem loF_cons {t : Nat} {x : AV} {r : List (Nat × AV)} : loF id ((t, x) :: r) = (t, x.mapc (AV.kc (· == id))) :: loF id r := rfl
@[simp] theorem loH_nil : loH id [] = [] := rfl
@[simp] theorem loH_cons {t : Nat} {x : Ob} {r : Hp} : loH id ((t, x) :: r) = (t, x.mapc (AV.kc (· == id))) :: loH id r := rfl
@[simp] theorem kiH_nil : kiH id [] = [] := rfl
@[simp] theorem kiH_cons {t : Nat} {x : Ob} {r : Hp} : kiH id ((t, x) :: r) = if t = id then kiH id r else (t, x.mapc (AV.kc (· == id))) :: kiH id r := rfl
theorem c2r (fr : List (Nat × AV)) : loF id fr = fr.map fun (t, x) => (t, x.mapc (AV.kc (· == id))) := by
 induction fr with
 | nil => rfl
 | cons p r ih => obtain ⟨t, x⟩ := p; simp only [loF, List.map_cons, ih]
theorem c3r (fr : Hp) : loH id fr = fr.map fun (t, x) => (t, x.mapc (AV.kc (· == id))) := by
 induction fr with
 | nil => rfl
 | cons p r ih => obtain ⟨t, x⟩ := p; simp only [loH, List.map_cons, ih]
theorem c4r (fr : Hp) : kiH id fr = (fr.map fun (t, x) => (t, x.mapc (AV.kc (· == id)))).filter (·.1 != id) := by
 induction fr with
 | nil => rfl
 | cons p r ih =>
   obtain ⟨t, x⟩ := p
   simp only [kiH, List.map_cons, List.filter_cons, ih]
   by_cases h : t = id <;> simp [h]
@[simp] theorem lone_mk : St.lone id ⟨fr, hp⟩ = ⟨loF id fr, loH id hp⟩ := by
 simp only [St.lone, St.mapc, c2r, c3r]
@[simp] theorem kill_mk : St.kill id ⟨fr, hp⟩ = ⟨loF id fr, kiH id hp⟩ := by
 simp only [St.kill, St.mapc, c2r, c4r]
end
@[simp] theorem c5r {i : Nat} : b8S i [] = [] := rfl
@[simp] theorem c6r {i : Nat} {x : AV} {r : List AV} : b8S i (x :: r) = (i, x) :: b8S (i + 1) r := rfl
def wL (sz lo len : Nat) : Option Ob → Option IV
 | some (.list _ xs) => some (.lst sz ((xs.drop lo).take len))
 | some (.listo sz' xs none) => some (.lst 1 (((xs.map fun x => [IV.lst sz' x]).drop lo).take len))
 | _ => none
def wM : Option Ob → Option IV
 | some (.map sk g) => some (.mp sk g)
 | some (.mapo sk sz g none) => some (.mp sk fun k => (g k).map fun xs => [IV.lst sz xs])
 | _ => none
def wB (off : Nat) (f : List AV → Option (List IV)) : Option Ob → Option IV
 | some (.box cs) => (f cs).map fun l => .pt (l.drop off)
 | _ => none
def IV.or (y : Option IV) (x : AV) : AV := match y with | some y => .iv y | none => x
def IV.orC (y : Option IV) (x : CapV) : CapV := match y with | some y => .val y | none => x
section
variable {s : St} {ids : List Nat} {d id sz lo len i off : Nat} {x : IV} {cs : List AV} {f : FuncId} {a b : List CapV} {fr : Bool}
@[simp] theorem wL_list {z : Nat} {xs : List (List IV)} : wL sz lo len (some (.list z xs)) = some (.lst sz ((xs.drop lo).take len)) := rfl
@[simp] theorem wL_listo {z : Nat} {xs : List (List (List IV))} : wL sz lo len (some (.listo z xs none)) = some (.lst 1 (((xs.map fun x => [IV.lst z x]).drop lo).take len)) := rfl
@[simp] theorem wM_map {sk g} : wM (some (.map sk g)) = some (.mp sk g) := rfl
@[simp] theorem wM_mapo {sk g} : wM (some (.mapo sk sz g none)) = some (.mp sk fun k => (g k).map fun xs => [IV.lst sz xs]) := rfl
@[simp] theorem wB_box {g : List AV → Option (List IV)} : wB off g (some (.box cs)) = (g cs).map fun l => .pt (l.drop off) := rfl
@[simp] theorem or_s {y : IV} {x : AV} : IV.or (some y) x = .iv y := rfl
@[simp] theorem or_n {x : AV} : IV.or none x = x := rfl
@[simp] theorem orC_s {y : IV} {x : CapV} : IV.orC (some y) x = .val y := rfl
@[simp] theorem orC_n {x : CapV} : IV.orC none x = x := rfl
@[simp] theorem ivW_iv : s.ivW ids d (.iv x) = some x := by cases d <;> rfl
@[simp] theorem ivW_nil : s.ivW ids d (.nil sz) = some (.lst sz []) := by cases d <;> rfl
@[simp] theorem ivW_sl : s.ivW ids d (.sl id sz lo len) = if ids.contains id then none else wL sz lo len (look s.hp id) := by cases d <;> rfl
@[simp] theorem ivW_mpr : s.ivW ids d (.mpr id) = if ids.contains id then none else wM (look s.hp id) := by cases d <;> rfl
@[simp] theorem ivW_ptr3 : s.ivW ids 3 (.ptr id off) = if ids.contains id then none else wB off (fun cs => allO (s.ivW ids 2) cs) (look s.hp id) := rfl
@[simp] theorem ivW_ptr2 : s.ivW ids 2 (.ptr id off) = if ids.contains id then none else wB off (fun cs => allO (s.ivW ids 1) cs) (look s.hp id) := rfl
@[simp] theorem ivW_ptr1 : s.ivW ids 1 (.ptr id off) = if ids.contains id then none else wB off (fun cs => allO (s.ivW ids 0) cs) (look s.hp id) := rfl
@[simp] theorem c7r : allO (s.ivW ids d) (.iv x :: cs) = (allO (s.ivW ids d) cs).map fun l => x :: l := by simp [allO]
@[simp] theorem c8r : allO (s.ivW ids d) (.nil sz :: cs) = (allO (s.ivW ids d) cs).map fun l => .lst sz [] :: l := by simp [allO]
@[simp] theorem c9r : allO (s.ivW ids d) (.sl id sz lo len :: cs) = (s.ivW ids d (.sl id sz lo len)).bind fun y => (allO (s.ivW ids d) cs).map fun l => y :: l := by
 simp only [allO]; cases s.ivW ids d (.sl id sz lo len) <;> rfl
@[simp] theorem c0s : allO (s.ivW ids d) (.mpr id :: cs) = (s.ivW ids d (.mpr id)).bind fun y => (allO (s.ivW ids d) cs).map fun l => y :: l := by
 simp only [allO]; cases s.ivW ids d (.mpr id) <;> rfl
@[simp] theorem c1s : allO (s.ivW ids d) (.ptr id off :: cs) = (s.ivW ids d (.ptr id off)).bind fun y => (allO (s.ivW ids d) cs).map fun l => y :: l := by
 simp only [allO]; cases s.ivW ids d (.ptr id off) <;> rfl
@[simp] theorem c2s {l : List IV} : allO (s.ivW ids d) (l.map .iv) = some l := by
 induction l with
 | nil => rfl
 | cons x l ih => simp [ih]
@[simp] theorem bor_ptr : CapV.bor s ids (.ptr id off) = IV.orC (s.ivW ids 3 (.ptr id off)) (.ptr id off) := by
 simp only [CapV.bor]; cases s.ivW ids 3 (.ptr id off) <;> rfl
@[simp] theorem bor_val : CapV.bor s ids (.val x) = .val x := rfl
@[simp] theorem c3s : CapV.inn ids (.ptr id off) = ids.contains id := rfl
@[simp] theorem c4s : CapV.inn ids (.val x) = true := rfl
@[simp] theorem c5s : AV.inn ids (.iv x) = true := rfl
@[simp] theorem inn_nil : AV.inn ids (.nil sz) = true := rfl
@[simp] theorem inn_sl : AV.inn ids (.sl id sz lo len) = ids.contains id := rfl
@[simp] theorem inn_ptr : AV.inn ids (.ptr id off) = ids.contains id := rfl
@[simp] theorem inn_ep : AV.inn ids (.ep id sz i off) = ids.contains id := rfl
@[simp] theorem inn_mpr : AV.inn ids (.mpr id) = ids.contains id := rfl
@[simp] theorem inn_fn : AV.inn ids (.fn f a b) = (a.all (CapV.inn ids) && b.all (CapV.inn ids)) := rfl
@[simp] theorem inns_agg : AV.inns ids (.agg cs) = cs.all (AV.inn ids) := rfl
@[simp] theorem inns_iv : AV.inns ids (.iv x) = true := rfl
@[simp] theorem inns_nil : AV.inns ids (.nil sz) = true := rfl
@[simp] theorem inns_sl : AV.inns ids (.sl id sz lo len) = ids.contains id := rfl
@[simp] theorem inns_ptr : AV.inns ids (.ptr id off) = ids.contains id := rfl
@[simp] theorem inns_mpr : AV.inns ids (.mpr id) = ids.contains id := rfl
@[simp] theorem inns_fn : AV.inns ids (.fn f a b) = (a.all (CapV.inn ids) && b.all (CapV.inn ids)) := rfl
@[simp] theorem arg1_iv : s.arg1 fr ids (.iv x) = .iv x := rfl
@[simp] theorem arg1_nil : s.arg1 fr ids (.nil sz) = .iv (.lst sz []) := rfl
@[simp] theorem arg1_fn : s.arg1 fr ids (.fn f a b) = if fr && !((AV.fn f a b).inn ids) then .fn f (a.map (CapV.bor s ids)) (b.map (CapV.bor s ids)) else .fn f a b := rfl
@[simp] theorem arg1_sl : s.arg1 fr ids (.sl id sz lo len) = if fr && !(ids.contains id) then IV.or (s.ivW ids 3 (.sl id sz lo len)) (.sl id sz lo len) else .sl id sz lo len := rfl
@[simp] theorem arg1_mpr : s.arg1 fr ids (.mpr id) = if fr && !(ids.contains id) then IV.or (s.ivW ids 3 (.mpr id)) (.mpr id) else .mpr id := rfl
@[simp] theorem arg1_ptr : s.arg1 fr ids (.ptr id off) = if fr && !(ids.contains id) then IV.or (s.ivW ids 3 (.ptr id off)) (.ptr id off) else .ptr id off := rfl
@[simp] theorem arg_iv : s.arg fr ids (.iv x) = .iv x := rfl
@[simp] theorem arg_nil : s.arg fr ids (.nil sz) = .iv (.lst sz []) := rfl
@[simp] theorem arg_fn : s.arg fr ids (.fn f a b) = s.arg1 fr ids (.fn f a b) := rfl
@[simp] theorem arg_sl : s.arg fr ids (.sl id sz lo len) = s.arg1 fr ids (.sl id sz lo len) := rfl
@[simp] theorem arg_mpr : s.arg fr ids (.mpr id) = s.arg1 fr ids (.mpr id) := rfl
@[simp] theorem arg_ptr : s.arg fr ids (.ptr id off) = s.arg1 fr ids (.ptr id off) := rfl
@[simp] theorem c6s {l : List IV} : s.arg fr ids (.agg (l.map .iv)) = .agg (l.map .iv) := by
 simp only [St.arg, List.map_map]
 congr 1
@[simp] theorem arg_agg : s.arg fr ids (.agg cs) = .agg (cs.map (s.arg1 fr ids)) := rfl
@[simp] theorem args_d {pre : List CapV} {ops : List Operand} {post : List CapV} : s.args pre ops post = pre.map CapV.av ++ ops.map s.ev ++ post.map CapV.av := rfl
end
@[simp] theorem c7s {id : Nat} {o : Ob} {l : List IV} : (l.map AV.iv).map (gone id o) = l.map AV.iv := by
 induction l with
 | nil => rfl
 | cons x l ih => rw [List.map_cons, List.map_cons, ih, c2m]
@[simp] theorem c8s {p : Nat → Bool} {l : List IV} : (l.map AV.iv).map (AV.kc p) = l.map AV.iv := by
 induction l with
 | nil => rfl
 | cons x l ih => rw [List.map_cons, List.map_cons, ih, kc_iv]
@[simp] theorem c9s {ids : List Nat} {l : List IV} : (l.map AV.iv).all (AV.inn ids) = true := by
 induction l with
 | nil => rfl
 | cons x l ih => rw [List.map_cons, List.all_cons, ih, c5s]; rfl
@[simp] theorem c0t {l : List IV} : (l.map AV.iv).all AV.one = true := by
 induction l with
 | nil => rfl
 | cons x l ih => rw [List.map_cons, List.all_cons, ih, c7h]; rfl
attribute [simp ↓] c9f c1g c2g c3g c4g c6g c7g c8g
end Go.Vm
end

section
namespace Go.Vm
attribute [simp] St.lit St.pure1 St.pure St.ivOf at2 vtrue
@[simp] theorem a8B {α : Type} (l : List α) (i : Nat) (x : α) : (l.getD i x) = (l[i]?).getD x := rfl
theorem a9B {f : AV → AV} {s : St} {t : Nat} {x : IV} (hf : ∀ x, f (.iv x) = .iv x) (h : s.get t = .iv x) : (s.mapc f).get t = .iv x := by
 simp only [St.get, St.mapc] at h ⊢
 rw [b6H (AV.mapc f)]
 cases hl : look s.fr t with
 | none => rw [hl] at h; cases h
 | some y => rw [hl] at h; simp only [Option.getD_some] at h; subst h; simp [AV.mapc, hf]
theorem a0C {s : St} {t id : Nat} {x : IV} (h : s.get t = .iv x) : (s.drop id).get t = .iv x := by
 unfold St.drop
 split
 · exact h
 · rename_i o _
   exact a9B (f := fun x => (x.fc id o).kc (· == id)) (fun _ => rfl) h
theorem a1C (D : List Nat) : ∀ {s : St} {t : Nat} {x : IV}, s.get t = .iv x → (s.drops D).get t = .iv x := by
 induction D with
 | nil => intro s t x h; exact h
 | cons i D ih => intro s t x h; exact ih (a0C h)
theorem a2C {s : St} {id k : Nat} (h : look s.hp k = none) : look (s.drop id).hp k = none := by
 unfold St.drop
 split
 · exact h
 · simp only [b7H, c0e, h, Option.map_none]; split <;> rfl
theorem a3C (D : List Nat) : ∀ {s : St} {k : Nat}, (k ∈ D ∨ look s.hp k = none) → look (s.drops D).hp k = none := by
 induction D with
 | nil => intro s k h; rcases h with h | h; · cases h
          · exact h
 | cons i D ih =>
   intro s k h
   refine ih (s := s.drop i) ?_
   rcases h with h | h
   · rcases List.mem_cons.1 h with rfl | h
     · exact .inr (a9w s k)
     · exact .inl h
   · exact .inr (a2C h)
theorem a4C {t : Nat} {x : IV} {s : St} (h : s.get t = .iv x) (hf : x.flat = true) (hb : (s.hp.map (·.1)).all (· < 1000) = true) : Ends true [.tmp t] (.iv x) [] s := by
 refine ⟨s.drops (s.hp.map (·.1)), [.iv x], b2Z _ hb s, ?_, rfl, fun id => ?_, fun _ => ⟨hf, fun _ _ h => by cases h⟩⟩
 · simp [resV, a1C _ h]
 · refine a3C _ ?_
   cases hl : look s.hp id with
   | none => exact .inr rfl
   | some o => exact .inl (List.contains_iff_mem.1 (b3m hl))
theorem a5C {P : Program} {d : Nat} {f : FuncId} {ops : List Operand} {s : St} {K : St → AV → Prop} {args : List AV} {res : AV} (h : b9l P true f args [] res [])
   (ha : (((s.drop d).args [] ops []).map ((s.drop d).arg true [])) = args) (hr : args.all (AV.inns []) = true) (hk : K (s.drop d) res) : a5L P d f [] ops [] none s K := by
 refine b6K ⟨s, Le.refl s, true, [], res, [], s.drop d, rfl, trivial, { spec := ?_, refs := ?_, sub := fun _ _ h => ?_, own := fun _ _ h => ?_, keep := fun _ _ h => ?_, new := fun _ _ h => ?_ }, hk⟩
 all_goals first | (rw [List.map_nil, ha]; assumption) | cases h
def a6C : Hp → Bool
 | [] => true
 | (i, _) :: r => decide (i < 1000) && a6C r
@[simp] theorem a7C : a6C [] = true := rfl
@[simp] theorem a8C {i : Nat} {o : Ob} {r : Hp} : a6C ((i, o) :: r) = (decide (i < 1000) && a6C r) := rfl
theorem a9C : ∀ {h : Hp}, a6C h = true → (h.map (·.1)).all (· < 1000) = true
 | [], _ => rfl
 | (i, _) :: r, h => by
   simp only [a6C, Bool.and_eq_true] at h
   simp only [List.map_cons, List.all_cons, Bool.and_eq_true]
   exact ⟨h.1, a9C h.2⟩
def a0D : Hp → List Nat → Bool
 | [], _ => true
 | (i, _) :: r, ks => ks.contains i && a0D r ks
@[simp] theorem a1D {ks : List Nat} : a0D [] ks = true := rfl
@[simp] theorem a2D {i : Nat} {o : Ob} {r : Hp} {ks : List Nat} : a0D ((i, o) :: r) ks = (ks.contains i && a0D r ks) := rfl
theorem a3D : ∀ {h l : Hp}, a0D h (l.map (·.1)) = true → b7Z h l = true
 | [], _, _ => rfl
 | (i, _) :: r, l, h => by
   simp only [a0D, Bool.and_eq_true] at h
   have h2 := a3D h.2
   unfold b7Z at h2 ⊢
   simp only [List.all_cons, Bool.and_eq_true]
   refine ⟨?_, h2⟩
   have := List.contains_iff_mem.1 h.1
   obtain ⟨q, hq, e⟩ := List.mem_map.1 this
   exact List.any_eq_true.2 ⟨q, hq, by simp [e]⟩
def a4D : Hp → List Nat
 | [] => []
 | (i, _) :: r => i :: a4D r
@[simp] theorem a5D : a4D [] = [] := rfl
@[simp] theorem a6D {i : Nat} {o : Ob} {r : Hp} : a4D ((i, o) :: r) = i :: a4D r := rfl
theorem a7D (h : Hp) : a4D h = h.map (·.1) := by
 induction h with
 | nil => rfl
 | cons p r ih => obtain ⟨i, o⟩ := p; simp [ih]
def End1 (t : Nat) (x : IV) (s : St) : Prop := s.get t = .iv x ∧ a6C s.hp = true
def End2 (t u : Nat) (x y : IV) (s : St) : Prop := s.get t = .iv x ∧ s.get u = .iv y ∧ a6C s.hp = true
def outs (r : St → Prop) : Outs := ⟨r, fun _ _ => False, r, fun _ _ => False⟩
theorem a8D {P : Program} {n : Nat} {c : VCode} {s : St} {r r' : St → Prop} (h : VC P n c s (outs r)) (hr : ∀ s, r s → r' s) : VC P n c s (outs r') :=
 h.mono hr (fun _ _ h => h) hr (fun _ _ h => h)
theorem a9D {P : Program} {f : FuncId} {args : List AV} {x : IV} {n t : Nat} {c : VCode} (hf : fnV P f = some (n, c, [.tmp t]))
   (hargs : args.length ≤ n) (hn : n ≤ 999) (hx : x.flat = true) (h : wpV P c ⟨b8S 0 args, []⟩ ⟨End1 t x, fun _ _ => False, End1 t x, fun _ _ => False⟩) : b9l P true f args [] (.iv x) [] :=
 c2B hf hargs rfl rfl (a8D (b2Y hn _ _ _ h) fun _ h => a4C h.1 hx (a9C h.2))
def LeTo (D : List Nat) (s s' : St) : Prop := D.all (· < 1000) = true ∧ frLe (s.drops D) s'.fr ∧ hpLe (s.drops D).hp s'.hp ∧ a0D (s.drops D).hp (a4D s'.hp) = true
theorem LeTo.le {D : List Nat} {s s' : St} (h : LeTo D s s') : Le s s' := le_to D h.1 h.2.1 h.2.2.1 (a3D (by rw [← a7D]; exact h.2.2.2))
theorem a0E {P : Program} {c : VCode} {s : St} {O : Outs} (I : Nat → St → Prop) (hi : ∃ k s', Le s s' ∧ I k s')
   (hs : ∀ k s', I k s' → wpV P c s' { O with n := fun s2 => ∃ m s3, m < k ∧ Le s2 s3 ∧ I m s3 }) : a7L P c s O := ⟨I, by obtain ⟨k, s', h1, h2⟩ := hi; exact h1.x ⟨k, h2⟩, hs⟩
theorem a1E {P : Program} {c : VCode} {s : St} {O : Outs} (I : Nat → St → Prop) (hi : LeX s fun s' => ∃ k, I k s')
   (hs : ∀ k s', I k s' → wpV P c s' { O with n := fun s2 => ∃ m s3, m < k ∧ Le s2 s3 ∧ I m s3 }) : a7L P c s O := ⟨I, hi, hs⟩
theorem a2E {P : Program} {c : VCode} {s : St} {O : Outs} (D D' : List Nat) (n : Nat) (S : Nat → St) (Q : Nat → Prop) (h0 : LeTo D s (S 0)) (q0 : Q 0)
   (hs : ∀ i, i ≤ n → Q i → wpV P c (S i) { O with n := fun s2 => i < n ∧ LeTo D' s2 (S (i + 1)) ∧ Q (i + 1) }) : a7L P c s O := by
 refine ⟨fun k s => ∃ i, i ≤ n ∧ k = n - i ∧ s = S i ∧ Q i, h0.le.x ⟨_, 0, Nat.zero_le _, rfl, rfl, q0⟩, ?_⟩
 rintro k s' ⟨i, hi, rfl, rfl, hq⟩
 refine b6R c (O := { O with n := fun s2 => i < n ∧ LeTo D' s2 (S (i + 1)) ∧ Q (i + 1) }) (fun s2 h => ?_) (fun _ _ h => h) (fun _ h => h) (fun _ _ h => h) (hs i hi hq)
 obtain ⟨hlt, hle, hq'⟩ := h
 exact ⟨_, _, by omega, hle.le, i + 1, hlt, rfl, rfl, hq'⟩
@[simp] theorem a3E {s : St} : s.drops [] = s := rfl
@[simp] theorem a4E {s : St} {i : Nat} {D : List Nat} : s.drops (i :: D) = (s.drop i).drops D := rfl
@[simp] theorem frLe_nil {s : St} : frLe s [] ↔ True := ⟨fun h => h, fun h => h⟩
@[simp] theorem a5E {s : St} {t : Nat} {x : AV} {r : List (Nat × AV)} : frLe s ((t, x) :: r) ↔ s.get t = x ∧ frLe s r := ⟨fun h => h, fun h => h⟩
@[simp] theorem hpLe_nil {H : Hp} : hpLe H [] ↔ True := ⟨fun h => h, fun h => h⟩
@[simp] theorem a6E {H : Hp} {t : Nat} {x : Ob} {r : Hp} : hpLe H ((t, x) :: r) ↔ look H t = some x ∧ hpLe H r := ⟨fun h => h, fun h => h⟩
attribute [simp] End1 End2 LeTo
/-! ### Functions and calls that change what they are handed -/
def CapV.hi : CapV → Bool
 | .ptr id _ => decide (1000 ≤ id)
 | .val _ => true
def AV.hi : AV → Bool
 | .iv _ | .nil _ | .un | .junk => true
 | .sl id _ _ _ | .ptr id _ | .ep id _ _ _ | .mpr id => decide (1000 ≤ id)
 | .fn _ a b => a.all CapV.hi && b.all CapV.hi
 | .agg _ | .tup _ => false
def Ob.hi : Ob → Bool
 | .box cs => cs.all AV.hi
 | .gh _ _ cs => cs.all AV.hi
 | _ => true
@[simp] theorem ohi_gh {Z : GZ} {vs : List Value} {cs : List AV} : Ob.hi (.gh Z vs cs) = cs.all AV.hi := rfl
@[simp] theorem hi_iv {x : IV} : AV.hi (.iv x) = true := rfl
@[simp] theorem hi_nil {sz : Nat} : AV.hi (.nil sz) = true := rfl
@[simp] theorem hi_ptr {id off : Nat} : AV.hi (.ptr id off) = decide (1000 ≤ id) := rfl
@[simp] theorem hi_mpr {id : Nat} : AV.hi (.mpr id) = decide (1000 ≤ id) := rfl
@[simp] theorem hi_sl {id sz lo len : Nat} : AV.hi (.sl id sz lo len) = decide (1000 ≤ id) := rfl
@[simp] theorem hi_ivs {l : List IV} : (l.map AV.iv).all AV.hi = true := by simp
@[simp] theorem ohi_box {cs : List AV} : Ob.hi (.box cs) = cs.all AV.hi := rfl
@[simp] theorem ohi_list {sz : Nat} {xs : List (List IV)} : Ob.hi (.list sz xs) = true := rfl
@[simp] theorem ohi_map {sk g} : Ob.hi (.map sk g) = true := rfl
@[simp] theorem ohi_mapo {sk sz g h} : Ob.hi (.mapo sk sz g h) = true := rfl
theorem a7E {id : Nat} {o : Ob} (hid : id < 1000) {a : List CapV} (h : a.all CapV.hi = true) : a.map (CapV.fc id o) = a ∧ a.any (CapV.of (· == id)) = false := by
 induction a with
 | nil => exact ⟨rfl, rfl⟩
 | cons c a ih =>
   simp only [List.all_cons, Bool.and_eq_true] at h
   obtain ⟨i1, i2⟩ := ih h.2
   cases c with
   | ptr j off =>
     have hj : j ≠ id := by have := of_decide_eq_true h.1; omega
     refine ⟨?_, ?_⟩
     · simp only [List.map_cons, i1, CapV.fc, if_neg hj]
     · simp only [List.any_cons, i2, CapV.of, Bool.or_false, beq_eq_false_iff_ne]; exact hj
   | val x => exact ⟨by simp only [List.map_cons, i1, CapV.fc], by simp only [List.any_cons, i2, CapV.of, Bool.or_false]⟩
theorem a8E {id : Nat} {o : Ob} (hid : id < 1000) {x : AV} (h : x.hi = true) : gone id o x = x := by
 cases x with
 | agg _ => cases h
 | tup _ => cases h
 | fn f a b =>
   simp only [AV.hi, Bool.and_eq_true] at h
   obtain ⟨a1, a2⟩ := a7E (o := o) hid h.1
   obtain ⟨b1, b2⟩ := a7E (o := o) hid h.2
   simp only [gone, AV.fc, a1, b1, AV.kc, a2, b2, Bool.or_false, Bool.false_eq_true, if_false]
 | iv _ => rfl
 | nil _ => rfl
 | un => rfl
 | junk => rfl
 | _ =>
   have hj := of_decide_eq_true h
   simp only [gone, AV.fc, AV.kc]
   rw [if_neg (by omega)]
   simp only [AV.kc]
   rw [if_neg (by simp only [beq_iff_eq]; omega)]
theorem a9E {id : Nat} {o q : Ob} (hid : id < 1000) (h : q.hi = true) : q.mapc (gone id o) = q := by
 cases q with
 | box cs =>
   simp only [Ob.hi, List.all_eq_true] at h
   simp only [Ob.mapc]
   congr 1
   exact List.map_congr_left (fun x hx => a8E hid (h x hx)) |>.trans (List.map_id _)
 | gh Z vs cs =>
   simp only [Ob.hi, List.all_eq_true] at h
   simp only [Ob.mapc]
   congr 1
   refine (List.map_congr_left fun x hx => ?_).trans (List.map_id _)
   have hx' := h x hx
   have : AV.mapc (gone id o) x = gone id o x := by cases x <;> first | rfl | cases hx'
   rw [this]; exact a8E hid hx'
 | _ => rfl
theorem a0F {s : St} {id k : Nat} {q : Ob} (hid : id < 1000) (hk : 1000 ≤ k) (hq : q.hi = true) (h : look s.hp k = some q) : look (s.drop id).hp k = some q := by
 unfold St.drop
 split
 · exact h
 · simp only [b7H, c0e, h, Option.map_some]
   rw [if_neg (by omega)]
   exact congrArg some (a9E hid hq)
theorem a1F (D : List Nat) (hD : D.all (· < 1000) = true) : ∀ {s : St} {k : Nat} {q : Ob}, 1000 ≤ k → q.hi = true → look s.hp k = some q → look (s.drops D).hp k = some q := by
 induction D with
 | nil => intro s k q _ _ h; exact h
 | cons i D ih =>
   intro s k q hk hq h
   simp only [List.all_cons, Bool.and_eq_true, decide_eq_true_eq] at hD
   exact ih hD.2 hk hq (a0F hD.1 hk hq h)
def hiH : Hp → Bool
 | [] => true
 | (i, o) :: r => decide (1000 ≤ i) && o.hi && hiH r
@[simp] theorem hiH_nil : hiH [] = true := rfl
@[simp] theorem hiH_cons {i : Nat} {o : Ob} {r : Hp} : hiH ((i, o) :: r) = (decide (1000 ≤ i) && o.hi && hiH r) := rfl
def ownH : Hp → List Nat → Bool
 | [], _ => true
 | (i, _) :: r, ks => (decide (i < 1000) || ks.contains i) && ownH r ks
@[simp] theorem ownH_nil {ks : List Nat} : ownH [] ks = true := rfl
@[simp] theorem a2F {i : Nat} {o : Ob} {r : Hp} {ks : List Nat} : ownH ((i, o) :: r) ks = ((decide (i < 1000) || ks.contains i) && ownH r ks) := rfl
theorem a3F {α : Type} {H : List (Nat × α)} {id : Nat} {o : α} (h : look H id = some o) : id ∈ H.map (·.1) := List.contains_iff_mem.1 (b3m h)
theorem a4F {s : St} {H' : Hp} (h1 : hpLe s.hp H') (h2 : ownH s.hp (a4D H') = true) (h3 : hiH H' = true) :
   ∃ D : List Nat, D.all (· < 1000) = true ∧ ∀ id, look (s.drops D).hp id = look H' id := by
 have hall : ((s.hp.map (·.1)).filter (· < 1000)).all (· < 1000) = true := by simp
 have hhi : ∀ {H : Hp}, hiH H = true → ∀ id o, look H id = some o → 1000 ≤ id ∧ o.hi = true := by
   intro H
   induction H with
   | nil => intro _ id o h; cases h
   | cons p r ih =>
     obtain ⟨i, q⟩ := p
     intro h id o ho
     simp only [hiH, Bool.and_eq_true, decide_eq_true_eq] at h
     simp only [look] at ho
     split at ho
     · rename_i e; subst e; cases ho; exact h.1
     · exact ih h.2 id o ho
 have hown : ∀ {H : Hp} {ks : List Nat}, ownH H ks = true → ∀ id o, look H id = some o → id < 1000 ∨ id ∈ ks := by
   intro H ks
   induction H with
   | nil => intro _ id o h; cases h
   | cons p r ih =>
     obtain ⟨i, q⟩ := p
     intro h id o ho
     simp only [ownH, Bool.and_eq_true, Bool.or_eq_true, decide_eq_true_eq] at h
     simp only [look] at ho
     split at ho
     · rename_i e; subst e
       rcases h.1 with g | g
       · exact .inl g
       · exact .inr (List.contains_iff_mem.1 g)
     · exact ih h.2 id o ho
 refine ⟨(s.hp.map (·.1)).filter (· < 1000), hall, fun id => ?_⟩
 cases hl : look H' id with
 | some o =>
   obtain ⟨g1, g2⟩ := hhi h3 id o hl
   exact a1F _ hall g1 g2 (b6Z h1 _ (c0B hl))
 | none =>
   refine a3C _ ?_
   cases hs : look s.hp id with
   | none => exact .inr rfl
   | some o =>
     left
     rcases hown h2 id o hs with g | g
     · exact List.mem_filter.2 ⟨a3F hs, by simpa using g⟩
     · rw [a7D] at g
       obtain ⟨q, hq⟩ := c9A g
       rw [hl] at hq; cases hq
def EndM (H' : Hp) (s : St) : Prop := hpLe s.hp H' ∧ ownH s.hp (a4D H') = true ∧ hiH H' = true
def EndM1 (t : Nat) (x : IV) (H' : Hp) (s : St) : Prop := s.get t = .iv x ∧ EndM H' s
attribute [simp] EndM EndM1
theorem a5F {P : Program} {f : FuncId} {args : List AV} {H H' : Hp} {n : Nat} {c : VCode} (hf : fnV P f = some (n, c, []))
   (hargs : args.length ≤ n) (hn : n ≤ 999) (hbig : (H.map (·.1)).all (1000 ≤ ·) = true) (hlent : ((H ++ H').all fun p => !p.2.isLent) = true)
   (h : wpV P c ⟨b8S 0 args, H⟩ ⟨EndM H', fun _ _ => False, EndM H', fun _ _ => False⟩) : b9l P false f args H (.tup []) H' :=
 c2B hf hargs hbig hlent (a8D (b2Y hn _ _ _ h) fun s h => by
   obtain ⟨D, g1, g2⟩ := a4F h.1 h.2.1 h.2.2
   exact ⟨s.drops D, [], b2Z D g1 s, rfl, rfl, g2, fun h => by cases h⟩)
theorem a6F {P : Program} {f : FuncId} {args : List AV} {H H' : Hp} {n t : Nat} {x : IV} {c : VCode} (hf : fnV P f = some (n, c, [.tmp t]))
   (hargs : args.length ≤ n) (hn : n ≤ 999) (hbig : (H.map (·.1)).all (1000 ≤ ·) = true) (hlent : ((H ++ H').all fun p => !p.2.isLent) = true)
   (h : wpV P c ⟨b8S 0 args, H⟩ ⟨EndM1 t x H', fun _ _ => False, EndM1 t x H', fun _ _ => False⟩) : b9l P false f args H (.iv x) H' :=
 c2B hf hargs hbig hlent (a8D (b2Y hn _ _ _ h) fun s h => by
   obtain ⟨D, g1, g2⟩ := a4F h.2.1 h.2.2.1 h.2.2.2
   exact ⟨s.drops D, [.iv x], b2Z D g1 s, by simp [resV, a1C _ h.1], rfl, g2, fun h => by cases h⟩)
def a7F : Hp → Hp → Prop
 | [], _ => True
 | (id, o) :: r, H' => (∃ o', look H' id = some o' ∧ o.le o') ∧ a7F r H'
@[simp] theorem a8F {H' : Hp} : a7F [] H' ↔ True := ⟨fun h => h, fun h => h⟩
@[simp] theorem a9F {id : Nat} {o : Ob} {r H' : Hp} : a7F ((id, o) :: r) H' ↔ (∃ o', look H' id = some o' ∧ o.le o') ∧ a7F r H' := ⟨fun h => h, fun h => h⟩
@[simp] theorem le_box {cs : List AV} {o : Ob} : (Ob.box cs).le o := Ob.le_none rfl
@[simp] theorem le_gh {Z : GZ} {vs : List Value} {cs : List AV} {o : Ob} : (Ob.gh Z vs cs).le o := Ob.le_none rfl
@[simp] theorem le_map {sk g} {o : Ob} : (Ob.map sk g).le o := Ob.le_none rfl
@[simp] theorem le_mapo' {sk sz g h} {o : Ob} : (Ob.mapo sk sz g h).le o := Ob.le_none rfl
theorem a0G : ∀ {H H' : Hp}, a7F H H' → ∀ id o, look H id = some o → ∃ o', look H' id = some o' ∧ o.le o'
 | [], _, _, id, o, h => by cases h
 | (i, q) :: r, H', h, id, o, ho => by
   simp only [look] at ho
   split at ho
   · rename_i e; subst e; cases ho; exact h.1
   · exact a0G h.2 id o ho
theorem a1G : ∀ {H : Hp} {ks : List Nat}, a0D H ks = true → ∀ id o, look H id = some o → id ∈ ks
 | [], _, _, id, o, h => by cases h
 | (i, q) :: r, ks, h, id, o, ho => by
   simp only [a0D, Bool.and_eq_true] at h
   simp only [look] at ho
   split at ho
   · rename_i e; subst e; exact List.contains_iff_mem.1 h.1
   · exact a1G h.2 id o ho
def a2G : Hp → List Nat → Bool
 | [], _ => true
 | (_, o) :: r, ks => o.inns ks && a2G r ks
@[simp] theorem a3G {ks : List Nat} : a2G [] ks = true := rfl
@[simp] theorem a4G {i : Nat} {o : Ob} {r : Hp} {ks : List Nat} : a2G ((i, o) :: r) ks = (o.inns ks && a2G r ks) := rfl
@[simp] theorem inns_box {ks : List Nat} {cs : List AV} : Ob.inns ks (.box cs) = cs.all (AV.inn ks) := rfl
@[simp] theorem a5G {ks : List Nat} {sz : Nat} {xs : List (List IV)} : Ob.inns ks (.list sz xs) = true := rfl
@[simp] theorem inns_map {ks : List Nat} {sk g} : Ob.inns ks (.map sk g) = true := rfl
@[simp] theorem a6G {ks : List Nat} {sk sz g h} : Ob.inns ks (.mapo sk sz g h) = true := rfl
theorem a7G : ∀ {H : Hp} {ks : List Nat}, a2G H ks = true → ∀ id o, look H id = some o → o.inns ks = true
 | [], _, _, id, o, h => by cases h
 | (i, q) :: r, ks, h, id, o, ho => by
   simp only [a2G, Bool.and_eq_true] at h
   simp only [look] at ho
   split at ho
   · cases ho; exact h.1
   · exact a7G h.2 id o ho
theorem a8G {P : Program} {d : Nat} {f : FuncId} {pre post : List CapV} {ops : List Operand} {y : Option Operand} {s s1 : St} {K : St → AV → Prop} {args : List AV} {res : AV} {H H' : Hp}
   (h : b9l P false f args H res H') (hs1 : (s.frz ((s.args pre ops post).filter fun x => !x.inns (a4D H))).drop d = s1)
   (hy : ∀ z, y = some z → s1.ev z = .fn f pre post) (ha : (s1.args pre ops post).map (s1.arg false (a4D H)) = args) (hr : args.all (AV.inns (a4D H)) = true)
   (hs : hpLe s1.hp H) (ho : a2G H (a4D H) = true) (hkp : a7F H H') (hn : a0D H' (a4D H) = true) (hk : K (s1.join H') res) : a5L P d f pre ops post y s K := by
 rw [a7D] at *
 refine b6K ⟨s, Le.refl s, false, H, res, H', s1, hs1.symm, ?_, { spec := ?_, refs := ?_, sub := fun id o h => b6Z hs _ (c0B h), own := a7G ho, keep := a0G hkp, new := fun id o h1 h2 => ?_ }, hk⟩
 · cases y with
   | none => trivial
   | some z => exact hy z rfl
 · rw [ha]; exact h
 · rw [ha]; exact hr
 · have := a1G hn id o h1
   obtain ⟨o', h'⟩ := c9A this
   rw [h2] at h'; cases h'
theorem a9G {P : Program} {d : Nat} {f : FuncId} {pre post : List CapV} {ops : List Operand} {z : Operand} {s : St} {K : St → AV → Prop} {args : List AV} {res : AV} (h : b9l P true f args [] res [])
   (hy : (s.drop d).ev z = .fn f pre post) (ha : (((s.drop d).args pre ops post).map ((s.drop d).arg true [])) = args) (hr : args.all (AV.inns []) = true) (hk : K (s.drop d) res) : a5L P d f pre ops post (some z) s K := by
 refine b6K ⟨s, Le.refl s, true, [], res, [], s.drop d, rfl, hy, { spec := ?_, refs := ?_, sub := fun _ _ h => ?_, own := fun _ _ h => ?_, keep := fun _ _ h => ?_, new := fun _ _ h => ?_ }, hk⟩
 all_goals first | (rw [List.map_nil, ha]; assumption) | cases h
@[simp] theorem kc_comp {p : Nat → Bool} : AV.kc p ∘ AV.iv = AV.iv := funext fun _ => by simp
@[simp] theorem a0H {id : Nat} {o : Ob} : gone id o ∘ AV.iv = AV.iv := funext fun _ => by simp
end Go.Vm
end
