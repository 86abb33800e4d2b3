/- Contracts of functions of the program, and what they lean on. Conditions: those of each theorem. -/
import Derived.Test.YthkdpdpgmhmgoaaGreatBC

set_option linter.unusedVariables false
set_option linter.unusedSimpArgs false

section
namespace Go.Rt
open Go.Vm
@[simp] def a0a_r0 :LO:=[oo 1 (.box (T 0)),
oo 2 (.mov (B false))]
@[simp] def a0a_r1 :LO:=[oo 6 (.fa 0 (T 1)),
oo 7 (.ld (T 6) none),
oo 8 (.len (T 7)),
oo 9 (.bin .gtr (T 8) (K 6)),
oo 10 (.mov (T 9)),
og 11 10 false (.fa 1 (T 1)),
og 12 10 false (.ld (T 11) none),
og 13 10 false (.len (T 12)),
og 14 10 false (.bin .gtr (T 13) (K 60)),
oo 15 (.pick (T 10) (B true) (T 14)),
oo 16 (.mov (T 15)),
og 17 16 false (.fa 2 (T 1)),
og 18 16 false (.ld (T 17) none),
og 19 16 false (.len (T 18)),
og 20 16 false (.bin .gtr (T 19) (K 30)),
oo 21 (.pick (T 16) (B true) (T 20))]
@[simp] def a0a_r2 :LO:=[oo 2 (.mov (B false))]
@[simp] def a0a_r3 :LO:=[oo 3 (.mov (K 0))]
@[simp] def a0a_r4 :LO:=[oo 22 (.mov (T 3)),
oo 23 (.fa 1 (T 1)),
oo 24 (.ld (T 23) none),
oo 25 (.len (T 24)),
oo 26 (.bin .lss (T 22) (T 25))]
@[simp] def a0a_r5 :LO:=[oo 29 (.fa 1 (T 1)),
oo 30 (.ld (T 29) none),
oo 31 (.mov (T 3)),
oo 32 (.ia 22 (T 30) (T 31)),
oo 33 (.ld (T 32) (some 22)),
oo 4 (.alloc [zi, zi, zi, zi, zb, zi, zs, zi, zi, zi, .nil 3, zi, zi, zb, zi, zs, zb, zi, zs, .nil 9, .nil 5, zb]),
on (.st (T 4) (T 33) 22)]
@[simp] def a0a_r6 :LO:=[oo 34 (.fa 20 (T 4)),
oo 35 (.ld (T 34) none),
oo 36 (.len (T 35)),
oo 37 (.bin .gtr (T 36) (K 12)),
oo 38 (.mov (T 37)),
og 39 38 false (.fa 10 (T 4)),
og 40 38 false (.ld (T 39) none),
og 41 38 false (.len (T 40)),
og 42 38 false (.bin .gtr (T 41) (K 12)),
oo 43 (.pick (T 38) (B true) (T 42)),
oo 44 (.mov (T 43)),
og 45 44 false (.fa 11 (T 4)),
og 46 44 false (.ld (T 45) (some 9)),
og 47 44 false (.call n_a7a [(T 46), (K 0)]),
og 48 44 false (.un .not (T 47)),
oo 49 (.pick (T 44) (B true) (T 48))]
@[simp] def a0a_r7 :LO:=[oo 2 (.mov (B false))]
@[simp] def a0a_r8 :LO:=[oo 27 (.mov (T 3)),
oo 28 (.bin .add (T 27) (K 1)),
oo 3 (.mov (T 28))]
def a0a_l9 : VCode :=
 (.seq (.seq (.reg a0a_r4) (.cond (T 26) .skip (.exit 0))) (.seq (.block 1 (.seq (.reg a0a_r5) (.seq (.reg a0a_r6) (.cond (T 49) (.seq (.reg a0a_r7) .ret) .skip)))) (.reg a0a_r8)))
@[simp] def a0a_r10 :LO:=[oo 5 (.mov (K 0))]
@[simp] def a0a_r11 :LO:=[oo 50 (.mov (T 5)),
oo 51 (.fa 2 (T 1)),
oo 52 (.ld (T 51) none),
oo 53 (.len (T 52)),
oo 54 (.bin .lss (T 50) (T 53))]
@[simp] def a0a_r12 :LO:=[oo 57 (.fa 2 (T 1)),
oo 58 (.ld (T 57) none),
oo 59 (.mov (T 5)),
oo 60 (.ia 5 (T 58) (T 59)),
oo 61 (.fa 4 (T 60)),
oo 62 (.ld (T 61) none),
oo 63 (.len (T 62)),
oo 64 (.bin .gtr (T 63) (K 20))]
@[simp] def a0a_r13 :LO:=[oo 2 (.mov (B false))]
@[simp] def a0a_r14 :LO:=[oo 55 (.mov (T 5)),
oo 56 (.bin .add (T 55) (K 1)),
oo 5 (.mov (T 56))]
def a0a_l15 : VCode :=
 (.seq (.seq (.reg a0a_r11) (.cond (T 54) .skip (.exit 2))) (.seq (.block 3 (.seq (.reg a0a_r12) (.cond (T 64) (.seq (.reg a0a_r13) .ret) .skip))) (.reg a0a_r14)))
@[simp] def a0a_r16 :LO:=[oo 2 (.mov (B true))]
def a0a : VCode := (.seq (.reg a0a_r0) (.seq (.seq (.reg a0a_r1) (.cond (T 21) (.seq (.reg a0a_r2) .ret) .skip)) (.seq (.seq (.reg a0a_r3) (.block 0 (.loop a0a_l9))) (.seq (.seq (.reg a0a_r10) (.block 2 (.loop a0a_l15))) (.seq (.reg a0a_r16) .ret)))))
theorem a0a_is : fnV prog n_a0a = some (65, a0a, [.tmp 2]) := by kernel_rfl
@[simp] def a1a_r0 :LO:=[oo 1 (.box (T 0)),
oo 2 (.mov (B false))]
@[simp] def a1a_r1 :LO:=[oo 9 (.ld (T 1) (some 3)),
oo 10 (.call n_a0b [(T 9)]),
oo 3 (.mov (T 10))]
@[simp] def a1a_r2 :LO:=[oo 11 (.mov (T 3)),
oo 12 (.un .not (T 11))]
@[simp] def a1a_r3 :LO:=[oo 2 (.mov (B false))]
@[simp] def a1a_r4 :LO:=[oo 4 (.mov (K 0))]
@[simp] def a1a_r5 :LO:=[oo 13 (.mov (T 4)),
oo 14 (.fa 1 (T 1)),
oo 15 (.ld (T 14) none),
oo 16 (.len (T 15)),
oo 17 (.bin .lss (T 13) (T 16))]
@[simp] def a1a_r6 :LO:=[oo 20 (.ld (T 1) (some 3)),
oo 21 (.mov (T 4)),
oo 22 (.call n_a1b [(T 20), (T 21)]),
oo 5 (.mov (T 22))]
@[simp] def a1a_r7 :LO:=[oo 23 (.ld (T 1) (some 3)),
oo 24 (.mov (T 4)),
oo 25 (.call n_a2b [(T 23), (T 24)]),
oo 6 (.mov (T 25))]
@[simp] def a1a_r8 :LO:=[oo 26 (.mov (T 5)),
oo 27 (.un .not (T 26)),
oo 28 (.mov (T 27)),
og 29 28 false (.mov (T 6)),
og 30 28 false (.un .not (T 29)),
oo 31 (.pick (T 28) (B true) (T 30))]
@[simp] def a1a_r9 :LO:=[oo 2 (.mov (B false))]
@[simp] def a1a_r10 :LO:=[oo 18 (.mov (T 4)),
oo 19 (.bin .add (T 18) (K 1)),
oo 4 (.mov (T 19))]
def a1a_l11 : VCode :=
 (.seq (.seq (.reg a1a_r5) (.cond (T 17) .skip (.exit 0))) (.seq (.block 1 (.seq (.reg a1a_r6) (.seq (.reg a1a_r7) (.seq (.reg a1a_r8) (.cond (T 31) (.seq (.reg a1a_r9) .ret) .skip))))) (.reg a1a_r10)))
@[simp] def a1a_r12 :LO:=[oo 7 (.mov (K 0))]
@[simp] def a1a_r13 :LO:=[oo 32 (.mov (T 7)),
oo 33 (.fa 2 (T 1)),
oo 34 (.ld (T 33) none),
oo 35 (.len (T 34)),
oo 36 (.bin .lss (T 32) (T 35))]
@[simp] def a1a_r14 :LO:=[oo 39 (.ld (T 1) (some 3)),
oo 40 (.mov (T 7)),
oo 41 (.call n_a3b [(T 39), (T 40)]),
oo 8 (.mov (T 41))]
@[simp] def a1a_r15 :LO:=[oo 42 (.mov (T 8)),
oo 43 (.un .not (T 42))]
@[simp] def a1a_r16 :LO:=[oo 2 (.mov (B false))]
@[simp] def a1a_r17 :LO:=[oo 37 (.mov (T 7)),
oo 38 (.bin .add (T 37) (K 1)),
oo 7 (.mov (T 38))]
def a1a_l18 : VCode :=
 (.seq (.seq (.reg a1a_r13) (.cond (T 36) .skip (.exit 2))) (.seq (.block 3 (.seq (.reg a1a_r14) (.seq (.reg a1a_r15) (.cond (T 43) (.seq (.reg a1a_r16) .ret) .skip)))) (.reg a1a_r17)))
@[simp] def a1a_r19 :LO:=[oo 2 (.mov (B true))]
def a1a : VCode := (.seq (.reg a1a_r0) (.seq (.reg a1a_r1) (.seq (.seq (.reg a1a_r2) (.cond (T 12) (.seq (.reg a1a_r3) .ret) .skip)) (.seq (.seq (.reg a1a_r4) (.block 0 (.loop a1a_l11))) (.seq (.seq (.reg a1a_r12) (.block 2 (.loop a1a_l18))) (.seq (.reg a1a_r19) .ret))))))
theorem a1a_is : fnV prog n_a1a = some (44, a1a, [.tmp 2]) := by kernel_rfl
@[simp] def a2a_r0 :LO:=[oo 3 (.box (T 0)),
oo 5 (.box (T 2)),
oo 6 (.nils 2)]
@[simp] def a2a_r1 :LO:=[oo 12 (.build [zi, zi] []),
oo 13 (.lit 2 1 [(0, (T 12))]),
oo 7 (.mov (T 13))]
@[simp] def a2a_r2 :LO:=[oo 8 (.mov (K 0))]
@[simp] def a2a_r3 :LO:=[oo 14 (.mov (T 8)),
oo 15 (.fa 2 (T 3)),
oo 16 (.ld (T 15) none),
oo 17 (.len (T 16)),
oo 18 (.bin .lss (T 14) (T 17))]
@[simp] def a2a_r4 :LO:=[oo 21 (.fa 2 (T 3)),
oo 22 (.ld (T 21) none),
oo 23 (.mov (T 8)),
oo 24 (.ia 5 (T 22) (T 23)),
oo 25 (.ld (T 24) (some 5)),
oo 9 (.alloc [zi, zb, zi, zs, .nil 1]),
on (.st (T 9) (T 25) 5)]
@[simp] def a2a_r5 :LO:=[oo 26 (.fa 0 (T 9)),
oo 27 (.ld (T 26) none),
oo 28 (.mov (T 1)),
oo 29 (.bin .neq (T 27) (T 28)),
oo 30 (.mov (T 29)),
og 31 30 false (.fa 1 (T 9)),
og 32 30 false (.ld (T 31) (some 3)),
og 33 30 false (.ld (T 5) (some 3)),
og 34 30 false (.eqs true [.b, .i .i64, .s] (T 32) (T 33)),
oo 35 (.pick (T 30) (B true) (T 34))]
@[simp] def a2a_r6 :LO:=[oo 10 (.mov (K 0))]
@[simp] def a2a_r7 :LO:=[oo 36 (.mov (T 10)),
oo 37 (.fa 4 (T 9)),
oo 38 (.ld (T 37) none),
oo 39 (.len (T 38)),
oo 40 (.bin .lss (T 36) (T 39))]
@[simp] def a2a_t8 : VT :=
 oc 43 (.ld (T 3) (some 3)) <|
oc 44 (.fa 1 (T 3)) <|
oc 45 (.ld (T 44) none) <|
oc 46 (.len (T 45)) <|
oc 47 (.fa 4 (T 9)) <|
oc 48 (.ld (T 47) none) <|
oc 49 (.mov (T 10)) <|
oc 50 (.ia 1 (T 48) (T 49)) <|
oc 51 (.ld (T 50) none) <|
oc 52 (.mov (T 1)) <|
oc 53 (.ld (T 5) (some 3)) <|
oc 54 (.call n_a4b [(T 43), (T 46), (T 51), (T 52), (T 53)]) <|
oc 11 (.mov (T 54)) <|
.done
@[simp] def a2a_r9 :LO:=[oo 55 (.mov (T 7)),
oo 56 (.fa 4 (T 9)),
oo 57 (.ld (T 56) none),
oo 58 (.mov (T 10)),
oo 59 (.ia 1 (T 57) (T 58)),
oo 60 (.ld (T 59) none),
oo 61 (.mov (T 11)),
oo 62 (.build [zi, zi] [(0, 1, (T 60)), (1, 1, (T 61))]),
oo 63 (.lit 2 1 [(0, (T 62))]),
oo 64 (.app 2 16 (T 55) (T 63)),
oo 7 (.mov (T 64))]
@[simp] def a2a_r10 :LO:=[oo 41 (.mov (T 10)),
oo 42 (.bin .add (T 41) (K 1)),
oo 10 (.mov (T 42))]
def a2a_l11 : VCode :=
 (.seq (.seq (.reg a2a_r7) (.cond (T 40) .skip (.exit 2))) (.seq (.block 3 (.seq (.any a2a_t8) (.reg a2a_r9))) (.reg a2a_r10)))
@[simp] def a2a_r12 :LO:=[oo 19 (.mov (T 8)),
oo 20 (.bin .add (T 19) (K 1)),
oo 8 (.mov (T 20))]
def a2a_l13 : VCode :=
 (.seq (.seq (.reg a2a_r3) (.cond (T 18) .skip (.exit 0))) (.seq (.block 1 (.seq (.reg a2a_r4) (.seq (.seq (.reg a2a_r5) (.cond (T 35) (.exit 1) .skip)) (.seq (.reg a2a_r6) (.block 2 (.loop a2a_l11)))))) (.reg a2a_r12)))
@[simp] def a2a_r14 :LO:=[oo 65 (.mov (T 7)),
oo 6 (.mov (T 65))]
def a2a : VCode := (.seq (.reg a2a_r0) (.seq (.reg a2a_r1) (.seq (.seq (.reg a2a_r2) (.block 0 (.loop a2a_l13))) (.seq (.reg a2a_r14) .ret))))
theorem a2a_is : fnV prog n_a2a = some (66, a2a, [.tmp 6]) := by kernel_rfl
@[simp] def a3a_r0 :LO:=[oo 2 (.box (T 0)),
oo 4 (.mov (B false))]
@[simp] def a3a_r1 :LO:=[oo 5 (.ld (T 2) (some 3)),
oo 6 (.mov (T 1)),
oo 7 (.call n_a5b [(T 5), (T 6)]),
oo 8 (.bin .eql (T 7) (K 5)),
oo 4 (.mov (T 8))]
def a3a : VCode := (.seq (.reg a3a_r0) (.seq (.reg a3a_r1) .ret))
theorem a3a_is : fnV prog n_a3a = some (9, a3a, [.tmp 4]) := by kernel_rfl
@[simp] def a4a_r0 :LO:=[oo 1 (.box (T 0)),
oo 2 (.nils 1)]
@[simp] def a4a_r1 :LO:=[oo 3 (.nils 1)]
@[simp] def a4a_r2 :LO:=[oo 7 (.ld (T 1) (some 3)),
oo 8 (.call n_a6b [(T 7)]),
oo 4 (.mov (T 8))]
@[simp] def a4a_r3 :LO:=[oo 5 (.mov (K 0))]
@[simp] def a4a_r4 :LO:=[oo 9 (.mov (T 5)),
oo 10 (.mov (T 4)),
oo 11 (.len (T 10)),
oo 12 (.bin .lss (T 9) (T 11))]
@[simp] def a4a_t5 : VT :=
 oc 15 (.ld (T 1) (some 3)) <|
oc 16 (.mov (T 4)) <|
oc 17 (.mov (T 5)) <|
oc 18 (.ia 1 (T 16) (T 17)) <|
oc 19 (.ld (T 18) none) <|
oc 20 (.call n_a3a [(T 15), (T 19)]) <|
oc 6 (.mov (T 20)) <|
.done
@[simp] def a4a_r6 :LO:=[oo 21 (.mov (T 6))]
@[simp] def a4a_r7 :LO:=[oo 22 (.mov (T 3)),
oo 23 (.mov (T 4)),
oo 24 (.mov (T 5)),
oo 25 (.ia 1 (T 23) (T 24)),
oo 26 (.ld (T 25) none),
oo 27 (.lit 1 1 [(0, (T 26))]),
oo 28 (.app 1 8 (T 22) (T 27)),
oo 3 (.mov (T 28))]
@[simp] def a4a_r8 :LO:=[oo 13 (.mov (T 5)),
oo 14 (.bin .add (T 13) (K 1)),
oo 5 (.mov (T 14))]
@[simp] def a4a_r10 :LO:=[oo 29 (.mov (T 3)),
oo 2 (.mov (T 29))]
@[simp] def a5a_r0 :LO:=[oo 4 (.mov (B false))]
@[simp] def a5a_r1 :LO:=[oo 6 (.mov (T 0)),
oo 7 (.len (T 6)),
oo 8 (.mov (T 1)),
oo 9 (.len (T 8)),
oo 10 (.bin .neq (T 7) (T 9))]
@[simp] def a5a_r2 :LO:=[oo 4 (.mov (B false))]
@[simp] def a5a_r3 :LO:=[oo 5 (.mov (K 0))]
@[simp] def a5a_r4 :LO:=[oo 11 (.mov (T 5)),
oo 12 (.mov (T 0)),
oo 13 (.len (T 12)),
oo 14 (.bin .lss (T 11) (T 13))]
@[simp] def a5a_t5 : VT :=
 oc 17 (.mov (T 0)) <|
oc 18 (.mov (T 5)) <|
oc 19 (.ia 1 (T 17) (T 18)) <|
oc 20 (.ld (T 19) none) <|
oc 21 (.mov (T 1)) <|
oc 22 (.mov (T 5)) <|
oc 23 (.ia 1 (T 21) (T 22)) <|
oc 24 (.ld (T 23) none) <|
oc 25 (.bin .neq (T 20) (T 24)) <|
.done
@[simp] def a5a_r6 :LO:=[oo 4 (.mov (B false))]
@[simp] def a5a_r7 :LO:=[oo 15 (.mov (T 5)),
oo 16 (.bin .add (T 15) (K 1)),
oo 5 (.mov (T 16))]
@[simp] def a5a_r9 :LO:=[oo 4 (.mov (B true))]
@[simp] def a6a_r0 :LO:=[oo 2 (.box (T 0)),
oo 4 (.mov (K 0))]
@[simp] def a6a_r1 :LO:=[oo 5 (.mov (K 0))]
@[simp] def a6a_r2 :LO:=[oo 6 (.mov (T 5)),
oo 7 (.fa 1 (T 2)),
oo 8 (.ld (T 7) none),
oo 9 (.len (T 8)),
oo 10 (.bin .lss (T 6) (T 9))]
@[simp] def a6a_r3 :LO:=[oo 13 (.fa 1 (T 2)),
oo 14 (.ld (T 13) none),
oo 15 (.mov (T 5)),
oo 16 (.ia 22 (T 14) (T 15)),
oo 17 (.fa 1 (T 16)),
oo 18 (.ld (T 17) none),
oo 19 (.bin .eql (T 18) (K 1)),
oo 20 (.mov (T 19)),
og 21 20 true (.fa 1 (T 2)),
og 22 20 true (.ld (T 21) none),
og 23 20 true (.mov (T 5)),
og 24 20 true (.ia 22 (T 22) (T 23)),
og 25 20 true (.fa 0 (T 24)),
og 26 20 true (.ld (T 25) none),
og 27 20 true (.mov (T 1)),
og 28 20 true (.bin .eql (T 26) (T 27)),
oo 29 (.pick (T 20) (T 28) (B false))]
@[simp] def a6a_r4 :LO:=[oo 30 (.fa 1 (T 2)),
oo 31 (.ld (T 30) none),
oo 32 (.mov (T 5)),
oo 33 (.ia 22 (T 31) (T 32)),
oo 34 (.fa 2 (T 33)),
oo 35 (.ld (T 34) none),
oo 4 (.mov (T 35))]
@[simp] def a6a_r5 :LO:=[oo 11 (.mov (T 5)),
oo 12 (.bin .add (T 11) (K 1)),
oo 5 (.mov (T 12))]
@[simp] def a6a_r7 :LO:=[oo 4 (.mov (K 0))]
@[simp] def a7a_r0 :LO:=[oo 2 (.box (T 0)),
oo 4 (.mov (B false))]
@[simp] def a7a_r1 :LO:=[oo 7 (.mov (T 1)),
oo 8 (.bin .gtr (T 7) (K 6)),
oo 9 (.mov (T 8)),
og 10 9 false (.fa 8 (T 2)),
og 11 9 false (.ld (T 10) none),
og 12 9 false (.len (T 11)),
og 13 9 false (.bin .gtr (T 12) (K 6)),
oo 14 (.pick (T 9) (B true) (T 13))]
@[simp] def a7a_r2 :LO:=[oo 4 (.mov (B false))]
@[simp] def a7a_r3 :LO:=[oo 5 (.mov (K 0))]
@[simp] def a7a_r4 :LO:=[oo 15 (.mov (T 5)),
oo 16 (.fa 8 (T 2)),
oo 17 (.ld (T 16) none),
oo 18 (.len (T 17)),
oo 19 (.bin .lss (T 15) (T 18))]
@[simp] def a7a_r5 :LO:=[oo 22 (.fa 8 (T 2)),
oo 23 (.ld (T 22) none),
oo 24 (.mov (T 5)),
oo 25 (.ia 9 (T 23) (T 24)),
oo 26 (.ld (T 25) (some 9)),
oo 27 (.mov (T 1)),
oo 28 (.bin .add (T 27) (K 1)),
oo 29 (.call n_a7a [(T 26), (T 28)]),
oo 6 (.mov (T 29))]
@[simp] def a7a_r6 :LO:=[oo 30 (.mov (T 6)),
oo 31 (.un .not (T 30))]
@[simp] def a7a_r7 :LO:=[oo 4 (.mov (B false))]
@[simp] def a7a_r8 :LO:=[oo 20 (.mov (T 5)),
oo 21 (.bin .add (T 20) (K 1)),
oo 5 (.mov (T 21))]
def a7a_l9 : VCode :=
 (.seq (.seq (.reg a7a_r4) (.cond (T 19) .skip (.exit 0))) (.seq (.block 1 (.seq (.reg a7a_r5) (.seq (.reg a7a_r6) (.cond (T 31) (.seq (.reg a7a_r7) .ret) .skip)))) (.reg a7a_r8)))
@[simp] def a7a_r10 :LO:=[oo 32 (.ld (T 2) (some 9)),
oo 33 (.call n_a8b [(T 32)]),
oo 34 (.bin .leq (T 33) (K 30)),
oo 4 (.mov (T 34))]
def b2V : VCode := (.seq (.reg a7a_r0) (.seq (.seq (.reg a7a_r1) (.cond (T 14) (.seq (.reg a7a_r2) .ret) .skip)) (.seq (.seq (.reg a7a_r3) (.block 0 (.loop a7a_l9))) (.seq (.reg a7a_r10) .ret))))
theorem a7a_is : fnV prog n_a7a = some (35, b2V, [.tmp 4]) := by kernel_rfl
@[simp] def a8a_r0 :LO:=[oo 1 (.box (T 0)),
oo 2 (.mov (.const (.pointer none)))]
@[simp] def a8a_r1 :LO:=[oo 13 (.ld (T 1) (some 3)),
oo 14 (.call n_a9b [(T 13)]),
oo 15 (.bin .neq (T 14) (K 0))]
@[simp] def a8a_r2 :LO:=[oo 2 (.mov (.const (.pointer none)))]
@[simp] def a8a_r3 :LO:=[oo 16 (.mkmap (false, [.i .i64], false)),
oo 17 (.mkmap (true, [.i .i64, .b, .i .i64, .s, .i .i64, .i .i64], false)),
oo 18 (.mkmap (true, [.i .i64, .b, .i .i64, .s, .i .i64, .i .i64], false)),
oo 19 (.mkmap (true, [.i .i64, .b, .i .i64, .s], false)),
oo 20 (.build [.iv (.v (.map none)), .nil 1, .iv (.v (.map none)), .iv (.v (.map none)), .iv (.v (.map none))] [(0, 1, (T 16)), (2, 1, (T 17)), (3, 1, (T 18)), (4, 1, (T 19))]),
oo 21 (.box (T 20)),
oo 3 (.mov (T 21))]
@[simp] def a8a_r4 :LO:=[oo 22 (.fa 1 (T 1)),
oo 23 (.ld (T 22) none),
oo 24 (.len (T 23)),
oo 25 (.mov (K 0))]
@[simp] def a8a_r5 :LO:=[oo 26 (.bin .lss (T 25) (T 24))]
@[simp] def a8a_r6 :LO:=[oo 27 (.ia 22 (T 23) (T 25)),
oo 28 (.ld (T 27) (some 22)),
oo 5 (.alloc [zi, zi, zi, zi, zb, zi, zs, zi, zi, zi, .nil 3, zi, zi, zb, zi, zs, zb, zi, zs, .nil 9, .nil 5, zb]),
on (.st (T 5) (T 28) 22)]
@[simp] def a8a_r7 :LO:=[oo 29 (.fa 3 (T 5)),
oo 30 (.ld (T 29) none),
oo 31 (.fa 4 (T 5)),
oo 32 (.ld (T 31) (some 3)),
oo 33 (.build [zi, zb, zi, zs] [(0, 1, (T 30)), (1, 3, (T 32))]),
oo 6 (.alloc [zi, zb, zi, zs]),
on (.st (T 6) (T 33) 4)]
@[simp] def a8a_r8 :LO:=[oo 34 (.fa 1 (T 5)),
oo 35 (.ld (T 34) none)]
@[simp] def a8a_r9 :LO:=[oo 37 (.bin .eql (T 35) (K 1)),
oo 36 (.mov (T 37))]
@[simp] def a8a_t10 : VT :=
 oc 38 (.mov (T 3)) <|
oc 39 (.chk (T 38)) <|
oc 40 (.fa 0 (T 39)) <|
oc 41 (.ld (T 40) none) <|
oc 42 (.fa 0 (T 5)) <|
oc 43 (.ld (T 42) none) <|
oc 44 (.fa 2 (T 5)) <|
oc 45 (.ld (T 44) none) <|
.op (on (.mset (false, [.i .i64], false) (T 41) (T 43) (T 45))) <|
.done
@[simp] def a8a_r11 :LO:=[oo 47 (.bin .eql (T 35) (K 5)),
oo 46 (.mov (T 47))]
@[simp] def a8a_t12 : VT :=
 oc 48 (.mov (T 3)) <|
oc 49 (.mov (T 3)) <|
oc 50 (.chk (T 49)) <|
oc 51 (.fa 1 (T 50)) <|
oc 52 (.ld (T 51) none) <|
oc 53 (.fa 0 (T 5)) <|
oc 54 (.ld (T 53) none) <|
oc 55 (.lit 1 1 [(0, (T 54))]) <|
oc 56 (.app 1 8 (T 52) (T 55)) <|
oc 57 (.chk (T 48)) <|
oc 58 (.fa 1 (T 57)) <|
.op (on (.st (T 58) (T 56) 1)) <|
.done
@[simp] def a8a_r13 :LO:=[oo 60 (.bin .eql (T 35) (K 3)),
oo 59 (.mov (T 60))]
@[simp] def a8a_s0 : VT :=
 oc 69 (.ld (T 68) none) <|
oc 70 (.build [zi, zi] [(0, 1, (T 67)), (1, 1, (T 69))]) <|
oc 71 (.build [zi, zb, zi, zs, zi, zi] [(0, 4, (T 65)), (4, 2, (T 70))]) <|
oc 74 (.call n_a0c [(T 73)]) <|
.op (on (.mset (true, [.i .i64, .b, .i .i64, .s, .i .i64, .i .i64], false) (T 64) (T 71) (T 74))) <|
.done
@[simp] def a8a_s1 : VT :=
 oc 74 (.call n_a0c [(T 73)]) <|
oc 69 (.ld (T 68) none) <|
oc 70 (.build [zi, zi] [(0, 1, (T 67)), (1, 1, (T 69))]) <|
oc 71 (.build [zi, zb, zi, zs, zi, zi] [(0, 4, (T 65)), (4, 2, (T 70))]) <|
.op (on (.mset (true, [.i .i64, .b, .i .i64, .s, .i .i64, .i .i64], false) (T 64) (T 71) (T 74))) <|
.done
@[simp] def a8a_s2 : VT :=
 oc 67 (.ld (T 66) none) <|
.alt (a8a_s0) (a8a_s1)
@[simp] def a8a_s3 : VT :=
 oc 67 (.ld (T 66) none) <|
oc 70 (.build [zi, zi] [(0, 1, (T 67)), (1, 1, (T 69))]) <|
oc 71 (.build [zi, zb, zi, zs, zi, zi] [(0, 4, (T 65)), (4, 2, (T 70))]) <|
oc 74 (.call n_a0c [(T 73)]) <|
.op (on (.mset (true, [.i .i64, .b, .i .i64, .s, .i .i64, .i .i64], false) (T 64) (T 71) (T 74))) <|
.done
@[simp] def a8a_s4 : VT :=
 oc 74 (.call n_a0c [(T 73)]) <|
oc 67 (.ld (T 66) none) <|
oc 70 (.build [zi, zi] [(0, 1, (T 67)), (1, 1, (T 69))]) <|
oc 71 (.build [zi, zb, zi, zs, zi, zi] [(0, 4, (T 65)), (4, 2, (T 70))]) <|
.op (on (.mset (true, [.i .i64, .b, .i .i64, .s, .i .i64, .i .i64], false) (T 64) (T 71) (T 74))) <|
.done
@[simp] def a8a_s5 : VT :=
 oc 69 (.ld (T 68) none) <|
.alt (a8a_s3) (a8a_s4)
@[simp] def a8a_s6 : VT :=
 oc 74 (.call n_a0c [(T 73)]) <|
oc 67 (.ld (T 66) none) <|
oc 69 (.ld (T 68) none) <|
oc 70 (.build [zi, zi] [(0, 1, (T 67)), (1, 1, (T 69))]) <|
oc 71 (.build [zi, zb, zi, zs, zi, zi] [(0, 4, (T 65)), (4, 2, (T 70))]) <|
.op (on (.mset (true, [.i .i64, .b, .i .i64, .s, .i .i64, .i .i64], false) (T 64) (T 71) (T 74))) <|
.done
@[simp] def a8a_s7 : VT :=
 oc 65 (.ld (T 6) (some 4)) <|
.alt (a8a_s2) (  .alt (a8a_s5) (a8a_s6))
@[simp] def a8a_s8 : VT :=
 oc 65 (.ld (T 6) (some 4)) <|
.alt (a8a_s0) (a8a_s1)
@[simp] def a8a_s9 : VT :=
 oc 65 (.ld (T 6) (some 4)) <|
oc 71 (.build [zi, zb, zi, zs, zi, zi] [(0, 4, (T 65)), (4, 2, (T 70))]) <|
oc 74 (.call n_a0c [(T 73)]) <|
.op (on (.mset (true, [.i .i64, .b, .i .i64, .s, .i .i64, .i .i64], false) (T 64) (T 71) (T 74))) <|
.done
@[simp] def a8a_s10 : VT :=
 oc 74 (.call n_a0c [(T 73)]) <|
oc 65 (.ld (T 6) (some 4)) <|
oc 71 (.build [zi, zb, zi, zs, zi, zi] [(0, 4, (T 65)), (4, 2, (T 70))]) <|
.op (on (.mset (true, [.i .i64, .b, .i .i64, .s, .i .i64, .i .i64], false) (T 64) (T 71) (T 74))) <|
.done
@[simp] def a8a_s11 : VT :=
 oc 69 (.ld (T 68) none) <|
oc 70 (.build [zi, zi] [(0, 1, (T 67)), (1, 1, (T 69))]) <|
.alt (a8a_s9) (a8a_s10)
@[simp] def a8a_s12 : VT :=
 oc 74 (.call n_a0c [(T 73)]) <|
oc 65 (.ld (T 6) (some 4)) <|
oc 69 (.ld (T 68) none) <|
oc 70 (.build [zi, zi] [(0, 1, (T 67)), (1, 1, (T 69))]) <|
oc 71 (.build [zi, zb, zi, zs, zi, zi] [(0, 4, (T 65)), (4, 2, (T 70))]) <|
.op (on (.mset (true, [.i .i64, .b, .i .i64, .s, .i .i64, .i .i64], false) (T 64) (T 71) (T 74))) <|
.done
@[simp] def a8a_s13 : VT :=
 oc 67 (.ld (T 66) none) <|
.alt (a8a_s8) (  .alt (a8a_s11) (a8a_s12))
@[simp] def a8a_s14 : VT :=
 oc 65 (.ld (T 6) (some 4)) <|
.alt (a8a_s3) (a8a_s4)
@[simp] def a8a_s15 : VT :=
 oc 67 (.ld (T 66) none) <|
oc 70 (.build [zi, zi] [(0, 1, (T 67)), (1, 1, (T 69))]) <|
.alt (a8a_s9) (a8a_s10)
@[simp] def a8a_s16 : VT :=
 oc 74 (.call n_a0c [(T 73)]) <|
oc 65 (.ld (T 6) (some 4)) <|
oc 67 (.ld (T 66) none) <|
oc 70 (.build [zi, zi] [(0, 1, (T 67)), (1, 1, (T 69))]) <|
oc 71 (.build [zi, zb, zi, zs, zi, zi] [(0, 4, (T 65)), (4, 2, (T 70))]) <|
.op (on (.mset (true, [.i .i64, .b, .i .i64, .s, .i .i64, .i .i64], false) (T 64) (T 71) (T 74))) <|
.done
@[simp] def a8a_s17 : VT :=
 oc 69 (.ld (T 68) none) <|
.alt (a8a_s14) (  .alt (a8a_s15) (a8a_s16))
@[simp] def a8a_s18 : VT :=
 oc 74 (.call n_a0c [(T 73)]) <|
oc 65 (.ld (T 6) (some 4)) <|
oc 67 (.ld (T 66) none) <|
oc 69 (.ld (T 68) none) <|
oc 70 (.build [zi, zi] [(0, 1, (T 67)), (1, 1, (T 69))]) <|
oc 71 (.build [zi, zb, zi, zs, zi, zi] [(0, 4, (T 65)), (4, 2, (T 70))]) <|
.op (on (.mset (true, [.i .i64, .b, .i .i64, .s, .i .i64, .i .i64], false) (T 64) (T 71) (T 74))) <|
.done
@[simp] def a8a_s19 : VT :=
 .alt (a8a_s13) (  .alt (a8a_s17) (a8a_s18))
@[simp] def a8a_s20 : VT :=
 oc 64 (.ld (T 63) none) <|
.alt (a8a_s7) (a8a_s19)
@[simp] def a8a_s21 : VT :=
 oc 64 (.ld (T 63) none) <|
.alt (a8a_s2) (  .alt (a8a_s5) (a8a_s6))
@[simp] def a8a_s22 : VT :=
 oc 64 (.ld (T 63) none) <|
.alt (a8a_s0) (a8a_s1)
@[simp] def a8a_s23 : VT :=
 oc 64 (.ld (T 63) none) <|
oc 74 (.call n_a0c [(T 73)]) <|
.op (on (.mset (true, [.i .i64, .b, .i .i64, .s, .i .i64, .i .i64], false) (T 64) (T 71) (T 74))) <|
.done
@[simp] def a8a_s24 : VT :=
 oc 74 (.call n_a0c [(T 73)]) <|
oc 64 (.ld (T 63) none) <|
.op (on (.mset (true, [.i .i64, .b, .i .i64, .s, .i .i64, .i .i64], false) (T 64) (T 71) (T 74))) <|
.done
@[simp] def a8a_s25 : VT :=
 oc 69 (.ld (T 68) none) <|
oc 70 (.build [zi, zi] [(0, 1, (T 67)), (1, 1, (T 69))]) <|
oc 71 (.build [zi, zb, zi, zs, zi, zi] [(0, 4, (T 65)), (4, 2, (T 70))]) <|
.alt (a8a_s23) (a8a_s24)
@[simp] def a8a_s26 : VT :=
 oc 74 (.call n_a0c [(T 73)]) <|
oc 64 (.ld (T 63) none) <|
oc 69 (.ld (T 68) none) <|
oc 70 (.build [zi, zi] [(0, 1, (T 67)), (1, 1, (T 69))]) <|
oc 71 (.build [zi, zb, zi, zs, zi, zi] [(0, 4, (T 65)), (4, 2, (T 70))]) <|
.op (on (.mset (true, [.i .i64, .b, .i .i64, .s, .i .i64, .i .i64], false) (T 64) (T 71) (T 74))) <|
.done
@[simp] def a8a_s27 : VT :=
 oc 67 (.ld (T 66) none) <|
.alt (a8a_s22) (  .alt (a8a_s25) (a8a_s26))
@[simp] def a8a_s28 : VT :=
 oc 64 (.ld (T 63) none) <|
.alt (a8a_s3) (a8a_s4)
@[simp] def a8a_s29 : VT :=
 oc 67 (.ld (T 66) none) <|
oc 70 (.build [zi, zi] [(0, 1, (T 67)), (1, 1, (T 69))]) <|
oc 71 (.build [zi, zb, zi, zs, zi, zi] [(0, 4, (T 65)), (4, 2, (T 70))]) <|
.alt (a8a_s23) (a8a_s24)
@[simp] def a8a_s30 : VT :=
 oc 74 (.call n_a0c [(T 73)]) <|
oc 64 (.ld (T 63) none) <|
oc 67 (.ld (T 66) none) <|
oc 70 (.build [zi, zi] [(0, 1, (T 67)), (1, 1, (T 69))]) <|
oc 71 (.build [zi, zb, zi, zs, zi, zi] [(0, 4, (T 65)), (4, 2, (T 70))]) <|
.op (on (.mset (true, [.i .i64, .b, .i .i64, .s, .i .i64, .i .i64], false) (T 64) (T 71) (T 74))) <|
.done
@[simp] def a8a_s31 : VT :=
 oc 69 (.ld (T 68) none) <|
.alt (a8a_s28) (  .alt (a8a_s29) (a8a_s30))
@[simp] def a8a_s32 : VT :=
 oc 74 (.call n_a0c [(T 73)]) <|
oc 64 (.ld (T 63) none) <|
oc 67 (.ld (T 66) none) <|
oc 69 (.ld (T 68) none) <|
oc 70 (.build [zi, zi] [(0, 1, (T 67)), (1, 1, (T 69))]) <|
oc 71 (.build [zi, zb, zi, zs, zi, zi] [(0, 4, (T 65)), (4, 2, (T 70))]) <|
.op (on (.mset (true, [.i .i64, .b, .i .i64, .s, .i .i64, .i .i64], false) (T 64) (T 71) (T 74))) <|
.done
@[simp] def a8a_s33 : VT :=
 .alt (a8a_s27) (  .alt (a8a_s31) (a8a_s32))
@[simp] def a8a_s34 : VT :=
 oc 65 (.ld (T 6) (some 4)) <|
.alt (a8a_s21) (a8a_s33)
@[simp] def a8a_s35 : VT :=
 oc 64 (.ld (T 63) none) <|
.alt (a8a_s8) (  .alt (a8a_s11) (a8a_s12))
@[simp] def a8a_s36 : VT :=
 oc 65 (.ld (T 6) (some 4)) <|
.alt (a8a_s22) (  .alt (a8a_s25) (a8a_s26))
@[simp] def a8a_s37 : VT :=
 oc 64 (.ld (T 63) none) <|
.alt (a8a_s9) (a8a_s10)
@[simp] def a8a_s38 : VT :=
 oc 65 (.ld (T 6) (some 4)) <|
oc 71 (.build [zi, zb, zi, zs, zi, zi] [(0, 4, (T 65)), (4, 2, (T 70))]) <|
.alt (a8a_s23) (a8a_s24)
@[simp] def a8a_s39 : VT :=
 oc 74 (.call n_a0c [(T 73)]) <|
oc 64 (.ld (T 63) none) <|
oc 65 (.ld (T 6) (some 4)) <|
oc 71 (.build [zi, zb, zi, zs, zi, zi] [(0, 4, (T 65)), (4, 2, (T 70))]) <|
.op (on (.mset (true, [.i .i64, .b, .i .i64, .s, .i .i64, .i .i64], false) (T 64) (T 71) (T 74))) <|
.done
@[simp] def a8a_s40 : VT :=
 oc 69 (.ld (T 68) none) <|
oc 70 (.build [zi, zi] [(0, 1, (T 67)), (1, 1, (T 69))]) <|
.alt (a8a_s37) (  .alt (a8a_s38) (a8a_s39))
@[simp] def a8a_s41 : VT :=
 oc 74 (.call n_a0c [(T 73)]) <|
oc 64 (.ld (T 63) none) <|
oc 65 (.ld (T 6) (some 4)) <|
oc 69 (.ld (T 68) none) <|
oc 70 (.build [zi, zi] [(0, 1, (T 67)), (1, 1, (T 69))]) <|
oc 71 (.build [zi, zb, zi, zs, zi, zi] [(0, 4, (T 65)), (4, 2, (T 70))]) <|
.op (on (.mset (true, [.i .i64, .b, .i .i64, .s, .i .i64, .i .i64], false) (T 64) (T 71) (T 74))) <|
.done
@[simp] def a8a_s42 : VT :=
 .alt (a8a_s36) (  .alt (a8a_s40) (a8a_s41))
@[simp] def a8a_s43 : VT :=
 oc 67 (.ld (T 66) none) <|
.alt (a8a_s35) (a8a_s42)
@[simp] def a8a_s44 : VT :=
 oc 64 (.ld (T 63) none) <|
.alt (a8a_s14) (  .alt (a8a_s15) (a8a_s16))
@[simp] def a8a_s45 : VT :=
 oc 65 (.ld (T 6) (some 4)) <|
.alt (a8a_s28) (  .alt (a8a_s29) (a8a_s30))
@[simp] def a8a_s46 : VT :=
 oc 67 (.ld (T 66) none) <|
oc 70 (.build [zi, zi] [(0, 1, (T 67)), (1, 1, (T 69))]) <|
.alt (a8a_s37) (  .alt (a8a_s38) (a8a_s39))
@[simp] def a8a_s47 : VT :=
 oc 74 (.call n_a0c [(T 73)]) <|
oc 64 (.ld (T 63) none) <|
oc 65 (.ld (T 6) (some 4)) <|
oc 67 (.ld (T 66) none) <|
oc 70 (.build [zi, zi] [(0, 1, (T 67)), (1, 1, (T 69))]) <|
oc 71 (.build [zi, zb, zi, zs, zi, zi] [(0, 4, (T 65)), (4, 2, (T 70))]) <|
.op (on (.mset (true, [.i .i64, .b, .i .i64, .s, .i .i64, .i .i64], false) (T 64) (T 71) (T 74))) <|
.done
@[simp] def a8a_s48 : VT :=
 .alt (a8a_s45) (  .alt (a8a_s46) (a8a_s47))
@[simp] def a8a_s49 : VT :=
 oc 69 (.ld (T 68) none) <|
.alt (a8a_s44) (a8a_s48)
@[simp] def a8a_s50 : VT :=
 oc 74 (.call n_a0c [(T 73)]) <|
oc 64 (.ld (T 63) none) <|
oc 65 (.ld (T 6) (some 4)) <|
oc 67 (.ld (T 66) none) <|
oc 69 (.ld (T 68) none) <|
oc 70 (.build [zi, zi] [(0, 1, (T 67)), (1, 1, (T 69))]) <|
oc 71 (.build [zi, zb, zi, zs, zi, zi] [(0, 4, (T 65)), (4, 2, (T 70))]) <|
.op (on (.mset (true, [.i .i64, .b, .i .i64, .s, .i .i64, .i .i64], false) (T 64) (T 71) (T 74))) <|
.done
@[simp] def a8a_s51 : VT :=
 .alt (a8a_s43) (  .alt (a8a_s49) (a8a_s50))
@[simp] def a8a_t14 : VT :=
 oc 61 (.mov (T 3)) <|
oc 62 (.chk (T 61)) <|
oc 63 (.fa 2 (T 62)) <|
oc 66 (.fa 0 (T 5)) <|
oc 68 (.fa 9 (T 5)) <|
oc 72 (.fa 10 (T 5)) <|
oc 73 (.ld (T 72) none) <|
.alt (a8a_s20) (  .alt (a8a_s34) (a8a_s51))
@[simp] def a8a_t15 : VT :=
 oc 75 (.mov (T 3)) <|
oc 76 (.chk (T 75)) <|
oc 77 (.fa 3 (T 76)) <|
oc 78 (.ld (T 77) none) <|
oc 79 (.ld (T 6) (some 4)) <|
oc 80 (.fa 0 (T 5)) <|
oc 81 (.ld (T 80) none) <|
oc 82 (.build [zi, zi] [(0, 1, (T 81))]) <|
oc 83 (.build [zi, zb, zi, zs, zi, zi] [(0, 4, (T 79)), (4, 2, (T 82))]) <|
oc 84 (.fa 9 (T 5)) <|
oc 85 (.ld (T 84) none) <|
.op (on (.mset (true, [.i .i64, .b, .i .i64, .s, .i .i64, .i .i64], false) (T 78) (T 83) (T 85))) <|
.done
@[simp] def a8a_r16 :LO:=[oo 86 (.bin .add (T 25) (K 1)),
oo 25 (.mov (T 86))]
def a8a_l17 : VCode :=
 (.seq (.reg a8a_r5) (.seq (.cond (T 26) .skip (.exit 0)) (.seq (.block 1 (.seq (.reg a8a_r6) (.seq (.reg a8a_r7) (.seq (.reg a8a_r8) (.block 2 (.seq (.reg a8a_r9) (.cond (T 36) (.any a8a_t10) (.seq (.reg a8a_r11) (.cond (T 46) (.any a8a_t12) (.seq (.reg a8a_r13) (.cond (T 59) (.seq (.any a8a_t14) (.any a8a_t15)) .skip))))))))))) (.reg a8a_r16))))
@[simp] def a8a_r18 :LO:=[oo 87 (.mov (T 3)),
oo 88 (.chk (T 87)),
oo 89 (.fa 1 (T 88)),
oo 90 (.ld (T 89) none),
oo 91 (.call n_a3r [(T 90)])]
@[simp] def a8a_r19 :LO:=[oo 92 (.fa 2 (T 1)),
oo 93 (.ld (T 92) none),
oo 94 (.len (T 93)),
oo 95 (.mov (K 0))]
@[simp] def a8a_r20 :LO:=[oo 96 (.bin .lss (T 95) (T 94))]
@[simp] def a8a_r21 :LO:=[oo 97 (.ia 5 (T 93) (T 95)),
oo 98 (.ld (T 97) (some 5)),
oo 8 (.alloc [zi, zb, zi, zs, .nil 1]),
on (.st (T 8) (T 98) 5)]
@[simp] def a8a_r22 :LO:=[oo 99 (.fa 0 (T 8)),
oo 100 (.ld (T 99) none),
oo 101 (.fa 1 (T 8)),
oo 102 (.ld (T 101) (some 3)),
oo 103 (.build [zi, zb, zi, zs] [(0, 1, (T 100)), (1, 3, (T 102))]),
oo 9 (.alloc [zi, zb, zi, zs]),
on (.st (T 9) (T 103) 4)]
@[simp] def a8a_r23 :LO:=[oo 104 (.build [zi, zi] []),
oo 105 (.lit 2 1 [(0, (T 104))]),
oo 10 (.mov (T 105))]
@[simp] def a8a_r24 :LO:=[oo 106 (.fa 4 (T 8)),
oo 107 (.ld (T 106) none),
oo 108 (.len (T 107)),
oo 109 (.mov (K 0))]
@[simp] def a8a_r25 :LO:=[oo 110 (.bin .lss (T 109) (T 108))]
@[simp] def a8a_r26 :LO:=[oo 111 (.ia 1 (T 107) (T 109)),
oo 112 (.ld (T 111) none),
oo 12 (.mov (T 112))]
@[simp] def a8a_t27 : VT :=
 oc 113 (.mov (T 10)) <|
oc 114 (.mov (T 12)) <|
oc 115 (.mov (T 3)) <|
oc 116 (.chk (T 115)) <|
oc 117 (.fa 3 (T 116)) <|
oc 118 (.ld (T 117) none) <|
oc 119 (.ld (T 9) (some 4)) <|
oc 120 (.mov (T 12)) <|
oc 121 (.build [zi, zi] [(0, 1, (T 120))]) <|
oc 122 (.build [zi, zb, zi, zs, zi, zi] [(0, 4, (T 119)), (4, 2, (T 121))]) <|
oc 123 (.lkp (true, [.i .i64, .b, .i .i64, .s, .i .i64, .i .i64], false) [zi] (T 118) (T 122) false) <|
oc 124 (.build [zi, zi] [(0, 1, (T 114)), (1, 1, (T 123))]) <|
oc 125 (.lit 2 1 [(0, (T 124))]) <|
oc 126 (.app 2 16 (T 113) (T 125)) <|
oc 10 (.mov (T 126)) <|
.done
@[simp] def a8a_r28 :LO:=[oo 127 (.bin .add (T 109) (K 1)),
oo 109 (.mov (T 127))]
def a8a_l29 : VCode :=
 (.seq (.reg a8a_r25) (.seq (.cond (T 110) .skip (.exit 5)) (.seq (.block 6 (.seq (.reg a8a_r26) (.any a8a_t27))) (.reg a8a_r28))))
@[simp] def a8a_t30 : VT :=
 oc 128 (.mov (T 3)) <|
oc 129 (.chk (T 128)) <|
oc 130 (.fa 4 (T 129)) <|
oc 131 (.ld (T 130) none) <|
oc 132 (.ld (T 9) (some 4)) <|
oc 133 (.mov (T 10)) <|
.op (on (.mset (true, [.i .i64, .b, .i .i64, .s], false) (T 131) (T 132) (T 133))) <|
.done
@[simp] def a8a_r31 :LO:=[oo 134 (.bin .add (T 95) (K 1)),
oo 95 (.mov (T 134))]
def a8a_l32 : VCode :=
 (.seq (.reg a8a_r20) (.seq (.cond (T 96) .skip (.exit 3)) (.seq (.block 4 (.seq (.reg a8a_r21) (.seq (.reg a8a_r22) (.seq (.reg a8a_r23) (.seq (.seq (.reg a8a_r24) (.block 5 (.loop a8a_l29))) (.any a8a_t30)))))) (.reg a8a_r31))))
@[simp] def a8a_r33 :LO:=[oo 135 (.mov (T 3)),
oo 2 (.mov (T 135))]
def a8a : VCode := (.seq (.reg a8a_r0) (.seq (.seq (.reg a8a_r1) (.cond (T 15) (.seq (.reg a8a_r2) .ret) .skip)) (.seq (.reg a8a_r3) (.seq (.seq (.reg a8a_r4) (.block 0 (.loop a8a_l17))) (.seq (.reg a8a_r18) (.seq (.seq (.reg a8a_r19) (.block 3 (.loop a8a_l32))) (.seq (.reg a8a_r33) .ret)))))))
theorem a8a_is : fnV prog n_a8a = some (136, a8a, [.tmp 2]) := by kernel_rfl
@[simp] def a9a_r0 :LO:=[oo 2 (.nils 1)]
@[simp] def a9a_r1 :LO:=[oo 3 (.mov (T 0)),
oo 4 (.peq false (T 3) (.const (.pointer none)))]
@[simp] def a9a_r2 :LO:=[oo 2 (.nils 1)]
@[simp] def a9a_r3 :LO:=[oo 5 (.mov (T 0)),
oo 6 (.chk (T 5)),
oo 7 (.fa 1 (T 6)),
oo 8 (.ld (T 7) none),
oo 9 (.call n_a1c [(T 8)]),
oo 2 (.mov (T 9))]
def a9a : VCode := (.seq (.reg a9a_r0) (.seq (.seq (.reg a9a_r1) (.cond (T 4) (.seq (.reg a9a_r2) .ret) .skip)) (.seq (.reg a9a_r3) .ret)))
theorem a9a_is : fnV prog n_a9a = some (10, a9a, [.tmp 2]) := by kernel_rfl
@[simp] def a0b_r0 :LO:=[oo 1 (.box (T 0)),
oo 2 (.mov (B false))]
@[simp] def a0b_r1 :LO:=[oo 5 (.fa 0 (T 1)),
oo 6 (.ld (T 5) none),
oo 7 (.len (T 6)),
oo 8 (.bin .lss (T 7) (K 1)),
oo 9 (.mov (T 8)),
og 10 9 false (.fa 0 (T 1)),
og 11 9 false (.ld (T 10) none),
og 12 9 false (.len (T 11)),
og 13 9 false (.bin .gtr (T 12) (K 3)),
oo 14 (.pick (T 9) (B true) (T 13))]
@[simp] def a0b_r2 :LO:=[oo 2 (.mov (B false))]
@[simp] def a0b_r3 :LO:=[oo 3 (.mov (K 0))]
@[simp] def a0b_r4 :LO:=[oo 15 (.mov (T 3)),
oo 16 (.fa 0 (T 1)),
oo 17 (.ld (T 16) none),
oo 18 (.len (T 17)),
oo 19 (.bin .lss (T 15) (T 18))]
@[simp] def a0b_r5 :LO:=[oo 22 (.fa 0 (T 1)),
oo 23 (.ld (T 22) none),
oo 24 (.mov (T 3)),
oo 25 (.ia 1 (T 23) (T 24)),
oo 26 (.ld (T 25) (some 1)),
oo 27 (.call n_a9c [(T 26)]),
oo 4 (.mov (T 27))]
@[simp] def a0b_r6 :LO:=[oo 28 (.mov (T 4)),
oo 29 (.un .not (T 28))]
@[simp] def a0b_r7 :LO:=[oo 2 (.mov (B false))]
@[simp] def a0b_r8 :LO:=[oo 20 (.mov (T 3)),
oo 21 (.bin .add (T 20) (K 1)),
oo 3 (.mov (T 21))]
def a0b_l9 : VCode :=
 (.seq (.seq (.reg a0b_r4) (.cond (T 19) .skip (.exit 0))) (.seq (.block 1 (.seq (.reg a0b_r5) (.seq (.reg a0b_r6) (.cond (T 29) (.seq (.reg a0b_r7) .ret) .skip)))) (.reg a0b_r8)))
@[simp] def a0b_r10 :LO:=[oo 2 (.mov (B true))]
def b3V : VCode := (.seq (.reg a0b_r0) (.seq (.seq (.reg a0b_r1) (.cond (T 14) (.seq (.reg a0b_r2) .ret) .skip)) (.seq (.seq (.reg a0b_r3) (.block 0 (.loop a0b_l9))) (.seq (.reg a0b_r10) .ret))))
theorem a0b_is : fnV prog n_a0b = some (30, b3V, [.tmp 2]) := by kernel_rfl
@[simp] def a1b_r0 :LO:=[oo 2 (.box (T 0)),
oo 4 (.mov (B false))]
@[simp] def a1b_r1 :LO:=[oo 6 (.ld (T 2) (some 3)),
oo 7 (.mov (T 1)),
oo 8 (.call n_a0d [(T 6), (T 7)]),
oo 5 (.mov (T 8))]
@[simp] def a1b_r2 :LO:=[oo 9 (.mov (T 5)),
oo 10 (.un .not (T 9))]
@[simp] def a1b_r3 :LO:=[oo 4 (.mov (B false))]
@[simp] def a1b_r4 :LO:=[oo 11 (.fa 1 (T 2)),
oo 12 (.ld (T 11) none),
oo 13 (.mov (T 1)),
oo 14 (.ia 22 (T 12) (T 13)),
oo 15 (.fa 1 (T 14)),
oo 16 (.ld (T 15) none)]
@[simp] def a1b_r5 :LO:=[oo 18 (.bin .eql (T 16) (K 2)),
oo 17 (.mov (T 18))]
@[simp] def a1b_r6 :LO:=[oo 19 (.ld (T 2) (some 3)),
oo 20 (.mov (T 1)),
oo 21 (.call n_a1d [(T 19), (T 20)]),
oo 4 (.mov (T 21))]
@[simp] def a1b_r7 :LO:=[oo 23 (.bin .eql (T 16) (K 3)),
oo 22 (.mov (T 23))]
@[simp] def a1b_r8 :LO:=[oo 24 (.ld (T 2) (some 3)),
oo 25 (.mov (T 1)),
oo 26 (.call n_a2d [(T 24), (T 25)]),
oo 4 (.mov (T 26))]
@[simp] def a1b_r9 :LO:=[oo 28 (.bin .eql (T 16) (K 4)),
oo 27 (.mov (T 28))]
@[simp] def a1b_r10 :LO:=[oo 29 (.ld (T 2) (some 3)),
oo 30 (.mov (T 1)),
oo 31 (.call n_a3d [(T 29), (T 30)]),
oo 4 (.mov (T 31))]
@[simp] def a1b_r11 :LO:=[oo 4 (.mov (B true))]
def b4V : VCode := (.seq (.reg a1b_r0) (.seq (.reg a1b_r1) (.seq (.seq (.reg a1b_r2) (.cond (T 10) (.seq (.reg a1b_r3) .ret) .skip)) (.seq (.seq (.reg a1b_r4) (.block 0 (.seq (.reg a1b_r5) (.cond (T 17) (.seq (.reg a1b_r6) .ret) (.seq (.reg a1b_r7) (.cond (T 22) (.seq (.reg a1b_r8) .ret) (.seq (.reg a1b_r9) (.cond (T 27) (.seq (.reg a1b_r10) .ret) .skip)))))))) (.seq (.reg a1b_r11) .ret)))))
theorem a1b_is : fnV prog n_a1b = some (32, b4V, [.tmp 4]) := by kernel_rfl
@[simp] def a2b_r0 :LO:=[oo 2 (.box (T 0)),
oo 4 (.mov (B false))]
@[simp] def a2b_r1 :LO:=[oo 10 (.fa 1 (T 2)),
oo 11 (.ld (T 10) none),
oo 12 (.mov (T 1)),
oo 13 (.ia 22 (T 11) (T 12)),
oo 14 (.ld (T 13) (some 22)),
oo 5 (.alloc [zi, zi, zi, zi, zb, zi, zs, zi, zi, zi, .nil 3, zi, zi, zb, zi, zs, zb, zi, zs, .nil 9, .nil 5, zb]),
on (.st (T 5) (T 14) 22)]
@[simp] def a2b_r2 :LO:=[oo 15 (.ld (T 2) (some 3)),
oo 16 (.fa 0 (T 5)),
oo 17 (.ld (T 16) none),
oo 18 (.call n_a3a [(T 15), (T 17)]),
oo 6 (.mov (T 18))]
@[simp] def a2b_r3 :LO:=[oo 19 (.fa 1 (T 5)),
oo 20 (.ld (T 19) none),
oo 21 (.bin .neq (T 20) (K 3)),
oo 22 (.mov (T 21)),
og 23 22 false (.mov (T 6)),
og 24 22 false (.un .not (T 23)),
oo 25 (.pick (T 22) (B true) (T 24))]
@[simp] def a2b_r4 :LO:=[oo 4 (.mov (B true))]
@[simp] def a2b_r5 :LO:=[oo 7 (.mov (K 0))]
@[simp] def a2b_r6 :LO:=[oo 26 (.mov (T 7)),
oo 27 (.fa 2 (T 2)),
oo 28 (.ld (T 27) none),
oo 29 (.len (T 28)),
oo 30 (.bin .lss (T 26) (T 29))]
@[simp] def a2b_r7 :LO:=[oo 33 (.fa 2 (T 2)),
oo 34 (.ld (T 33) none),
oo 35 (.mov (T 7)),
oo 36 (.ia 5 (T 34) (T 35)),
oo 37 (.ld (T 36) (some 5)),
oo 8 (.alloc [zi, zb, zi, zs, .nil 1]),
on (.st (T 8) (T 37) 5)]
@[simp] def a2b_r8 :LO:=[oo 38 (.fa 0 (T 8)),
oo 39 (.ld (T 38) none),
oo 40 (.fa 3 (T 5)),
oo 41 (.ld (T 40) none),
oo 42 (.bin .neq (T 39) (T 41)),
oo 43 (.mov (T 42)),
og 44 43 false (.fa 1 (T 8)),
og 45 43 false (.ld (T 44) (some 3)),
og 46 43 false (.fa 4 (T 5)),
og 47 43 false (.ld (T 46) (some 3)),
og 48 43 false (.eqs true [.b, .i .i64, .s] (T 45) (T 47)),
oo 49 (.pick (T 43) (B true) (T 48))]
@[simp] def a2b_r9 :LO:=[oo 9 (.mov (K 0))]
@[simp] def a2b_r10 :LO:=[oo 50 (.mov (T 9)),
oo 51 (.fa 4 (T 8)),
oo 52 (.ld (T 51) none),
oo 53 (.len (T 52)),
oo 54 (.bin .lss (T 50) (T 53))]
@[simp] def a2b_t11 : VT :=
 oc 57 (.fa 4 (T 8)) <|
oc 58 (.ld (T 57) none) <|
oc 59 (.mov (T 9)) <|
oc 60 (.ia 1 (T 58) (T 59)) <|
oc 61 (.ld (T 60) none) <|
oc 62 (.fa 0 (T 5)) <|
oc 63 (.ld (T 62) none) <|
oc 64 (.bin .eql (T 61) (T 63)) <|
.done
@[simp] def a2b_r12 :LO:=[oo 4 (.mov (B true))]
@[simp] def a2b_r13 :LO:=[oo 55 (.mov (T 9)),
oo 56 (.bin .add (T 55) (K 1)),
oo 9 (.mov (T 56))]
def a2b_l14 : VCode :=
 (.seq (.seq (.reg a2b_r10) (.cond (T 54) .skip (.exit 2))) (.seq (.block 3 (.seq (.any a2b_t11) (.cond (T 64) (.seq (.reg a2b_r12) .ret) .skip))) (.reg a2b_r13)))
@[simp] def a2b_r15 :LO:=[oo 31 (.mov (T 7)),
oo 32 (.bin .add (T 31) (K 1)),
oo 7 (.mov (T 32))]
def a2b_l16 : VCode :=
 (.seq (.seq (.reg a2b_r6) (.cond (T 30) .skip (.exit 0))) (.seq (.block 1 (.seq (.reg a2b_r7) (.seq (.seq (.reg a2b_r8) (.cond (T 49) (.exit 1) .skip)) (.seq (.reg a2b_r9) (.block 2 (.loop a2b_l14)))))) (.reg a2b_r15)))
@[simp] def a2b_r17 :LO:=[oo 4 (.mov (B false))]
def b5V : VCode := (.seq (.reg a2b_r0) (.seq (.reg a2b_r1) (.seq (.reg a2b_r2) (.seq (.seq (.reg a2b_r3) (.cond (T 25) (.seq (.reg a2b_r4) .ret) .skip)) (.seq (.seq (.reg a2b_r5) (.block 0 (.loop a2b_l16))) (.seq (.reg a2b_r17) .ret))))))
theorem a2b_is : fnV prog n_a2b = some (65, b5V, [.tmp 4]) := by kernel_rfl
@[simp] def a3b_r0 :LO:=[oo 2 (.box (T 0)),
oo 4 (.mov (B false))]
@[simp] def a3b_r1 :LO:=[oo 10 (.fa 2 (T 2)),
oo 11 (.ld (T 10) none),
oo 12 (.mov (T 1)),
oo 13 (.ia 5 (T 11) (T 12)),
oo 14 (.ld (T 13) (some 5)),
oo 5 (.alloc [zi, zb, zi, zs, .nil 1]),
on (.st (T 5) (T 14) 5)]
@[simp] def a3b_r2 :LO:=[oo 6 (.mov (K 0))]
@[simp] def a3b_r3 :LO:=[oo 15 (.mov (T 6)),
oo 16 (.mov (T 1)),
oo 17 (.bin .lss (T 15) (T 16))]
@[simp] def a3b_t4 : VT :=
 oc 20 (.fa 2 (T 2)) <|
oc 21 (.ld (T 20) none) <|
oc 22 (.mov (T 6)) <|
oc 23 (.ia 5 (T 21) (T 22)) <|
oc 24 (.fa 0 (T 23)) <|
oc 25 (.ld (T 24) none) <|
oc 26 (.fa 0 (T 5)) <|
oc 27 (.ld (T 26) none) <|
oc 28 (.bin .eql (T 25) (T 27)) <|
oc 29 (.mov (T 28)) <|
.op (og 30 29 true (.fa 2 (T 2))) <|
.op (og 31 29 true (.ld (T 30) none)) <|
.op (og 32 29 true (.mov (T 6))) <|
.op (og 33 29 true (.ia 5 (T 31) (T 32))) <|
.op (og 34 29 true (.fa 1 (T 33))) <|
.op (og 35 29 true (.ld (T 34) (some 3))) <|
.op (og 36 29 true (.fa 1 (T 5))) <|
.op (og 37 29 true (.ld (T 36) (some 3))) <|
.op (og 38 29 true (.eqs false [.b, .i .i64, .s] (T 35) (T 37))) <|
oc 39 (.pick (T 29) (T 38) (B false)) <|
.done
@[simp] def a3b_r5 :LO:=[oo 4 (.mov (B false))]
@[simp] def a3b_r6 :LO:=[oo 18 (.mov (T 6)),
oo 19 (.bin .add (T 18) (K 1)),
oo 6 (.mov (T 19))]
def a3b_l7 : VCode :=
 (.seq (.seq (.reg a3b_r3) (.cond (T 17) .skip (.exit 0))) (.seq (.block 1 (.seq (.any a3b_t4) (.cond (T 39) (.seq (.reg a3b_r5) .ret) .skip))) (.reg a3b_r6)))
@[simp] def a3b_r8 :LO:=[oo 7 (.mov (K 0))]
@[simp] def a3b_r9 :LO:=[oo 40 (.mov (T 7)),
oo 41 (.fa 4 (T 5)),
oo 42 (.ld (T 41) none),
oo 43 (.len (T 42)),
oo 44 (.bin .lss (T 40) (T 43))]
@[simp] def a3b_t10 : VT :=
 oc 47 (.ld (T 2) (some 3)) <|
oc 48 (.fa 4 (T 5)) <|
oc 49 (.ld (T 48) none) <|
oc 50 (.mov (T 7)) <|
oc 51 (.ia 1 (T 49) (T 50)) <|
oc 52 (.ld (T 51) none) <|
oc 53 (.call n_a3a [(T 47), (T 52)]) <|
oc 8 (.mov (T 53)) <|
.done
@[simp] def a3b_t11 : VT :=
 oc 54 (.mov (T 8)) <|
oc 55 (.un .not (T 54)) <|
oc 56 (.mov (T 55)) <|
.op (og 57 56 false (.ld (T 2) (some 3))) <|
.op (og 58 56 false (.fa 1 (T 2))) <|
.op (og 59 56 false (.ld (T 58) none)) <|
.op (og 60 56 false (.len (T 59))) <|
.op (og 61 56 false (.fa 4 (T 5))) <|
.op (og 62 56 false (.ld (T 61) none)) <|
.op (og 63 56 false (.mov (T 7))) <|
.op (og 64 56 false (.ia 1 (T 62) (T 63))) <|
.op (og 65 56 false (.ld (T 64) none)) <|
.op (og 66 56 false (.fa 0 (T 5))) <|
.op (og 67 56 false (.ld (T 66) none)) <|
.op (og 68 56 false (.fa 1 (T 5))) <|
.op (og 69 56 false (.ld (T 68) (some 3))) <|
.op (og 70 56 false (.call n_a4b [(T 57), (T 60), (T 65), (T 67), (T 69)])) <|
.op (og 71 56 false (.bin .eql (T 70) (K 0))) <|
oc 72 (.pick (T 56) (B true) (T 71)) <|
.done
@[simp] def a3b_r12 :LO:=[oo 4 (.mov (B false))]
@[simp] def a3b_r13 :LO:=[oo 9 (.mov (K 0))]
@[simp] def a3b_r14 :LO:=[oo 73 (.mov (T 9)),
oo 74 (.mov (T 7)),
oo 75 (.bin .lss (T 73) (T 74))]
@[simp] def a3b_t15 : VT :=
 oc 78 (.fa 4 (T 5)) <|
oc 79 (.ld (T 78) none) <|
oc 80 (.mov (T 9)) <|
oc 81 (.ia 1 (T 79) (T 80)) <|
oc 82 (.ld (T 81) none) <|
oc 83 (.fa 4 (T 5)) <|
oc 84 (.ld (T 83) none) <|
oc 85 (.mov (T 7)) <|
oc 86 (.ia 1 (T 84) (T 85)) <|
oc 87 (.ld (T 86) none) <|
oc 88 (.bin .eql (T 82) (T 87)) <|
.done
@[simp] def a3b_r16 :LO:=[oo 4 (.mov (B false))]
@[simp] def a3b_r17 :LO:=[oo 76 (.mov (T 9)),
oo 77 (.bin .add (T 76) (K 1)),
oo 9 (.mov (T 77))]
def a3b_l18 : VCode :=
 (.seq (.seq (.reg a3b_r14) (.cond (T 75) .skip (.exit 4))) (.seq (.block 5 (.seq (.any a3b_t15) (.cond (T 88) (.seq (.reg a3b_r16) .ret) .skip))) (.reg a3b_r17)))
@[simp] def a3b_r19 :LO:=[oo 45 (.mov (T 7)),
oo 46 (.bin .add (T 45) (K 1)),
oo 7 (.mov (T 46))]
def a3b_l20 : VCode :=
 (.seq (.seq (.reg a3b_r9) (.cond (T 44) .skip (.exit 2))) (.seq (.block 3 (.seq (.any a3b_t10) (.seq (.seq (.any a3b_t11) (.cond (T 72) (.seq (.reg a3b_r12) .ret) .skip)) (.seq (.reg a3b_r13) (.block 4 (.loop a3b_l18)))))) (.reg a3b_r19)))
@[simp] def a3b_r21 :LO:=[oo 89 (.fa 4 (T 5)),
oo 90 (.ld (T 89) none),
oo 91 (.len (T 90)),
oo 92 (.bin .gtr (T 91) (K 0)),
oo 4 (.mov (T 92))]
def b6V : VCode := (.seq (.reg a3b_r0) (.seq (.reg a3b_r1) (.seq (.seq (.reg a3b_r2) (.block 0 (.loop a3b_l7))) (.seq (.seq (.reg a3b_r8) (.block 2 (.loop a3b_l20))) (.seq (.reg a3b_r21) .ret)))))
theorem a3b_is : fnV prog n_a3b = some (93, b6V, [.tmp 4]) := by kernel_rfl
@[simp] def a4b_r0 :LO:=[oo 5 (.box (T 0)),
oo 9 (.box (T 4)),
oo 10 (.mov (K 0))]
@[simp] def a4b_r1 :LO:=[oo 11 (.mov (K 0))]
@[simp] def a4b_r2 :LO:=[oo 12 (.mov (K 0))]
@[simp] def a4b_r3 :LO:=[oo 14 (.mov (T 12)),
oo 15 (.mov (T 1)),
oo 16 (.bin .lss (T 14) (T 15)),
oo 17 (.mov (T 16)),
og 18 17 true (.mov (T 12)),
og 19 17 true (.fa 1 (T 5)),
og 20 17 true (.ld (T 19) none),
og 21 17 true (.len (T 20)),
og 22 17 true (.bin .lss (T 18) (T 21)),
oo 23 (.pick (T 17) (T 22) (B false))]
@[simp] def a4b_r4 :LO:=[oo 26 (.fa 1 (T 5)),
oo 27 (.ld (T 26) none),
oo 28 (.mov (T 12)),
oo 29 (.ia 22 (T 27) (T 28)),
oo 30 (.ld (T 29) (some 22)),
oo 13 (.alloc [zi, zi, zi, zi, zb, zi, zs, zi, zi, zi, .nil 3, zi, zi, zb, zi, zs, zb, zi, zs, .nil 9, .nil 5, zb]),
on (.st (T 13) (T 30) 22)]
@[simp] def a4b_r5 :LO:=[oo 31 (.fa 1 (T 13)),
oo 32 (.ld (T 31) none),
oo 33 (.bin .eql (T 32) (K 3)),
oo 34 (.mov (T 33)),
og 35 34 true (.fa 0 (T 13)),
og 36 34 true (.ld (T 35) none),
og 37 34 true (.mov (T 2)),
og 38 34 true (.bin .eql (T 36) (T 37)),
oo 39 (.pick (T 34) (T 38) (B false)),
oo 40 (.mov (T 39)),
og 41 40 true (.fa 3 (T 13)),
og 42 40 true (.ld (T 41) none),
og 43 40 true (.mov (T 3)),
og 44 40 true (.bin .eql (T 42) (T 43)),
oo 45 (.pick (T 40) (T 44) (B false)),
oo 46 (.mov (T 45)),
og 47 46 true (.fa 4 (T 13)),
og 48 46 true (.ld (T 47) (some 3)),
og 49 46 true (.ld (T 9) (some 3)),
og 50 46 true (.eqs false [.b, .i .i64, .s] (T 48) (T 49)),
oo 51 (.pick (T 46) (T 50) (B false))]
@[simp] def a4b_r6 :LO:=[oo 52 (.mov (T 11)),
oo 53 (.bin .add (T 52) (K 1)),
oo 11 (.mov (T 53))]
@[simp] def a4b_r7 :LO:=[oo 24 (.mov (T 12)),
oo 25 (.bin .add (T 24) (K 1)),
oo 12 (.mov (T 25))]
def a4b_l8 : VCode :=
 (.seq (.seq (.reg a4b_r3) (.cond (T 23) .skip (.exit 0))) (.seq (.block 1 (.seq (.reg a4b_r4) (.seq (.reg a4b_r5) (.cond (T 51) (.reg a4b_r6) .skip)))) (.reg a4b_r7)))
@[simp] def a4b_r9 :LO:=[oo 54 (.mov (T 11)),
oo 10 (.mov (T 54))]
def a4b : VCode := (.seq (.reg a4b_r0) (.seq (.reg a4b_r1) (.seq (.seq (.reg a4b_r2) (.block 0 (.loop a4b_l8))) (.seq (.reg a4b_r9) .ret))))
theorem a4b_is : fnV prog n_a4b = some (55, a4b, [.tmp 10]) := by kernel_rfl
@[simp] def a5b_r0 :LO:=[oo 2 (.box (T 0)),
oo 4 (.mov (K 0))]
@[simp] def a5b_r1 :LO:=[oo 5 (.mov (K 0))]
@[simp] def a5b_r2 :LO:=[oo 7 (.mov (T 5)),
oo 8 (.fa 1 (T 2)),
oo 9 (.ld (T 8) none),
oo 10 (.len (T 9)),
oo 11 (.bin .lss (T 7) (T 10))]
@[simp] def a5b_r3 :LO:=[oo 14 (.fa 1 (T 2)),
oo 15 (.ld (T 14) none),
oo 16 (.mov (T 5)),
oo 17 (.ia 22 (T 15) (T 16)),
oo 18 (.ld (T 17) (some 22)),
oo 6 (.alloc [zi, zi, zi, zi, zb, zi, zs, zi, zi, zi, .nil 3, zi, zi, zb, zi, zs, zb, zi, zs, .nil 9, .nil 5, zb]),
on (.st (T 6) (T 18) 22)]
@[simp] def a5b_r4 :LO:=[oo 19 (.fa 0 (T 6)),
oo 20 (.ld (T 19) none),
oo 21 (.mov (T 1)),
oo 22 (.bin .eql (T 20) (T 21)),
oo 23 (.mov (T 22)),
og 24 23 true (.fa 1 (T 6)),
og 25 23 true (.ld (T 24) none),
og 26 23 true (.bin .eql (T 25) (K 5)),
og 27 23 true (.mov (T 26)),
og 28 27 false (.fa 1 (T 6)),
og 29 27 false (.ld (T 28) none),
og 30 27 false (.bin .eql (T 29) (K 6)),
og 31 23 true (.pick (T 27) (B true) (T 30)),
oo 32 (.pick (T 23) (T 31) (B false))]
@[simp] def a5b_r5 :LO:=[oo 33 (.fa 1 (T 6)),
oo 34 (.ld (T 33) none),
oo 4 (.mov (T 34))]
@[simp] def a5b_r6 :LO:=[oo 12 (.mov (T 5)),
oo 13 (.bin .add (T 12) (K 1)),
oo 5 (.mov (T 13))]
def a5b_l7 : VCode :=
 (.seq (.seq (.reg a5b_r2) (.cond (T 11) .skip (.exit 0))) (.seq (.block 1 (.seq (.reg a5b_r3) (.seq (.reg a5b_r4) (.cond (T 32) (.seq (.reg a5b_r5) .ret) .skip)))) (.reg a5b_r6)))
@[simp] def a5b_r8 :LO:=[oo 4 (.mov (K 0))]
def a5b : VCode := (.seq (.reg a5b_r0) (.seq (.seq (.reg a5b_r1) (.block 0 (.loop a5b_l7))) (.seq (.reg a5b_r8) .ret)))
theorem a5b_is : fnV prog n_a5b = some (35, a5b, [.tmp 4]) := by kernel_rfl
@[simp] def a6b_r0 :LO:=[oo 1 (.box (T 0)),
oo 2 (.nils 1)]
@[simp] def a6b_r1 :LO:=[oo 3 (.nils 1)]
@[simp] def a6b_r2 :LO:=[oo 4 (.mov (K 0))]
@[simp] def a6b_r3 :LO:=[oo 8 (.mov (T 4)),
oo 9 (.fa 1 (T 1)),
oo 10 (.ld (T 9) none),
oo 11 (.len (T 10)),
oo 12 (.bin .lss (T 8) (T 11))]
@[simp] def a6b_r4 :LO:=[oo 15 (.fa 1 (T 1)),
oo 16 (.ld (T 15) none),
oo 17 (.mov (T 4)),
oo 18 (.ia 22 (T 16) (T 17)),
oo 19 (.ld (T 18) (some 22)),
oo 5 (.alloc [zi, zi, zi, zi, zb, zi, zs, zi, zi, zi, .nil 3, zi, zi, zb, zi, zs, zb, zi, zs, .nil 9, .nil 5, zb]),
on (.st (T 5) (T 19) 22)]
@[simp] def a6b_r5 :LO:=[oo 20 (.fa 1 (T 5)),
oo 21 (.ld (T 20) none),
oo 22 (.bin .neq (T 21) (K 1))]
@[simp] def a6b_r6 :LO:=[oo 6 (.mov (K 0))]
@[simp] def a6b_t7 : VT :=
 oc 23 (.mov (T 6)) <|
oc 24 (.mov (T 3)) <|
oc 25 (.len (T 24)) <|
oc 26 (.bin .lss (T 23) (T 25)) <|
oc 27 (.mov (T 26)) <|
.op (og 28 27 true (.mov (T 3))) <|
.op (og 29 27 true (.mov (T 6))) <|
.op (og 30 27 true (.ia 1 (T 28) (T 29))) <|
.op (og 31 27 true (.ld (T 30) none)) <|
.op (og 32 27 true (.fa 0 (T 5))) <|
.op (og 33 27 true (.ld (T 32) none)) <|
.op (og 34 27 true (.bin .lss (T 31) (T 33))) <|
oc 35 (.pick (T 27) (T 34) (B false)) <|
.done
@[simp] def a6b_r8 :LO:=[oo 36 (.mov (T 6)),
oo 37 (.bin .add (T 36) (K 1)),
oo 6 (.mov (T 37))]
@[simp] def a6b_t10 : VT :=
 oc 38 (.mov (T 6)) <|
oc 39 (.mov (T 3)) <|
oc 40 (.len (T 39)) <|
oc 41 (.bin .lss (T 38) (T 40)) <|
oc 42 (.mov (T 41)) <|
.op (og 43 42 true (.mov (T 3))) <|
.op (og 44 42 true (.mov (T 6))) <|
.op (og 45 42 true (.ia 1 (T 43) (T 44))) <|
.op (og 46 42 true (.ld (T 45) none)) <|
.op (og 47 42 true (.fa 0 (T 5))) <|
.op (og 48 42 true (.ld (T 47) none)) <|
.op (og 49 42 true (.bin .eql (T 46) (T 48))) <|
oc 50 (.pick (T 42) (T 49) (B false)) <|
.done
@[simp] def a6b_r11 :LO:=[oo 7 (.nils 1)]
@[simp] def a6b_r12 :LO:=[oo 51 (.mov (T 7)),
oo 52 (.mov (T 3)),
oo 53 (.mov (T 6)),
oo 54 (.cut 1 (T 52) none (some (T 53))),
oo 55 (.app 1 8 (T 51) (T 54)),
oo 7 (.mov (T 55))]
@[simp] def a6b_r13 :LO:=[oo 56 (.mov (T 7)),
oo 57 (.fa 0 (T 5)),
oo 58 (.ld (T 57) none),
oo 59 (.lit 1 1 [(0, (T 58))]),
oo 60 (.app 1 8 (T 56) (T 59)),
oo 7 (.mov (T 60))]
@[simp] def a6b_r14 :LO:=[oo 61 (.mov (T 7)),
oo 62 (.mov (T 3)),
oo 63 (.mov (T 6)),
oo 64 (.cut 1 (T 62) (some (T 63)) none),
oo 65 (.app 1 8 (T 61) (T 64)),
oo 7 (.mov (T 65))]
@[simp] def a6b_r15 :LO:=[oo 66 (.mov (T 7)),
oo 3 (.mov (T 66))]
@[simp] def a6b_r16 :LO:=[oo 13 (.mov (T 4)),
oo 14 (.bin .add (T 13) (K 1)),
oo 4 (.mov (T 14))]
@[simp] def a6b_r18 :LO:=[oo 67 (.mov (T 3)),
oo 2 (.mov (T 67))]
@[simp] def a7b_r0 :LO:=[oo 6 (.box (T 2)),
oo 7 (.box (T 3)),
oo 8 (.nils 3),
oo 9 (.mov (B false))]
@[simp] def a7b_r1 :LO:=[oo 12 (.mov (T 0)),
oo 13 (.peq false (T 12) (.const (.pointer none)))]
@[simp] def a7b_r2 :LO:=[oo 8 (.nils 3),
oo 9 (.mov (B false))]
@[simp] def a7b_r3 :LO:=[oo 14 (.ld (T 7) (some 2)),
oo 15 (.build [zi, zi] []),
oo 16 (.eqs false [.i .i64, .i .i64] (T 14) (T 15))]
@[simp] def a7b_r4 :LO:=[oo 8 (.nils 3),
oo 9 (.mov (B true))]
@[simp] def a7b_t5 : VT :=
 oc 18 (.mov (T 0)) <|
oc 19 (.chk (T 18)) <|
oc 20 (.fa 2 (T 19)) <|
oc 21 (.ld (T 20) none) <|
oc 22 (.mov (T 1)) <|
oc 23 (.ld (T 6) (some 3)) <|
oc 24 (.build [zi, zb, zi, zs] [(0, 1, (T 22)), (1, 3, (T 23))]) <|
oc 25 (.ld (T 7) (some 2)) <|
oc 26 (.build [zi, zb, zi, zs, zi, zi] [(0, 4, (T 24)), (4, 2, (T 25))]) <|
oc 27 (.lkp (true, [.i .i64, .b, .i .i64, .s, .i .i64, .i .i64], false) [.nil 3] (T 21) (T 26) true) <|
oc 17 (.mov (T 27)) <|
oc 28 (.ext 0 (T 17)) <|
oc 29 (.ext 1 (T 17)) <|
oc 10 (.mov (T 28)) <|
oc 11 (.mov (T 29)) <|
.done
@[simp] def a7b_r6 :LO:=[oo 30 (.mov (T 10)),
oo 31 (.call n_a0c [(T 30)]),
oo 32 (.mov (T 11)),
oo 8 (.mov (T 31)),
oo 9 (.mov (T 32))]
def a7b : VCode := (.seq (.reg a7b_r0) (.seq (.seq (.reg a7b_r1) (.cond (T 13) (.seq (.reg a7b_r2) .ret) .skip)) (.seq (.seq (.reg a7b_r3) (.cond (T 16) (.seq (.reg a7b_r4) .ret) .skip)) (.seq (.any a7b_t5) (.seq (.reg a7b_r6) .ret)))))
theorem a7b_is : fnV prog n_a7b = some (33, a7b, [.tmp 8, .tmp 9]) := by kernel_rfl
@[simp] def a8b_r0 :LO:=[oo 1 (.box (T 0)),
oo 2 (.mov (K 0))]
@[simp] def a8b_r1 :LO:=[oo 3 (.mov (K 1))]
@[simp] def a8b_r2 :LO:=[oo 4 (.mov (K 0))]
@[simp] def a8b_r3 :LO:=[oo 5 (.mov (T 4)),
oo 6 (.fa 8 (T 1)),
oo 7 (.ld (T 6) none),
oo 8 (.len (T 7)),
oo 9 (.bin .lss (T 5) (T 8))]
@[simp] def a8b_r4 :LO:=[oo 12 (.mov (T 3)),
oo 13 (.fa 8 (T 1)),
oo 14 (.ld (T 13) none),
oo 15 (.mov (T 4)),
oo 16 (.ia 9 (T 14) (T 15)),
oo 17 (.ld (T 16) (some 9)),
oo 18 (.call n_a8b [(T 17)]),
oo 19 (.bin .add (T 12) (T 18)),
oo 3 (.mov (T 19))]
@[simp] def a8b_r5 :LO:=[oo 10 (.mov (T 4)),
oo 11 (.bin .add (T 10) (K 1)),
oo 4 (.mov (T 11))]
def a8b_l6 : VCode :=
 (.seq (.seq (.reg a8b_r3) (.cond (T 9) .skip (.exit 0))) (.seq (.block 1 (.reg a8b_r4)) (.reg a8b_r5)))
@[simp] def a8b_r7 :LO:=[oo 20 (.mov (T 3)),
oo 2 (.mov (T 20))]
def a8b : VCode := (.seq (.reg a8b_r0) (.seq (.reg a8b_r1) (.seq (.seq (.reg a8b_r2) (.block 0 (.loop a8b_l6))) (.seq (.reg a8b_r7) .ret))))
theorem a8b_is : fnV prog n_a8b = some (21, a8b, [.tmp 2]) := by kernel_rfl
@[simp] def a9b_r0 :LO:=[oo 1 (.box (T 0)),
oo 2 (.mov (K 0))]
@[simp] def a9b_r1 :LO:=[oo 10 (.ld (T 1) (some 3)),
oo 11 (.mkmap (false, [.i .i64], false)),
oo 12 (.mkmap (true, [.i .i64, .i .i64, .b, .i .i64, .s], false)),
oo 13 (.mkmap (false, [.i .i64], false)),
oo 14 (.build [.nil 1, .nil 22, .nil 5, .iv (.v (.map none)), .iv (.v (.map none)), .iv (.v (.map none))] [(0, 3, (T 10)), (3, 1, (T 11)), (4, 1, (T 12)), (5, 1, (T 13))]),
oo 15 (.box (T 14)),
oo 3 (.alloc [.iv (.v (.pointer none))]),
on (.st (T 3) (T 15) 1)]
@[simp] def a9b_r2 :LO:=[oo 16 (.mkfn n_a5d [] [(T 3)]),
oo 4 (.mov (T 16))]
@[simp] def a9b_r3 :LO:=[oo 17 (.ld (T 3) none),
oo 18 (.mkfn n_a1e [(T 17)] []),
oo 5 (.mov (T 18))]
@[simp] def a9b_r4 :LO:=[oo 19 (.fa 0 (T 1)),
oo 20 (.ld (T 19) none),
oo 21 (.len (T 20)),
oo 22 (.bin .lss (T 21) (K 1)),
oo 23 (.mov (T 22)),
og 24 23 false (.fa 0 (T 1)),
og 25 23 false (.ld (T 24) none),
og 26 23 false (.len (T 25)),
og 27 23 false (.bin .gtr (T 26) (K 3)),
oo 28 (.pick (T 23) (B true) (T 27))]
@[simp] def a9b_r5 :LO:=[oo 29 (.fa 0 (T 1)),
oo 30 (.ld (T 29) none),
oo 31 (.len (T 30)),
oo 32 (.mov (K 0))]
@[simp] def a9b_r6 :LO:=[oo 33 (.bin .lss (T 32) (T 31))]
@[simp] def a9b_r7 :LO:=[oo 34 (.ia 1 (T 30) (T 32)),
oo 35 (.ld (T 34) (some 1)),
oo 7 (.alloc [.nil 1]),
on (.st (T 7) (T 35) 1)]
@[simp] def a9b_r8 :LO:=[oo 36 (.ld (T 7) (some 1)),
oo 37 (.call n_a2e [(T 36)]),
oo 38 (.bin .neq (T 37) (K 0))]
@[simp] def a9b_r9 :LO:=[oo 39 (.bin .add (T 32) (K 1)),
oo 32 (.mov (T 39))]
def a9b_l10 : VCode :=
 (.seq (.reg a9b_r6) (.seq (.cond (T 33) .skip (.exit 0)) (.seq (.block 1 (.seq (.reg a9b_r7) (.seq (.reg a9b_r8) (.cond (T 38) (.goto 0) .skip)))) (.reg a9b_r9))))
@[simp] def a9b_r11 :LO:=[oo 40 (.fa 1 (T 1)),
oo 41 (.ld (T 40) none),
oo 42 (.len (T 41)),
oo 43 (.mov (K 0))]
@[simp] def a9b_r12 :LO:=[oo 44 (.bin .lss (T 43) (T 42))]
@[simp] def a9b_r13 :LO:=[oo 45 (.ia 22 (T 41) (T 43)),
oo 46 (.ld (T 45) (some 22)),
oo 9 (.alloc [zi, zi, zi, zi, zb, zi, zs, zi, zi, zi, .nil 3, zi, zi, zb, zi, zs, zb, zi, zs, .nil 9, .nil 5, zb]),
on (.st (T 9) (T 46) 22)]
@[simp] def a9b_r14 :LO:=[oo 47 (.mov (T 4)),
oo 48 (.ld (T 9) (some 22)),
oo 49 (.callv (T 47) [(T 48)]),
oo 50 (.un .not (T 49))]
@[simp] def a9b_r15 :LO:=[oo 51 (.bin .add (T 43) (K 1)),
oo 43 (.mov (T 51))]
def a9b_l16 : VCode :=
 (.seq (.reg a9b_r12) (.seq (.cond (T 44) .skip (.exit 2)) (.seq (.block 3 (.seq (.reg a9b_r13) (.seq (.reg a9b_r14) (.cond (T 50) (.goto 0) .skip)))) (.reg a9b_r15))))
@[simp] def a9b_r17 :LO:=[oo 52 (.mov (T 5)),
oo 53 (.callv (T 52) [])]
@[simp] def a9b_r18 :LO:=[oo 2 (.mov (K 0))]
@[simp] def a9b_r19 :LO:=[oo 2 (.mov (K 180))]
@[simp] def a9b_r20 :LO:=[oo 2 (.mov (K 180))]
def a9b : VCode := (.seq (.reg a9b_r0) (.scopeL (.seq (.reg a9b_r1) (.seq (.reg a9b_r2) (.seq (.reg a9b_r3) (.seq (.seq (.reg a9b_r4) (.cond (T 28) (.goto 0) .skip)) (.seq (.seq (.reg a9b_r5) (.block 0 (.loop a9b_l10))) (.seq (.seq (.reg a9b_r11) (.block 2 (.loop a9b_l16))) (.seq (.seq (.reg a9b_r17) (.cond (T 53) (.seq (.reg a9b_r18) .ret) .skip)) (.seq .skip (.seq (.reg a9b_r19) .ret))))))))) 0 (.seq .skip (.seq (.reg a9b_r20) .ret))))
theorem a9b_is : fnV prog n_a9b = some (54, a9b, [.tmp 2]) := by kernel_rfl
@[simp] def a0c_r0 :LO:=[oo 2 (.nils 3)]
@[simp] def a0c_r1 :LO:=[oo 3 (.mov (T 0)),
oo 4 (.call n_a3e [(T 3)]),
oo 2 (.mov (T 4))]
def a0c : VCode := (.seq (.reg a0c_r0) (.seq (.reg a0c_r1) .ret))
theorem a0c_is : fnV prog n_a0c = some (5, a0c, [.tmp 2]) := by kernel_rfl
@[simp] def a1c_r0 :LO:=[oo 2 (.nils 1)]
@[simp] def a1c_r1 :LO:=[oo 3 (.mov (T 0)),
oo 4 (.snil false (T 3))]
@[simp] def a1c_r2 :LO:=[oo 2 (.nils 1)]
@[simp] def a1c_r3 :LO:=[oo 5 (.lit 1 0 []),
oo 6 (.mov (T 0)),
oo 7 (.app 1 8 (T 5) (T 6)),
oo 2 (.mov (T 7))]
def a2c_int : VCode := (.seq (.reg a1c_r0) (.seq (.seq (.reg a1c_r1) (.cond (T 4) (.seq (.reg a1c_r2) .ret) .skip)) (.seq (.reg a1c_r3) .ret)))
theorem a1c_is : fnV prog n_a1c = some (8, a2c_int, [.tmp 2]) := by kernel_rfl
@[simp] def a3c_r0 :LO:=[oo 6 (.box (T 2)),
oo 7 (.box (T 3)),
oo 8 (.mov (K 0))]
@[simp] def a3c_r1 :LO:=[oo 12 (.mov (T 0)),
oo 13 (.mov (T 1)),
oo 14 (.ld (T 6) (some 3)),
oo 15 (.ld (T 7) (some 2)),
oo 16 (.call n_a7b [(T 12), (T 13), (T 14), (T 15)]),
oo 11 (.mov (T 16)),
oo 17 (.ext 0 (T 11)),
oo 18 (.ext 1 (T 11)),
oo 9 (.mov (T 17)),
oo 10 (.mov (T 18))]
@[simp] def a3c_r2 :LO:=[oo 19 (.mov (T 10)),
oo 20 (.un .not (T 19))]
@[simp] def a3c_r3 :LO:=[oo 8 (.mov (K (-1)))]
@[simp] def a3c_r4 :LO:=[oo 21 (.mov (T 0)),
oo 22 (.mov (T 1)),
oo 23 (.ld (T 6) (some 3)),
oo 24 (.call n_a5e [(T 21), (T 22), (T 23)]),
oo 25 (.mkfn n_a7e [] [(T 7)]),
oo 26 (.call n_a4e [(T 24), (T 25)]),
oo 8 (.mov (T 26))]
def a3c : VCode := (.seq (.reg a3c_r0) (.seq (.seq (.reg a3c_r1) (.seq (.reg a3c_r2) (.cond (T 20) (.seq (.reg a3c_r3) .ret) .skip))) (.seq (.reg a3c_r4) .ret)))
theorem a3c_is : fnV prog n_a3c = some (27, a3c, [.tmp 8]) := by kernel_rfl
@[simp] def a4c_r0 :LO:=[oo 5 (.box (T 2)),
oo 6 (.nils 2)]
@[simp] def a4c_r1 :LO:=[oo 9 (.mov (T 0)),
oo 10 (.peq false (T 9) (.const (.pointer none)))]
@[simp] def a4c_r2 :LO:=[oo 6 (.nils 2)]
@[simp] def a4c_r3 :LO:=[oo 11 (.mov (T 0)),
oo 12 (.mov (T 1)),
oo 13 (.ld (T 5) (some 3)),
oo 14 (.call n_a5e [(T 11), (T 12), (T 13)]),
oo 7 (.mov (T 14))]
@[simp] def a4c_r4 :LO:=[oo 15 (.mov (T 7)),
oo 16 (.len (T 15)),
oo 17 (.mks 2 16 [zi, zi] (T 16) (T 16)),
oo 8 (.mov (T 17))]
@[simp] def a4c_r5 :LO:=[oo 18 (.mov (T 8)),
oo 19 (.mov (T 7)),
oo 20 (.cpy 2 (T 18) (T 19))]
@[simp] def a4c_r6 :LO:=[oo 21 (.mov (T 8)),
oo 6 (.mov (T 21))]
def a4c : VCode := (.seq (.reg a4c_r0) (.seq (.seq (.reg a4c_r1) (.cond (T 10) (.seq (.reg a4c_r2) .ret) .skip)) (.seq (.reg a4c_r3) (.seq (.reg a4c_r4) (.seq (.reg a4c_r5) (.seq (.reg a4c_r6) .ret))))))
theorem a4c_is : fnV prog n_a4c = some (22, a4c, [.tmp 6]) := by kernel_rfl
@[simp] def a5c_r0 :LO:=[oo 5 (.box (T 0)),
oo 6 (.box (T 1)),
oo 7 (.box (T 2)),
oo 9 (.box (T 4)),
oo 10 (.mov (B false))]
@[simp] def a5c_r1 :LO:=[oo 13 (.ld (T 5) none),
oo 14 (.peq false (T 13) (.const (.pointer none)))]
@[simp] def a5c_r2 :LO:=[oo 10 (.mov (B false))]
@[simp] def a5c_r3 :LO:=[oo 15 (.ld (T 5) none),
oo 16 (.ld (T 6) none),
oo 17 (.ld (T 7) (some 3)),
oo 18 (.call n_a5e [(T 15), (T 16), (T 17)]),
oo 11 (.mov (T 18))]
@[simp] def a5c_r4 :LO:=[oo 19 (.mov (T 3)),
oo 20 (.bin .lss (T 19) (K 1)),
oo 21 (.mov (T 20)),
og 22 21 false (.mov (T 3)),
og 23 21 false (.mov (T 11)),
og 24 21 false (.len (T 23)),
og 25 21 false (.bin .geq (T 22) (T 24)),
oo 26 (.pick (T 21) (B true) (T 25))]
@[simp] def a5c_r5 :LO:=[oo 10 (.mov (B false))]
@[simp] def a5c_r6 :LO:=[oo 27 (.mkfn n_a8e [] [(T 5), (T 6), (T 7), (T 9)]),
oo 12 (.mov (T 27))]
@[simp] def a5c_s0 : VT :=
 oc 34 (.callv (T 28) [(T 33)]) <|
oc 39 (.ld (T 38) (some 2)) <|
oc 40 (.callv (T 35) [(T 39)]) <|
oc 41 (.beq true (T 34) (T 40)) <|
oc 10 (.mov (T 41)) <|
.done
@[simp] def a5c_s1 : VT :=
 oc 39 (.ld (T 38) (some 2)) <|
oc 34 (.callv (T 28) [(T 33)]) <|
oc 40 (.callv (T 35) [(T 39)]) <|
oc 41 (.beq true (T 34) (T 40)) <|
oc 10 (.mov (T 41)) <|
.done
@[simp] def a5c_t7 : VT :=
 oc 28 (.mov (T 12)) <|
oc 29 (.mov (T 11)) <|
oc 30 (.mov (T 3)) <|
oc 31 (.bin .sub (T 30) (K 1)) <|
oc 32 (.ia 2 (T 29) (T 31)) <|
oc 33 (.ld (T 32) (some 2)) <|
oc 35 (.mov (T 12)) <|
oc 36 (.mov (T 11)) <|
oc 37 (.mov (T 3)) <|
oc 38 (.ia 2 (T 36) (T 37)) <|
.alt (a5c_s0) (a5c_s1)
def a5c : VCode := (.seq (.reg a5c_r0) (.seq (.seq (.reg a5c_r1) (.cond (T 14) (.seq (.reg a5c_r2) .ret) .skip)) (.seq (.reg a5c_r3) (.seq (.seq (.reg a5c_r4) (.cond (T 26) (.seq (.reg a5c_r5) .ret) .skip)) (.seq (.reg a5c_r6) (.seq (.any a5c_t7) .ret))))))
theorem a5c_is : fnV prog n_a5c = some (42, a5c, [.tmp 10]) := by kernel_rfl
@[simp] def a6c_r0 :LO:=[oo 2 (.box (T 0)),
oo 3 (.box (T 1)),
oo 4 (.mov (K 0))]
@[simp] def a6c_r1 :LO:=[oo 6 (.fa 0 (T 2)),
oo 7 (.ld (T 6) none),
oo 8 (.mov (T 7)),
og 9 8 true (.fa 0 (T 3)),
og 10 8 true (.ld (T 9) none),
oo 11 (.pick (T 8) (T 10) (B false)),
oo 5 (.mov (T 11))]
@[simp] def a6c_r2 :LO:=[oo 12 (.fa 2 (T 2)),
oo 13 (.ld (T 12) none),
oo 14 (.fa 2 (T 3)),
oo 15 (.ld (T 14) none),
oo 16 (.call n_a0f [(T 13), (T 15)]),
oo 4 (.mov (T 16))]
@[simp] def a6c_r3 :LO:=[oo 18 (.fa 0 (T 2)),
oo 19 (.ld (T 18) none),
oo 17 (.mov (T 19))]
@[simp] def a6c_r4 :LO:=[oo 4 (.mov (K 1))]
@[simp] def a6c_r5 :LO:=[oo 21 (.fa 0 (T 3)),
oo 22 (.ld (T 21) none),
oo 20 (.mov (T 22))]
@[simp] def a6c_r6 :LO:=[oo 4 (.mov (K (-1)))]
@[simp] def a6c_r7 :LO:=[oo 23 (.fa 1 (T 2)),
oo 24 (.ld (T 23) none),
oo 25 (.fa 1 (T 3)),
oo 26 (.ld (T 25) none),
oo 27 (.call n_a2f [(T 24), (T 26)]),
oo 4 (.mov (T 27))]
def a6c : VCode := (.seq (.reg a6c_r0) (.seq (.block 0 (.seq (.reg a6c_r1) (.cond (T 5) (.seq (.reg a6c_r2) .ret) (.seq (.reg a6c_r3) (.cond (T 17) (.seq (.reg a6c_r4) .ret) (.seq (.reg a6c_r5) (.cond (T 20) (.seq (.reg a6c_r6) .ret) .skip))))))) (.seq (.reg a6c_r7) .ret)))
theorem a6c_is : fnV prog n_a6c = some (28, a6c, [.tmp 4]) := by kernel_rfl
@[simp] def a7c_r0 :LO:=[oo 4 (.box (T 0)),
oo 6 (.box (T 2)),
oo 7 (.box (T 3)),
oo 8 (.mov (K 0))]
@[simp] def a7c_r1 :LO:=[oo 14 (.ld (T 4) (some 3)),
oo 15 (.mov (T 1)),
oo 16 (.ld (T 6) (some 3)),
oo 17 (.ld (T 7) (some 2)),
oo 18 (.call n_a4f [(T 14), (T 15), (T 16), (T 17)]),
oo 13 (.mov (T 18)),
oo 19 (.ext 0 (T 13)),
oo 20 (.ext 1 (T 13)),
oo 9 (.mov (T 19)),
oo 10 (.mov (T 20))]
@[simp] def a7c_r2 :LO:=[oo 21 (.ld (T 4) (some 3)),
oo 22 (.mov (T 1)),
oo 23 (.ld (T 6) (some 3)),
oo 24 (.call n_a2a [(T 21), (T 22), (T 23)]),
oo 11 (.mov (T 24))]
@[simp] def a7c_r3 :LO:=[oo 12 (.mov (K 0))]
@[simp] def a7c_r4 :LO:=[oo 25 (.mov (T 12)),
oo 26 (.mov (T 11)),
oo 27 (.len (T 26)),
oo 28 (.bin .lss (T 25) (T 27)),
oo 29 (.mov (T 28)),
og 30 29 true (.mov (T 10)),
oo 31 (.pick (T 29) (T 30) (B false))]
@[simp] def a7c_t5 : VT :=
 oc 34 (.mov (T 11)) <|
oc 35 (.mov (T 12)) <|
oc 36 (.ia 2 (T 34) (T 35)) <|
oc 37 (.fa 0 (T 36)) <|
oc 38 (.ld (T 37) none) <|
oc 39 (.fa 0 (T 7)) <|
oc 40 (.ld (T 39) none) <|
oc 41 (.bin .eql (T 38) (T 40)) <|
.done
@[simp] def a7c_r6 :LO:=[oo 42 (.mov (T 12)),
oo 8 (.mov (T 42))]
@[simp] def a7c_r7 :LO:=[oo 32 (.mov (T 12)),
oo 33 (.bin .add (T 32) (K 1)),
oo 12 (.mov (T 33))]
@[simp] def a7c_r9 :LO:=[oo 8 (.mov (K (-1)))]
@[simp] def a8c_r0 :LO:=[oo 5 (.box (T 0)),
oo 7 (.box (T 2)),
oo 9 (.box (T 4)),
oo 10 (.mov (B false))]
@[simp] def a8c_r1 :LO:=[oo 12 (.ld (T 5) (some 3)),
oo 13 (.mov (T 1)),
oo 14 (.ld (T 7) (some 3)),
oo 15 (.call n_a2a [(T 12), (T 13), (T 14)]),
oo 11 (.mov (T 15))]
@[simp] def a8c_r2 :LO:=[oo 16 (.mov (T 3)),
oo 17 (.bin .lss (T 16) (K 1)),
oo 18 (.mov (T 17)),
og 19 18 false (.mov (T 3)),
og 20 18 false (.mov (T 11)),
og 21 18 false (.len (T 20)),
og 22 18 false (.bin .geq (T 19) (T 21)),
oo 23 (.pick (T 18) (B true) (T 22))]
@[simp] def a8c_r3 :LO:=[oo 10 (.mov (B false))]
@[simp] def a8c_s0 : VT :=
 oc 33 (.call n_a5f [(T 24), (T 25), (T 26), (T 31), (T 32)]) <|
oc 34 (.ld (T 5) (some 3)) <|
oc 36 (.ld (T 7) (some 3)) <|
oc 40 (.ld (T 39) (some 2)) <|
oc 41 (.ld (T 9) (some 9)) <|
oc 42 (.call n_a5f [(T 34), (T 35), (T 36), (T 40), (T 41)]) <|
oc 43 (.beq true (T 33) (T 42)) <|
oc 10 (.mov (T 43)) <|
.done
@[simp] def a8c_s1 : VT :=
 oc 33 (.call n_a5f [(T 24), (T 25), (T 26), (T 31), (T 32)]) <|
oc 36 (.ld (T 7) (some 3)) <|
oc 40 (.ld (T 39) (some 2)) <|
oc 41 (.ld (T 9) (some 9)) <|
oc 42 (.call n_a5f [(T 34), (T 35), (T 36), (T 40), (T 41)]) <|
oc 43 (.beq true (T 33) (T 42)) <|
oc 10 (.mov (T 43)) <|
.done
@[simp] def a8c_s2 : VT :=
 oc 33 (.call n_a5f [(T 24), (T 25), (T 26), (T 31), (T 32)]) <|
oc 40 (.ld (T 39) (some 2)) <|
oc 41 (.ld (T 9) (some 9)) <|
oc 42 (.call n_a5f [(T 34), (T 35), (T 36), (T 40), (T 41)]) <|
oc 43 (.beq true (T 33) (T 42)) <|
oc 10 (.mov (T 43)) <|
.done
@[simp] def a8c_s3 : VT :=
 oc 33 (.call n_a5f [(T 24), (T 25), (T 26), (T 31), (T 32)]) <|
oc 41 (.ld (T 9) (some 9)) <|
oc 42 (.call n_a5f [(T 34), (T 35), (T 36), (T 40), (T 41)]) <|
oc 43 (.beq true (T 33) (T 42)) <|
oc 10 (.mov (T 43)) <|
.done
@[simp] def a8c_s4 : VT :=
 oc 41 (.ld (T 9) (some 9)) <|
oc 33 (.call n_a5f [(T 24), (T 25), (T 26), (T 31), (T 32)]) <|
oc 42 (.call n_a5f [(T 34), (T 35), (T 36), (T 40), (T 41)]) <|
oc 43 (.beq true (T 33) (T 42)) <|
oc 10 (.mov (T 43)) <|
.done
@[simp] def a8c_s5 : VT :=
 oc 40 (.ld (T 39) (some 2)) <|
.alt (a8c_s3) (a8c_s4)
@[simp] def a8c_s6 : VT :=
 oc 33 (.call n_a5f [(T 24), (T 25), (T 26), (T 31), (T 32)]) <|
oc 40 (.ld (T 39) (some 2)) <|
oc 42 (.call n_a5f [(T 34), (T 35), (T 36), (T 40), (T 41)]) <|
oc 43 (.beq true (T 33) (T 42)) <|
oc 10 (.mov (T 43)) <|
.done
@[simp] def a8c_s7 : VT :=
 oc 40 (.ld (T 39) (some 2)) <|
oc 33 (.call n_a5f [(T 24), (T 25), (T 26), (T 31), (T 32)]) <|
oc 42 (.call n_a5f [(T 34), (T 35), (T 36), (T 40), (T 41)]) <|
oc 43 (.beq true (T 33) (T 42)) <|
oc 10 (.mov (T 43)) <|
.done
@[simp] def a8c_s8 : VT :=
 oc 41 (.ld (T 9) (some 9)) <|
.alt (a8c_s6) (a8c_s7)
@[simp] def a8c_s9 : VT :=
 oc 36 (.ld (T 7) (some 3)) <|
.alt (a8c_s2) (  .alt (a8c_s5) (a8c_s8))
@[simp] def a8c_s10 : VT :=
 oc 33 (.call n_a5f [(T 24), (T 25), (T 26), (T 31), (T 32)]) <|
oc 36 (.ld (T 7) (some 3)) <|
oc 41 (.ld (T 9) (some 9)) <|
oc 42 (.call n_a5f [(T 34), (T 35), (T 36), (T 40), (T 41)]) <|
oc 43 (.beq true (T 33) (T 42)) <|
oc 10 (.mov (T 43)) <|
.done
@[simp] def a8c_s11 : VT :=
 oc 36 (.ld (T 7) (some 3)) <|
.alt (a8c_s3) (a8c_s4)
@[simp] def a8c_s12 : VT :=
 oc 33 (.call n_a5f [(T 24), (T 25), (T 26), (T 31), (T 32)]) <|
oc 36 (.ld (T 7) (some 3)) <|
oc 42 (.call n_a5f [(T 34), (T 35), (T 36), (T 40), (T 41)]) <|
oc 43 (.beq true (T 33) (T 42)) <|
oc 10 (.mov (T 43)) <|
.done
@[simp] def a8c_s13 : VT :=
 oc 36 (.ld (T 7) (some 3)) <|
oc 33 (.call n_a5f [(T 24), (T 25), (T 26), (T 31), (T 32)]) <|
oc 42 (.call n_a5f [(T 34), (T 35), (T 36), (T 40), (T 41)]) <|
oc 43 (.beq true (T 33) (T 42)) <|
oc 10 (.mov (T 43)) <|
.done
@[simp] def a8c_s14 : VT :=
 oc 41 (.ld (T 9) (some 9)) <|
.alt (a8c_s12) (a8c_s13)
@[simp] def a8c_s15 : VT :=
 .alt (a8c_s11) (a8c_s14)
@[simp] def a8c_s16 : VT :=
 oc 40 (.ld (T 39) (some 2)) <|
.alt (a8c_s10) (a8c_s15)
@[simp] def a8c_s17 : VT :=
 oc 33 (.call n_a5f [(T 24), (T 25), (T 26), (T 31), (T 32)]) <|
oc 36 (.ld (T 7) (some 3)) <|
oc 40 (.ld (T 39) (some 2)) <|
oc 42 (.call n_a5f [(T 34), (T 35), (T 36), (T 40), (T 41)]) <|
oc 43 (.beq true (T 33) (T 42)) <|
oc 10 (.mov (T 43)) <|
.done
@[simp] def a8c_s18 : VT :=
 oc 36 (.ld (T 7) (some 3)) <|
.alt (a8c_s6) (a8c_s7)
@[simp] def a8c_s19 : VT :=
 oc 40 (.ld (T 39) (some 2)) <|
.alt (a8c_s12) (a8c_s13)
@[simp] def a8c_s20 : VT :=
 .alt (a8c_s18) (a8c_s19)
@[simp] def a8c_s21 : VT :=
 oc 41 (.ld (T 9) (some 9)) <|
.alt (a8c_s17) (a8c_s20)
@[simp] def a8c_s22 : VT :=
 .alt (a8c_s16) (a8c_s21)
@[simp] def a8c_s23 : VT :=
 oc 34 (.ld (T 5) (some 3)) <|
.alt (a8c_s1) (  .alt (a8c_s9) (a8c_s22))
@[simp] def a8c_s24 : VT :=
 oc 33 (.call n_a5f [(T 24), (T 25), (T 26), (T 31), (T 32)]) <|
oc 34 (.ld (T 5) (some 3)) <|
oc 40 (.ld (T 39) (some 2)) <|
oc 41 (.ld (T 9) (some 9)) <|
oc 42 (.call n_a5f [(T 34), (T 35), (T 36), (T 40), (T 41)]) <|
oc 43 (.beq true (T 33) (T 42)) <|
oc 10 (.mov (T 43)) <|
.done
@[simp] def a8c_s25 : VT :=
 oc 34 (.ld (T 5) (some 3)) <|
.alt (a8c_s2) (  .alt (a8c_s5) (a8c_s8))
@[simp] def a8c_s26 : VT :=
 oc 33 (.call n_a5f [(T 24), (T 25), (T 26), (T 31), (T 32)]) <|
oc 34 (.ld (T 5) (some 3)) <|
oc 41 (.ld (T 9) (some 9)) <|
oc 42 (.call n_a5f [(T 34), (T 35), (T 36), (T 40), (T 41)]) <|
oc 43 (.beq true (T 33) (T 42)) <|
oc 10 (.mov (T 43)) <|
.done
@[simp] def a8c_s27 : VT :=
 oc 34 (.ld (T 5) (some 3)) <|
.alt (a8c_s3) (a8c_s4)
@[simp] def a8c_s28 : VT :=
 oc 33 (.call n_a5f [(T 24), (T 25), (T 26), (T 31), (T 32)]) <|
oc 34 (.ld (T 5) (some 3)) <|
oc 42 (.call n_a5f [(T 34), (T 35), (T 36), (T 40), (T 41)]) <|
oc 43 (.beq true (T 33) (T 42)) <|
oc 10 (.mov (T 43)) <|
.done
@[simp] def a8c_s29 : VT :=
 oc 34 (.ld (T 5) (some 3)) <|
oc 33 (.call n_a5f [(T 24), (T 25), (T 26), (T 31), (T 32)]) <|
oc 42 (.call n_a5f [(T 34), (T 35), (T 36), (T 40), (T 41)]) <|
oc 43 (.beq true (T 33) (T 42)) <|
oc 10 (.mov (T 43)) <|
.done
@[simp] def a8c_s30 : VT :=
 oc 41 (.ld (T 9) (some 9)) <|
.alt (a8c_s28) (a8c_s29)
@[simp] def a8c_s31 : VT :=
 .alt (a8c_s27) (a8c_s30)
@[simp] def a8c_s32 : VT :=
 oc 40 (.ld (T 39) (some 2)) <|
.alt (a8c_s26) (a8c_s31)
@[simp] def a8c_s33 : VT :=
 oc 33 (.call n_a5f [(T 24), (T 25), (T 26), (T 31), (T 32)]) <|
oc 34 (.ld (T 5) (some 3)) <|
oc 40 (.ld (T 39) (some 2)) <|
oc 42 (.call n_a5f [(T 34), (T 35), (T 36), (T 40), (T 41)]) <|
oc 43 (.beq true (T 33) (T 42)) <|
oc 10 (.mov (T 43)) <|
.done
@[simp] def a8c_s34 : VT :=
 oc 34 (.ld (T 5) (some 3)) <|
.alt (a8c_s6) (a8c_s7)
@[simp] def a8c_s35 : VT :=
 oc 40 (.ld (T 39) (some 2)) <|
.alt (a8c_s28) (a8c_s29)
@[simp] def a8c_s36 : VT :=
 .alt (a8c_s34) (a8c_s35)
@[simp] def a8c_s37 : VT :=
 oc 41 (.ld (T 9) (some 9)) <|
.alt (a8c_s33) (a8c_s36)
@[simp] def a8c_s38 : VT :=
 .alt (a8c_s32) (a8c_s37)
@[simp] def a8c_s39 : VT :=
 .alt (a8c_s25) (a8c_s38)
@[simp] def a8c_s40 : VT :=
 oc 36 (.ld (T 7) (some 3)) <|
.alt (a8c_s24) (a8c_s39)
@[simp] def a8c_s41 : VT :=
 oc 33 (.call n_a5f [(T 24), (T 25), (T 26), (T 31), (T 32)]) <|
oc 34 (.ld (T 5) (some 3)) <|
oc 36 (.ld (T 7) (some 3)) <|
oc 41 (.ld (T 9) (some 9)) <|
oc 42 (.call n_a5f [(T 34), (T 35), (T 36), (T 40), (T 41)]) <|
oc 43 (.beq true (T 33) (T 42)) <|
oc 10 (.mov (T 43)) <|
.done
@[simp] def a8c_s42 : VT :=
 oc 34 (.ld (T 5) (some 3)) <|
.alt (a8c_s10) (a8c_s15)
@[simp] def a8c_s43 : VT :=
 oc 36 (.ld (T 7) (some 3)) <|
.alt (a8c_s26) (a8c_s31)
@[simp] def a8c_s44 : VT :=
 oc 33 (.call n_a5f [(T 24), (T 25), (T 26), (T 31), (T 32)]) <|
oc 34 (.ld (T 5) (some 3)) <|
oc 36 (.ld (T 7) (some 3)) <|
oc 42 (.call n_a5f [(T 34), (T 35), (T 36), (T 40), (T 41)]) <|
oc 43 (.beq true (T 33) (T 42)) <|
oc 10 (.mov (T 43)) <|
.done
@[simp] def a8c_s45 : VT :=
 oc 34 (.ld (T 5) (some 3)) <|
.alt (a8c_s12) (a8c_s13)
@[simp] def a8c_s46 : VT :=
 oc 36 (.ld (T 7) (some 3)) <|
.alt (a8c_s28) (a8c_s29)
@[simp] def a8c_s47 : VT :=
 .alt (a8c_s45) (a8c_s46)
@[simp] def a8c_s48 : VT :=
 oc 41 (.ld (T 9) (some 9)) <|
.alt (a8c_s44) (a8c_s47)
@[simp] def a8c_s49 : VT :=
 .alt (a8c_s43) (a8c_s48)
@[simp] def a8c_s50 : VT :=
 .alt (a8c_s42) (a8c_s49)
@[simp] def a8c_s51 : VT :=
 oc 40 (.ld (T 39) (some 2)) <|
.alt (a8c_s41) (a8c_s50)
@[simp] def a8c_s52 : VT :=
 oc 33 (.call n_a5f [(T 24), (T 25), (T 26), (T 31), (T 32)]) <|
oc 34 (.ld (T 5) (some 3)) <|
oc 36 (.ld (T 7) (some 3)) <|
oc 40 (.ld (T 39) (some 2)) <|
oc 42 (.call n_a5f [(T 34), (T 35), (T 36), (T 40), (T 41)]) <|
oc 43 (.beq true (T 33) (T 42)) <|
oc 10 (.mov (T 43)) <|
.done
@[simp] def a8c_s53 : VT :=
 oc 34 (.ld (T 5) (some 3)) <|
.alt (a8c_s17) (a8c_s20)
@[simp] def a8c_s54 : VT :=
 oc 36 (.ld (T 7) (some 3)) <|
.alt (a8c_s33) (a8c_s36)
@[simp] def a8c_s55 : VT :=
 oc 40 (.ld (T 39) (some 2)) <|
.alt (a8c_s44) (a8c_s47)
@[simp] def a8c_s56 : VT :=
 .alt (a8c_s54) (a8c_s55)
@[simp] def a8c_s57 : VT :=
 .alt (a8c_s53) (a8c_s56)
@[simp] def a8c_s58 : VT :=
 oc 41 (.ld (T 9) (some 9)) <|
.alt (a8c_s52) (a8c_s57)
@[simp] def a8c_s59 : VT :=
 .alt (a8c_s51) (a8c_s58)
@[simp] def a8c_s60 : VT :=
 .alt (a8c_s40) (a8c_s59)
@[simp] def a8c_s61 : VT :=
 .alt (a8c_s23) (a8c_s60)
@[simp] def a8c_t4 : VT :=
 oc 24 (.ld (T 5) (some 3)) <|
oc 25 (.mov (T 1)) <|
oc 26 (.ld (T 7) (some 3)) <|
oc 27 (.mov (T 11)) <|
oc 28 (.mov (T 3)) <|
oc 29 (.bin .sub (T 28) (K 1)) <|
oc 30 (.ia 2 (T 27) (T 29)) <|
oc 31 (.ld (T 30) (some 2)) <|
oc 32 (.ld (T 9) (some 9)) <|
oc 35 (.mov (T 1)) <|
oc 37 (.mov (T 11)) <|
oc 38 (.mov (T 3)) <|
oc 39 (.ia 2 (T 37) (T 38)) <|
.alt (a8c_s0) (a8c_s61)
@[simp] def a9c_r0 :LO:=[oo 1 (.box (T 0)),
oo 2 (.mov (B false))]
@[simp] def a9c_r1 :LO:=[oo 3 (.fa 0 (T 1)),
oo 4 (.ld (T 3) none),
oo 5 (.len (T 4)),
oo 6 (.bin .geq (T 5) (K 1)),
oo 7 (.mov (T 6)),
og 8 7 true (.fa 0 (T 1)),
og 9 7 true (.ld (T 8) none),
og 10 7 true (.len (T 9)),
og 11 7 true (.bin .leq (T 10) (K 4)),
oo 12 (.pick (T 7) (T 11) (B false)),
oo 2 (.mov (T 12))]
def a9c : VCode := (.seq (.reg a9c_r0) (.seq (.reg a9c_r1) .ret))
theorem a9c_is : fnV prog n_a9c = some (13, a9c, [.tmp 2]) := by kernel_rfl
@[simp] def a0d_r0 :LO:=[oo 2 (.box (T 0)),
oo 4 (.mov (B false))]
@[simp] def a0d_r1 :LO:=[oo 9 (.fa 1 (T 2)),
oo 10 (.ld (T 9) none),
oo 11 (.mov (T 1)),
oo 12 (.ia 22 (T 10) (T 11)),
oo 13 (.ld (T 12) (some 22)),
oo 5 (.alloc [zi, zi, zi, zi, zb, zi, zs, zi, zi, zi, .nil 3, zi, zi, zb, zi, zs, zb, zi, zs, .nil 9, .nil 5, zb]),
on (.st (T 5) (T 13) 22)]
@[simp] def a0d_r2 :LO:=[oo 14 (.fa 0 (T 5)),
oo 15 (.ld (T 14) none),
oo 16 (.bin .lss (T 15) (K 1)),
oo 17 (.mov (T 16)),
og 18 17 false (.fa 1 (T 5)),
og 19 17 false (.ld (T 18) none),
og 20 17 false (.bin .lss (T 19) (K 1)),
oo 21 (.pick (T 17) (B true) (T 20)),
oo 22 (.mov (T 21)),
og 23 22 false (.fa 1 (T 5)),
og 24 22 false (.ld (T 23) none),
og 25 22 false (.bin .gtr (T 24) (K 6)),
oo 26 (.pick (T 22) (B true) (T 25))]
@[simp] def a0d_r3 :LO:=[oo 4 (.mov (B false))]
@[simp] def a0d_r4 :LO:=[oo 6 (.mov (B false))]
@[simp] def a0d_r5 :LO:=[oo 7 (.mov (K 0))]
@[simp] def a0d_r6 :LO:=[oo 27 (.mov (T 7)),
oo 28 (.mov (T 1)),
oo 29 (.bin .lss (T 27) (T 28))]
@[simp] def a0d_r7 :LO:=[oo 32 (.fa 1 (T 2)),
oo 33 (.ld (T 32) none),
oo 34 (.mov (T 7)),
oo 35 (.ia 22 (T 33) (T 34)),
oo 36 (.ld (T 35) (some 22)),
oo 8 (.alloc [zi, zi, zi, zi, zb, zi, zs, zi, zi, zi, .nil 3, zi, zi, zb, zi, zs, zb, zi, zs, .nil 9, .nil 5, zb]),
on (.st (T 8) (T 36) 22)]
@[simp] def a0d_r8 :LO:=[oo 37 (.fa 0 (T 8)),
oo 38 (.ld (T 37) none),
oo 39 (.fa 0 (T 5)),
oo 40 (.ld (T 39) none),
oo 41 (.bin .neq (T 38) (T 40))]
@[simp] def a0d_r9 :LO:=[oo 6 (.mov (B true))]
@[simp] def a0d_r10 :LO:=[oo 42 (.fa 1 (T 8)),
oo 43 (.ld (T 42) none),
oo 44 (.bin .eql (T 43) (K 5)),
oo 45 (.mov (T 44)),
og 46 45 false (.fa 1 (T 8)),
og 47 45 false (.ld (T 46) none),
og 48 45 false (.bin .eql (T 47) (K 6)),
oo 49 (.pick (T 45) (B true) (T 48))]
@[simp] def a0d_r11 :LO:=[oo 4 (.mov (B false))]
@[simp] def a0d_r12 :LO:=[oo 30 (.mov (T 7)),
oo 31 (.bin .add (T 30) (K 1)),
oo 7 (.mov (T 31))]
def a0d_l13 : VCode :=
 (.seq (.seq (.reg a0d_r6) (.cond (T 29) .skip (.exit 0))) (.seq (.block 1 (.seq (.reg a0d_r7) (.seq (.seq (.reg a0d_r8) (.cond (T 41) (.exit 1) .skip)) (.seq (.reg a0d_r9) (.seq (.reg a0d_r10) (.cond (T 49) (.seq (.reg a0d_r11) .ret) .skip)))))) (.reg a0d_r12)))
@[simp] def a0d_r14 :LO:=[oo 50 (.fa 1 (T 5)),
oo 51 (.ld (T 50) none),
oo 52 (.bin .eql (T 51) (K 1))]
@[simp] def a0d_r15 :LO:=[oo 53 (.mov (T 6)),
oo 54 (.un .not (T 53)),
oo 55 (.mov (T 54)),
og 56 55 true (.fa 2 (T 5)),
og 57 55 true (.ld (T 56) none),
og 58 55 true (.bin .geq (T 57) (K 1)),
oo 59 (.pick (T 55) (T 58) (B false)),
oo 60 (.mov (T 59)),
og 61 60 true (.fa 2 (T 5)),
og 62 60 true (.ld (T 61) none),
og 63 60 true (.bin .leq (T 62) (K 5)),
oo 64 (.pick (T 60) (T 63) (B false)),
oo 4 (.mov (T 64))]
@[simp] def a0d_r16 :LO:=[oo 65 (.mov (T 6)),
oo 4 (.mov (T 65))]
def b7V : VCode := (.seq (.reg a0d_r0) (.seq (.reg a0d_r1) (.seq (.seq (.reg a0d_r2) (.cond (T 26) (.seq (.reg a0d_r3) .ret) .skip)) (.seq (.reg a0d_r4) (.seq (.seq (.reg a0d_r5) (.block 0 (.loop a0d_l13))) (.seq (.seq (.reg a0d_r14) (.cond (T 52) (.seq (.reg a0d_r15) .ret) .skip)) (.seq (.reg a0d_r16) .ret)))))))
theorem a0d_is : fnV prog n_a0d = some (66, b7V, [.tmp 4]) := by kernel_rfl
@[simp] def a1d_r0 :LO:=[oo 2 (.box (T 0)),
oo 4 (.mov (B false))]
@[simp] def a1d_r1 :LO:=[oo 9 (.fa 1 (T 2)),
oo 10 (.ld (T 9) none),
oo 11 (.mov (T 1)),
oo 12 (.ia 22 (T 10) (T 11)),
oo 13 (.ld (T 12) (some 22)),
oo 5 (.alloc [zi, zi, zi, zi, zb, zi, zs, zi, zi, zi, .nil 3, zi, zi, zb, zi, zs, zb, zi, zs, .nil 9, .nil 5, zb]),
on (.st (T 5) (T 13) 22)]
@[simp] def a1d_r2 :LO:=[oo 14 (.ld (T 2) (some 3)),
oo 15 (.fa 3 (T 5)),
oo 16 (.ld (T 15) none),
oo 17 (.fa 4 (T 5)),
oo 18 (.ld (T 17) (some 3)),
oo 19 (.call n_a6f [(T 14), (T 16), (T 18)]),
oo 6 (.mov (T 19))]
@[simp] def a1d_r3 :LO:=[oo 20 (.mov (T 6)),
oo 21 (.un .not (T 20))]
@[simp] def a1d_r4 :LO:=[oo 4 (.mov (B false))]
@[simp] def a1d_r5 :LO:=[oo 22 (.ld (T 2) (some 3)),
oo 23 (.mov (T 1)),
oo 24 (.fa 0 (T 5)),
oo 25 (.ld (T 24) none),
oo 26 (.fa 3 (T 5)),
oo 27 (.ld (T 26) none),
oo 28 (.fa 4 (T 5)),
oo 29 (.ld (T 28) (some 3)),
oo 30 (.call n_a4b [(T 22), (T 23), (T 25), (T 27), (T 29)]),
oo 7 (.mov (T 30))]
@[simp] def a1d_r6 :LO:=[oo 31 (.mov (T 7)),
oo 32 (.bin .gtr (T 31) (K 0))]
@[simp] def a1d_r7 :LO:=[oo 33 (.fa 7 (T 5)),
oo 34 (.ld (T 33) (some 2)),
oo 35 (.fa 0 (T 5)),
oo 36 (.ld (T 35) none),
oo 37 (.mov (T 7)),
oo 38 (.build [zi, zi] [(0, 1, (T 36)), (1, 1, (T 37))]),
oo 39 (.eqs false [.i .i64, .i .i64] (T 34) (T 38)),
oo 4 (.mov (T 39))]
@[simp] def a1d_r8 :LO:=[oo 40 (.build [zi, zi] []),
oo 8 (.alloc [zi, zi]),
on (.st (T 8) (T 40) 2)]
@[simp] def a1d_r9 :LO:=[oo 41 (.fa 7 (T 5)),
oo 42 (.ld (T 41) (some 2)),
oo 43 (.ld (T 8) (some 2)),
oo 44 (.eqs false [.i .i64, .i .i64] (T 42) (T 43)),
oo 45 (.mov (T 44)),
og 46 45 false (.ld (T 2) (some 3)),
og 47 45 false (.mov (T 1)),
og 48 45 false (.fa 3 (T 5)),
og 49 45 false (.ld (T 48) none),
og 50 45 false (.fa 4 (T 5)),
og 51 45 false (.ld (T 50) (some 3)),
og 52 45 false (.fa 7 (T 5)),
og 53 45 false (.ld (T 52) (some 2)),
og 54 45 false (.call n_a7f [(T 46), (T 47), (T 49), (T 51), (T 53)]),
oo 55 (.pick (T 45) (B true) (T 54)),
oo 4 (.mov (T 55))]
def b8V : VCode := (.seq (.reg a1d_r0) (.seq (.reg a1d_r1) (.seq (.reg a1d_r2) (.seq (.seq (.reg a1d_r3) (.cond (T 21) (.seq (.reg a1d_r4) .ret) .skip)) (.seq (.reg a1d_r5) (.seq (.seq (.reg a1d_r6) (.cond (T 32) (.seq (.reg a1d_r7) .ret) .skip)) (.seq (.reg a1d_r8) (.seq (.reg a1d_r9) .ret))))))))
theorem a1d_is : fnV prog n_a1d = some (56, b8V, [.tmp 4]) := by kernel_rfl
@[simp] def a2d_r0 :LO:=[oo 2 (.box (T 0)),
oo 4 (.mov (B false))]
@[simp] def a2d_r1 :LO:=[oo 8 (.fa 1 (T 2)),
oo 9 (.ld (T 8) none),
oo 10 (.mov (T 1)),
oo 11 (.ia 22 (T 9) (T 10)),
oo 12 (.ld (T 11) (some 22)),
oo 5 (.alloc [zi, zi, zi, zi, zb, zi, zs, zi, zi, zi, .nil 3, zi, zi, zb, zi, zs, zb, zi, zs, .nil 9, .nil 5, zb]),
on (.st (T 5) (T 12) 22)]
@[simp] def a2d_r2 :LO:=[oo 13 (.ld (T 2) (some 3)),
oo 14 (.fa 3 (T 5)),
oo 15 (.ld (T 14) none),
oo 16 (.fa 4 (T 5)),
oo 17 (.ld (T 16) (some 3)),
oo 18 (.call n_a6f [(T 13), (T 15), (T 17)]),
oo 6 (.mov (T 18))]
@[simp] def a2d_s0 : VT :=
 .op (og 23 21 false (.ld (T 22) none)) <|
.op (og 32 21 false (.call n_a4b [(T 24), (T 25), (T 27), (T 29), (T 31)])) <|
.op (og 33 21 false (.bin .add (T 32) (K 1))) <|
.op (og 34 21 false (.bin .neq (T 23) (T 33))) <|
oc 35 (.pick (T 21) (B true) (T 34)) <|
.done
@[simp] def a2d_s1 : VT :=
 .op (og 32 21 false (.call n_a4b [(T 24), (T 25), (T 27), (T 29), (T 31)])) <|
.op (og 23 21 false (.ld (T 22) none)) <|
.op (og 33 21 false (.bin .add (T 32) (K 1))) <|
.op (og 34 21 false (.bin .neq (T 23) (T 33))) <|
oc 35 (.pick (T 21) (B true) (T 34)) <|
.done
@[simp] def a2d_t3 : VT :=
 oc 19 (.mov (T 6)) <|
oc 20 (.un .not (T 19)) <|
oc 21 (.mov (T 20)) <|
.op (og 22 21 false (.fa 9 (T 5))) <|
.op (og 24 21 false (.ld (T 2) (some 3))) <|
.op (og 25 21 false (.mov (T 1))) <|
.op (og 26 21 false (.fa 0 (T 5))) <|
.op (og 27 21 false (.ld (T 26) none)) <|
.op (og 28 21 false (.fa 3 (T 5))) <|
.op (og 29 21 false (.ld (T 28) none)) <|
.op (og 30 21 false (.fa 4 (T 5))) <|
.op (og 31 21 false (.ld (T 30) (some 3))) <|
.alt (a2d_s0) (a2d_s1)
@[simp] def a2d_r4 :LO:=[oo 4 (.mov (B false))]
@[simp] def a2d_t5 : VT :=
 oc 36 (.fa 0 (T 2)) <|
oc 37 (.ld (T 36) none) <|
oc 38 (.fa 3 (T 5)) <|
oc 39 (.ld (T 38) none) <|
oc 40 (.ia 1 (T 37) (T 39)) <|
oc 41 (.ld (T 40) (some 1)) <|
oc 42 (.fa 10 (T 5)) <|
oc 43 (.ld (T 42) none) <|
oc 44 (.call n_a8f [(T 41), (T 43)]) <|
oc 7 (.mov (T 44)) <|
.done
@[simp] def a2d_t6 : VT :=
 oc 45 (.fa 10 (T 5)) <|
oc 46 (.ld (T 45) none) <|
oc 47 (.len (T 46)) <|
oc 48 (.bin .eql (T 47) (K 0)) <|
oc 49 (.mov (T 48)) <|
.op (og 50 49 false (.mov (T 7))) <|
.op (og 51 49 false (.mov (T 50))) <|
.op (og 52 51 true (.fa 10 (T 5))) <|
.op (og 53 51 true (.ld (T 52) none)) <|
.op (og 54 51 true (.ia 3 (T 53) (K 0))) <|
.op (og 55 51 true (.ld (T 54) (some 3))) <|
.op (og 56 51 true (.fa 4 (T 5))) <|
.op (og 57 51 true (.ld (T 56) (some 3))) <|
.op (og 58 51 true (.eqs false [.b, .i .i64, .s] (T 55) (T 57))) <|
.op (og 59 49 false (.pick (T 51) (T 58) (B false))) <|
oc 60 (.pick (T 49) (B true) (T 59)) <|
oc 4 (.mov (T 60)) <|
.done
def b9V : VCode := (.seq (.reg a2d_r0) (.seq (.reg a2d_r1) (.seq (.reg a2d_r2) (.seq (.seq (.any a2d_t3) (.cond (T 35) (.seq (.reg a2d_r4) .ret) .skip)) (.seq (.any a2d_t5) (.seq (.any a2d_t6) .ret))))))
theorem a2d_is : fnV prog n_a2d = some (61, b9V, [.tmp 4]) := by kernel_rfl
@[simp] def a3d_r0 :LO:=[oo 2 (.box (T 0)),
oo 4 (.mov (B false))]
@[simp] def a3d_r1 :LO:=[oo 14 (.fa 1 (T 2)),
oo 15 (.ld (T 14) none),
oo 16 (.mov (T 1)),
oo 17 (.ia 22 (T 15) (T 16)),
oo 18 (.ld (T 17) (some 22)),
oo 5 (.alloc [zi, zi, zi, zi, zb, zi, zs, zi, zi, zi, .nil 3, zi, zi, zb, zi, zs, zb, zi, zs, .nil 9, .nil 5, zb]),
on (.st (T 5) (T 18) 22)]
@[simp] def a3d_t2 : VT :=
 oc 19 (.fa 3 (T 5)) <|
oc 20 (.ld (T 19) none) <|
oc 21 (.bin .lss (T 20) (K 0)) <|
oc 22 (.mov (T 21)) <|
.op (og 23 22 false (.fa 3 (T 5))) <|
.op (og 24 22 false (.ld (T 23) none)) <|
.op (og 25 22 false (.fa 0 (T 2))) <|
.op (og 26 22 false (.ld (T 25) none)) <|
.op (og 27 22 false (.len (T 26))) <|
.op (og 28 22 false (.bin .geq (T 24) (T 27))) <|
oc 29 (.pick (T 22) (B true) (T 28)) <|
oc 30 (.mov (T 29)) <|
.op (og 31 30 false (.fa 0 (T 2))) <|
.op (og 32 30 false (.ld (T 31) none)) <|
.op (og 33 30 false (.fa 3 (T 5))) <|
.op (og 34 30 false (.ld (T 33) none)) <|
.op (og 35 30 false (.ia 1 (T 32) (T 34))) <|
.op (og 36 30 false (.ld (T 35) (some 1))) <|
.op (og 37 30 false (.fa 11 (T 5))) <|
.op (og 38 30 false (.ld (T 37) (some 9))) <|
.op (og 39 30 false (.call n_a9f [(T 36), (T 38)])) <|
.op (og 40 30 false (.un .not (T 39))) <|
oc 41 (.pick (T 30) (B true) (T 40)) <|
.done
@[simp] def a3d_r3 :LO:=[oo 4 (.mov (B false))]
@[simp] def a3d_r4 :LO:=[oo 6 (.mov (K 0))]
@[simp] def a3d_r5 :LO:=[oo 42 (.mov (T 6)),
oo 43 (.fa 20 (T 5)),
oo 44 (.ld (T 43) none),
oo 45 (.len (T 44)),
oo 46 (.bin .lss (T 42) (T 45))]
@[simp] def a3d_r6 :LO:=[oo 49 (.fa 20 (T 5)),
oo 50 (.ld (T 49) none),
oo 51 (.mov (T 6)),
oo 52 (.ia 5 (T 50) (T 51)),
oo 53 (.ld (T 52) (some 5)),
oo 7 (.alloc [zb, zi, zs, zi, zi]),
on (.st (T 7) (T 53) 5)]
@[simp] def a3d_r7 :LO:=[oo 54 (.ld (T 2) (some 3)),
oo 55 (.fa 3 (T 5)),
oo 56 (.ld (T 55) none),
oo 57 (.fa 0 (T 7)),
oo 58 (.ld (T 57) (some 3)),
oo 59 (.call n_a6f [(T 54), (T 56), (T 58)]),
oo 8 (.mov (T 59))]
@[simp] def a3d_r8 :LO:=[oo 60 (.mov (T 8)),
oo 61 (.un .not (T 60)),
oo 62 (.mov (T 61)),
og 63 62 false (.ld (T 2) (some 3)),
og 64 62 false (.mov (T 1)),
og 65 62 false (.fa 3 (T 5)),
og 66 62 false (.ld (T 65) none),
og 67 62 false (.fa 0 (T 7)),
og 68 62 false (.ld (T 67) (some 3)),
og 69 62 false (.fa 3 (T 7)),
og 70 62 false (.ld (T 69) (some 2)),
og 71 62 false (.call n_a7f [(T 63), (T 64), (T 66), (T 68), (T 70)]),
og 72 62 false (.un .not (T 71)),
oo 73 (.pick (T 62) (B true) (T 72))]
@[simp] def a3d_r9 :LO:=[oo 4 (.mov (B false))]
@[simp] def a3d_t10 : VT :=
 oc 74 (.mov (T 6)) <|
oc 75 (.bin .gtr (T 74) (K 0)) <|
oc 76 (.mov (T 75)) <|
.op (og 77 76 true (.fa 20 (T 5))) <|
.op (og 78 76 true (.ld (T 77) none)) <|
.op (og 79 76 true (.mov (T 6))) <|
.op (og 80 76 true (.bin .sub (T 79) (K 1))) <|
.op (og 81 76 true (.ia 5 (T 78) (T 80))) <|
.op (og 82 76 true (.fa 0 (T 81))) <|
.op (og 83 76 true (.ld (T 82) (some 3))) <|
.op (og 84 76 true (.fa 0 (T 7))) <|
.op (og 85 76 true (.ld (T 84) (some 3))) <|
.op (og 86 76 true (.call n_a3f [(T 83), (T 85)])) <|
.op (og 87 76 true (.bin .geq (T 86) (K 0))) <|
oc 88 (.pick (T 76) (T 87) (B false)) <|
.done
@[simp] def a3d_r11 :LO:=[oo 4 (.mov (B false))]
@[simp] def a3d_r12 :LO:=[oo 47 (.mov (T 6)),
oo 48 (.bin .add (T 47) (K 1)),
oo 6 (.mov (T 48))]
def a3d_l13 : VCode :=
 (.seq (.seq (.reg a3d_r5) (.cond (T 46) .skip (.exit 0))) (.seq (.block 1 (.seq (.reg a3d_r6) (.seq (.reg a3d_r7) (.seq (.seq (.reg a3d_r8) (.cond (T 73) (.seq (.reg a3d_r9) .ret) .skip)) (.seq (.any a3d_t10) (.cond (T 88) (.seq (.reg a3d_r11) .ret) .skip)))))) (.reg a3d_r12)))
@[simp] def a3d_r14 :LO:=[oo 9 (.mov (K 0))]
@[simp] def a3d_r15 :LO:=[oo 89 (.mov (T 9)),
oo 90 (.mov (T 1)),
oo 91 (.bin .lss (T 89) (T 90))]
@[simp] def a3d_r16 :LO:=[oo 94 (.fa 1 (T 2)),
oo 95 (.ld (T 94) none),
oo 96 (.mov (T 9)),
oo 97 (.ia 22 (T 95) (T 96)),
oo 98 (.ld (T 97) (some 22)),
oo 10 (.alloc [zi, zi, zi, zi, zb, zi, zs, zi, zi, zi, .nil 3, zi, zi, zb, zi, zs, zb, zi, zs, .nil 9, .nil 5, zb]),
on (.st (T 10) (T 98) 22)]
@[simp] def a3d_r17 :LO:=[oo 99 (.fa 1 (T 10)),
oo 100 (.ld (T 99) none),
oo 101 (.bin .neq (T 100) (K 3)),
oo 102 (.mov (T 101)),
og 103 102 false (.fa 0 (T 10)),
og 104 102 false (.ld (T 103) none),
og 105 102 false (.fa 0 (T 5)),
og 106 102 false (.ld (T 105) none),
og 107 102 false (.bin .neq (T 104) (T 106)),
oo 108 (.pick (T 102) (B true) (T 107)),
oo 109 (.mov (T 108)),
og 110 109 false (.fa 3 (T 10)),
og 111 109 false (.ld (T 110) none),
og 112 109 false (.fa 3 (T 5)),
og 113 109 false (.ld (T 112) none),
og 114 109 false (.bin .neq (T 111) (T 113)),
oo 115 (.pick (T 109) (B true) (T 114))]
@[simp] def a3d_s0 : VT :=
 oc 126 (.call n_a4b [(T 118), (T 119), (T 121), (T 123), (T 125)]) <|
oc 127 (.build [zi, zi] [(0, 1, (T 117)), (1, 1, (T 126))]) <|
oc 11 (.alloc [zi, zi]) <|
.op (on (.st (T 11) (T 127) 2)) <|
.done
@[simp] def a3d_s1 : VT :=
 oc 11 (.alloc [zi, zi]) <|
oc 126 (.call n_a4b [(T 118), (T 119), (T 121), (T 123), (T 125)]) <|
oc 127 (.build [zi, zi] [(0, 1, (T 117)), (1, 1, (T 126))]) <|
.op (on (.st (T 11) (T 127) 2)) <|
.done
@[simp] def a3d_s2 : VT :=
 oc 117 (.ld (T 116) none) <|
.alt (a3d_s0) (a3d_s1)
@[simp] def a3d_s3 : VT :=
 oc 126 (.call n_a4b [(T 118), (T 119), (T 121), (T 123), (T 125)]) <|
oc 117 (.ld (T 116) none) <|
oc 127 (.build [zi, zi] [(0, 1, (T 117)), (1, 1, (T 126))]) <|
oc 11 (.alloc [zi, zi]) <|
.op (on (.st (T 11) (T 127) 2)) <|
.done
@[simp] def a3d_s4 : VT :=
 oc 117 (.ld (T 116) none) <|
oc 126 (.call n_a4b [(T 118), (T 119), (T 121), (T 123), (T 125)]) <|
oc 127 (.build [zi, zi] [(0, 1, (T 117)), (1, 1, (T 126))]) <|
.op (on (.st (T 11) (T 127) 2)) <|
.done
@[simp] def a3d_s5 : VT :=
 oc 126 (.call n_a4b [(T 118), (T 119), (T 121), (T 123), (T 125)]) <|
oc 117 (.ld (T 116) none) <|
oc 127 (.build [zi, zi] [(0, 1, (T 117)), (1, 1, (T 126))]) <|
.op (on (.st (T 11) (T 127) 2)) <|
.done
@[simp] def a3d_s6 : VT :=
 oc 11 (.alloc [zi, zi]) <|
.alt (a3d_s4) (a3d_s5)
@[simp] def a3d_t18 : VT :=
 oc 116 (.fa 0 (T 5)) <|
oc 118 (.ld (T 2) (some 3)) <|
oc 119 (.mov (T 1)) <|
oc 120 (.fa 0 (T 5)) <|
oc 121 (.ld (T 120) none) <|
oc 122 (.fa 3 (T 5)) <|
oc 123 (.ld (T 122) none) <|
oc 124 (.fa 4 (T 10)) <|
oc 125 (.ld (T 124) (some 3)) <|
.alt (a3d_s2) (  .alt (a3d_s3) (a3d_s6))
@[simp] def a3d_r19 :LO:=[oo 12 (.mov (B false))]
@[simp] def a3d_r20 :LO:=[oo 13 (.mov (K 0))]
@[simp] def a3d_r21 :LO:=[oo 128 (.mov (T 13)),
oo 129 (.fa 20 (T 5)),
oo 130 (.ld (T 129) none),
oo 131 (.len (T 130)),
oo 132 (.bin .lss (T 128) (T 131))]
@[simp] def a3d_t22 : VT :=
 oc 135 (.mov (T 12)) <|
oc 136 (.mov (T 135)) <|
.op (og 137 136 false (.fa 20 (T 5))) <|
.op (og 138 136 false (.ld (T 137) none)) <|
.op (og 139 136 false (.mov (T 13))) <|
.op (og 140 136 false (.ia 5 (T 138) (T 139))) <|
.op (og 141 136 false (.fa 0 (T 140))) <|
.op (og 142 136 false (.ld (T 141) (some 3))) <|
.op (og 143 136 false (.fa 4 (T 10))) <|
.op (og 144 136 false (.ld (T 143) (some 3))) <|
.op (og 145 136 false (.eqs false [.b, .i .i64, .s] (T 142) (T 144))) <|
.op (og 146 136 false (.mov (T 145))) <|
.op (og 147 146 true (.fa 20 (T 5))) <|
.op (og 148 146 true (.ld (T 147) none)) <|
.op (og 149 146 true (.mov (T 13))) <|
.op (og 150 146 true (.ia 5 (T 148) (T 149))) <|
.op (og 151 146 true (.fa 3 (T 150))) <|
.op (og 152 146 true (.ld (T 151) (some 2))) <|
.op (og 153 146 true (.ld (T 11) (some 2))) <|
.op (og 154 146 true (.eqs false [.i .i64, .i .i64] (T 152) (T 153))) <|
.op (og 155 136 false (.pick (T 146) (T 154) (B false))) <|
oc 156 (.pick (T 136) (B true) (T 155)) <|
oc 12 (.mov (T 156)) <|
.done
@[simp] def a3d_r23 :LO:=[oo 133 (.mov (T 13)),
oo 134 (.bin .add (T 133) (K 1)),
oo 13 (.mov (T 134))]
def a3d_l24 : VCode :=
 (.seq (.seq (.reg a3d_r21) (.cond (T 132) .skip (.exit 4))) (.seq (.block 5 (.any a3d_t22)) (.reg a3d_r23)))
@[simp] def a3d_r25 :LO:=[oo 157 (.mov (T 12)),
oo 158 (.un .not (T 157))]
@[simp] def a3d_r26 :LO:=[oo 4 (.mov (B false))]
@[simp] def a3d_r27 :LO:=[oo 92 (.mov (T 9)),
oo 93 (.bin .add (T 92) (K 1)),
oo 9 (.mov (T 93))]
def a3d_l28 : VCode :=
 (.seq (.seq (.reg a3d_r15) (.cond (T 91) .skip (.exit 2))) (.seq (.block 3 (.seq (.reg a3d_r16) (.seq (.seq (.reg a3d_r17) (.cond (T 115) (.exit 3) .skip)) (.seq (.any a3d_t18) (.seq (.reg a3d_r19) (.seq (.seq (.reg a3d_r20) (.block 4 (.loop a3d_l24))) (.seq (.reg a3d_r25) (.cond (T 158) (.seq (.reg a3d_r26) .ret) .skip)))))))) (.reg a3d_r27)))
@[simp] def a3d_r29 :LO:=[oo 4 (.mov (B true))]
def b0W : VCode := (.seq (.reg a3d_r0) (.seq (.reg a3d_r1) (.seq (.seq (.any a3d_t2) (.cond (T 41) (.seq (.reg a3d_r3) .ret) .skip)) (.seq (.seq (.reg a3d_r4) (.block 0 (.loop a3d_l13))) (.seq (.seq (.reg a3d_r14) (.block 2 (.loop a3d_l28))) (.seq (.reg a3d_r29) .ret))))))
theorem a3d_is : fnV prog n_a3d = some (159, b0W, [.tmp 4]) := by kernel_rfl
@[simp] def a4d_r0 :LO:=[oo 4 (.mov (K 0))]
@[simp] def a4d_r1 :LO:=[oo 5 (.mov (T 0)),
oo 6 (.peq false (T 5) (.const (.pointer none)))]
@[simp] def a4d_r2 :LO:=[oo 4 (.mov (K 0))]
@[simp] def a4d_r3 :LO:=[oo 7 (.mov (T 0)),
oo 8 (.chk (T 7)),
oo 9 (.fa 0 (T 8)),
oo 10 (.ld (T 9) none),
oo 11 (.mov (T 1)),
oo 12 (.lkp (false, [.i .i64], false) [zi] (T 10) (T 11) false),
oo 4 (.mov (T 12))]
@[simp] def a5d_r0 :LO:=[oo 2 (.box (T 0)),
oo 3 (.mov (B false))]
@[simp] def a5d_r1 :LO:=[oo 4 (.ld (T 1) none),
oo 5 (.ld (T 2) (some 22)),
oo 6 (.call n_a6d [(T 4), (T 5)]),
oo 7 (.mov (T 6)),
og 8 7 true (.ld (T 1) none),
og 9 7 true (.ld (T 2) (some 22)),
og 10 7 true (.call n_a8d [(T 8), (T 9)]),
oo 11 (.pick (T 7) (T 10) (B false)),
oo 12 (.mov (T 11)),
og 13 12 true (.ld (T 1) none),
og 14 12 true (.ld (T 2) (some 22)),
og 15 12 true (.call n_a9d [(T 13), (T 14)]),
oo 16 (.pick (T 12) (T 15) (B false)),
oo 17 (.mov (T 16)),
og 18 17 true (.ld (T 1) none),
og 19 17 true (.ld (T 2) (some 22)),
og 20 17 true (.call n_a0e [(T 18), (T 19)]),
oo 21 (.pick (T 17) (T 20) (B false)),
oo 3 (.mov (T 21))]
def a5d : VCode := (.seq (.reg a5d_r0) (.seq (.reg a5d_r1) .ret))
theorem a5d_is : fnV prog n_a5d = some (22, a5d, [.tmp 3]) := by kernel_rfl
@[simp] def a6d_r0 :LO:=[oo 3 (.box (T 1)),
oo 4 (.mov (B false))]
@[simp] def a6d_r1 :LO:=[oo 6 (.fa 0 (T 3)),
oo 7 (.ld (T 6) none),
oo 8 (.bin .lss (T 7) (K 1)),
oo 9 (.mov (T 8)),
og 10 9 false (.fa 1 (T 3)),
og 11 9 false (.ld (T 10) none),
og 12 9 false (.bin .lss (T 11) (K 1)),
oo 13 (.pick (T 9) (B true) (T 12)),
oo 14 (.mov (T 13)),
og 15 14 false (.fa 1 (T 3)),
og 16 14 false (.ld (T 15) none),
og 17 14 false (.bin .gtr (T 16) (K 6)),
oo 18 (.pick (T 14) (B true) (T 17))]
@[simp] def a6d_r2 :LO:=[oo 4 (.mov (B false))]
@[simp] def a6d_t3 : VT :=
 oc 19 (.mov (T 0)) <|
oc 20 (.chk (T 19)) <|
oc 21 (.fa 3 (T 20)) <|
oc 22 (.ld (T 21) none) <|
oc 23 (.fa 0 (T 3)) <|
oc 24 (.ld (T 23) none) <|
oc 25 (.lkp (false, [.i .i64], false) [zi] (T 22) (T 24) false) <|
oc 5 (.mov (T 25)) <|
.done
@[simp] def a6d_r4 :LO:=[oo 26 (.fa 1 (T 3)),
oo 27 (.ld (T 26) none),
oo 28 (.bin .eql (T 27) (K 1))]
@[simp] def a6d_r5 :LO:=[oo 29 (.mov (T 5)),
oo 30 (.bin .neq (T 29) (K 0)),
oo 31 (.mov (T 30)),
og 32 31 false (.fa 2 (T 3)),
og 33 31 false (.ld (T 32) none),
og 34 31 false (.bin .lss (T 33) (K 1)),
oo 35 (.pick (T 31) (B true) (T 34)),
oo 36 (.mov (T 35)),
og 37 36 false (.fa 2 (T 3)),
og 38 36 false (.ld (T 37) none),
og 39 36 false (.bin .gtr (T 38) (K 5)),
oo 40 (.pick (T 36) (B true) (T 39))]
@[simp] def a6d_r6 :LO:=[oo 4 (.mov (B false))]
@[simp] def a6d_t7 : VT :=
 oc 41 (.mov (T 0)) <|
oc 42 (.chk (T 41)) <|
oc 43 (.fa 3 (T 42)) <|
oc 44 (.ld (T 43) none) <|
oc 45 (.fa 0 (T 3)) <|
oc 46 (.ld (T 45) none) <|
oc 47 (.fa 1 (T 3)) <|
oc 48 (.ld (T 47) none) <|
.op (on (.mset (false, [.i .i64], false) (T 44) (T 46) (T 48))) <|
.done
@[simp] def a6d_r8 :LO:=[oo 4 (.mov (B true))]
@[simp] def a6d_r9 :LO:=[oo 49 (.mov (T 5)),
oo 50 (.bin .neq (T 49) (K 1))]
@[simp] def a6d_r10 :LO:=[oo 4 (.mov (B false))]
@[simp] def a6d_r11 :LO:=[oo 51 (.fa 1 (T 3)),
oo 52 (.ld (T 51) none),
oo 53 (.bin .eql (T 52) (K 5)),
oo 54 (.mov (T 53)),
og 55 54 false (.fa 1 (T 3)),
og 56 54 false (.ld (T 55) none),
og 57 54 false (.bin .eql (T 56) (K 6)),
oo 58 (.pick (T 54) (B true) (T 57))]
@[simp] def a6d_t12 : VT :=
 oc 59 (.mov (T 0)) <|
oc 60 (.chk (T 59)) <|
oc 61 (.fa 3 (T 60)) <|
oc 62 (.ld (T 61) none) <|
oc 63 (.fa 0 (T 3)) <|
oc 64 (.ld (T 63) none) <|
oc 65 (.fa 1 (T 3)) <|
oc 66 (.ld (T 65) none) <|
.op (on (.mset (false, [.i .i64], false) (T 62) (T 64) (T 66))) <|
.done
@[simp] def a6d_r13 :LO:=[oo 4 (.mov (B true))]
def a7d_frame : VCode := (.seq (.reg a6d_r0) (.seq (.seq (.reg a6d_r1) (.cond (T 18) (.seq (.reg a6d_r2) .ret) .skip)) (.seq (.any a6d_t3) (.seq (.seq (.reg a6d_r4) (.cond (T 28) (.seq (.seq (.reg a6d_r5) (.cond (T 40) (.seq (.reg a6d_r6) .ret) .skip)) (.seq (.any a6d_t7) (.seq (.reg a6d_r8) .ret))) .skip)) (.seq (.seq (.reg a6d_r9) (.cond (T 50) (.seq (.reg a6d_r10) .ret) .skip)) (.seq (.seq (.reg a6d_r11) (.cond (T 58) (.any a6d_t12) .skip)) (.seq (.reg a6d_r13) .ret)))))))
theorem a6d_is : fnV prog n_a6d = some (67, a7d_frame, [.tmp 4]) := by kernel_rfl
@[simp] def a8d_r0 :LO:=[oo 3 (.box (T 1)),
oo 4 (.mov (B false))]
@[simp] def a8d_r1 :LO:=[oo 7 (.fa 1 (T 3)),
oo 8 (.ld (T 7) none),
oo 9 (.bin .neq (T 8) (K 2))]
@[simp] def a8d_r2 :LO:=[oo 4 (.mov (B true))]
@[simp] def a8d_r3 :LO:=[oo 10 (.fa 3 (T 3)),
oo 11 (.ld (T 10) none),
oo 12 (.fa 4 (T 3)),
oo 13 (.ld (T 12) (some 3)),
oo 14 (.build [zi, zb, zi, zs] [(0, 1, (T 11)), (1, 3, (T 13))]),
oo 5 (.alloc [zi, zb, zi, zs]),
on (.st (T 5) (T 14) 4)]
@[simp] def a8d_t4 : VT :=
 oc 15 (.mov (T 0)) <|
oc 16 (.chk (T 15)) <|
oc 17 (.fa 4 (T 16)) <|
oc 18 (.ld (T 17) none) <|
oc 19 (.fa 0 (T 3)) <|
oc 20 (.ld (T 19) none) <|
oc 21 (.ld (T 5) (some 4)) <|
oc 22 (.build [zi, zi, zb, zi, zs] [(0, 1, (T 20)), (1, 4, (T 21))]) <|
oc 23 (.lkp (true, [.i .i64, .i .i64, .b, .i .i64, .s], false) [zi] (T 18) (T 22) false) <|
oc 6 (.mov (T 23)) <|
.done
@[simp] def a8d_r5 :LO:=[oo 24 (.mov (T 6)),
oo 25 (.bin .gtr (T 24) (K 0))]
@[simp] def a8d_r6 :LO:=[oo 26 (.mov (T 0)),
oo 27 (.fa 3 (T 3)),
oo 28 (.ld (T 27) none),
oo 29 (.fa 4 (T 3)),
oo 30 (.ld (T 29) (some 3)),
oo 31 (.call n_a0g [(T 26), (T 28), (T 30)]),
oo 32 (.mov (T 31)),
og 33 32 true (.fa 7 (T 3)),
og 34 32 true (.ld (T 33) (some 2)),
og 35 32 true (.fa 0 (T 3)),
og 36 32 true (.ld (T 35) none),
og 37 32 true (.mov (T 6)),
og 38 32 true (.build [zi, zi] [(0, 1, (T 36)), (1, 1, (T 37))]),
og 39 32 true (.eqs false [.i .i64, .i .i64] (T 34) (T 38)),
oo 40 (.pick (T 32) (T 39) (B false)),
oo 4 (.mov (T 40))]
@[simp] def a8d_r7 :LO:=[oo 41 (.mov (T 0)),
oo 42 (.fa 3 (T 3)),
oo 43 (.ld (T 42) none),
oo 44 (.fa 4 (T 3)),
oo 45 (.ld (T 44) (some 3)),
oo 46 (.call n_a0g [(T 41), (T 43), (T 45)]),
oo 47 (.mov (T 46)),
og 48 47 true (.fa 7 (T 3)),
og 49 47 true (.ld (T 48) (some 2)),
og 50 47 true (.build [zi, zi] []),
og 51 47 true (.eqs false [.i .i64, .i .i64] (T 49) (T 50)),
og 52 47 true (.mov (T 51)),
og 53 52 false (.mov (T 0)),
og 54 52 false (.ld (T 5) (some 4)),
og 55 52 false (.fa 7 (T 3)),
og 56 52 false (.ld (T 55) (some 2)),
og 57 52 false (.call n_a1g [(T 53), (T 54), (T 56)]),
og 58 47 true (.pick (T 52) (B true) (T 57)),
oo 59 (.pick (T 47) (T 58) (B false)),
oo 4 (.mov (T 59))]
def a7d_read : VCode := (.seq (.reg a8d_r0) (.seq (.seq (.reg a8d_r1) (.cond (T 9) (.seq (.reg a8d_r2) .ret) .skip)) (.seq (.reg a8d_r3) (.seq (.seq (.any a8d_t4) (.seq (.reg a8d_r5) (.cond (T 25) (.seq (.reg a8d_r6) .ret) .skip))) (.seq (.reg a8d_r7) .ret)))))
theorem a8d_is : fnV prog n_a8d = some (60, a7d_read, [.tmp 4]) := by kernel_rfl
@[simp] def a9d_r0 :LO:=[oo 3 (.box (T 1)),
oo 4 (.mov (B false))]
@[simp] def a9d_r1 :LO:=[oo 11 (.fa 1 (T 3)),
oo 12 (.ld (T 11) none),
oo 13 (.bin .neq (T 12) (K 4))]
@[simp] def a9d_r2 :LO:=[oo 4 (.mov (B true))]
@[simp] def a9d_t3 : VT :=
 oc 14 (.fa 3 (T 3)) <|
oc 15 (.ld (T 14) none) <|
oc 16 (.bin .lss (T 15) (K 0)) <|
oc 17 (.mov (T 16)) <|
.op (og 18 17 false (.fa 3 (T 3))) <|
.op (og 19 17 false (.ld (T 18) none)) <|
.op (og 20 17 false (.mov (T 0))) <|
.op (og 21 17 false (.chk (T 20))) <|
.op (og 22 17 false (.fa 0 (T 21))) <|
.op (og 23 17 false (.fa 0 (T 22))) <|
.op (og 24 17 false (.ld (T 23) none)) <|
.op (og 25 17 false (.len (T 24))) <|
.op (og 26 17 false (.bin .geq (T 19) (T 25))) <|
oc 27 (.pick (T 17) (B true) (T 26)) <|
oc 28 (.mov (T 27)) <|
.op (og 29 28 false (.mov (T 0))) <|
.op (og 30 28 false (.chk (T 29))) <|
.op (og 31 28 false (.fa 0 (T 30))) <|
.op (og 32 28 false (.fa 0 (T 31))) <|
.op (og 33 28 false (.ld (T 32) none)) <|
.op (og 34 28 false (.fa 3 (T 3))) <|
.op (og 35 28 false (.ld (T 34) none)) <|
.op (og 36 28 false (.ia 1 (T 33) (T 35))) <|
.op (og 37 28 false (.ld (T 36) (some 1))) <|
.op (og 38 28 false (.fa 11 (T 3))) <|
.op (og 39 28 false (.ld (T 38) (some 9))) <|
.op (og 40 28 false (.call n_a2g [(T 37), (T 39)])) <|
.op (og 41 28 false (.bin .neq (T 40) (K 0))) <|
oc 42 (.pick (T 28) (B true) (T 41)) <|
.done
@[simp] def a9d_r4 :LO:=[oo 4 (.mov (B false))]
@[simp] def a9d_r5 :LO:=[oo 43 (.mkmap (true, [.i .i64, .b, .i .i64, .s], true)),
oo 5 (.mov (T 43))]
@[simp] def a9d_r6 :LO:=[oo 44 (.fa 20 (T 3)),
oo 45 (.ld (T 44) none),
oo 46 (.len (T 45)),
oo 47 (.mov (K 0))]
@[simp] def a9d_r7 :LO:=[oo 48 (.bin .lss (T 47) (T 46))]
@[simp] def a9d_r8 :LO:=[oo 49 (.mov (T 47)),
oo 50 (.ia 5 (T 45) (T 47)),
oo 51 (.ld (T 50) (some 5)),
oo 7 (.alloc [zb, zi, zs, zi, zi]),
oo 6 (.mov (T 49)),
on (.st (T 7) (T 51) 5)]
@[simp] def a9d_r9 :LO:=[oo 52 (.fa 3 (T 3)),
oo 53 (.ld (T 52) none),
oo 54 (.fa 0 (T 7)),
oo 55 (.ld (T 54) (some 3)),
oo 56 (.build [zi, zb, zi, zs] [(0, 1, (T 53)), (1, 3, (T 55))]),
oo 8 (.alloc [zi, zb, zi, zs]),
on (.st (T 8) (T 56) 4)]
@[simp] def a9d_t10 : VT :=
 oc 57 (.mov (T 0)) <|
oc 58 (.fa 3 (T 3)) <|
oc 59 (.ld (T 58) none) <|
oc 60 (.fa 0 (T 7)) <|
oc 61 (.ld (T 60) (some 3)) <|
oc 62 (.call n_a0g [(T 57), (T 59), (T 61)]) <|
oc 63 (.un .not (T 62)) <|
oc 64 (.mov (T 63)) <|
.op (og 65 64 false (.mov (T 0))) <|
.op (og 66 64 false (.ld (T 8) (some 4))) <|
.op (og 67 64 false (.fa 3 (T 7))) <|
.op (og 68 64 false (.ld (T 67) (some 2))) <|
.op (og 69 64 false (.call n_a1g [(T 65), (T 66), (T 68)])) <|
.op (og 70 64 false (.un .not (T 69))) <|
oc 71 (.pick (T 64) (B true) (T 70)) <|
oc 72 (.mov (T 71)) <|
.op (og 73 72 false (.mov (T 6))) <|
.op (og 74 72 false (.bin .gtr (T 73) (K 0))) <|
.op (og 75 72 false (.mov (T 74))) <|
.op (og 76 75 true (.fa 20 (T 3))) <|
.op (og 77 75 true (.ld (T 76) none)) <|
.op (og 78 75 true (.mov (T 6))) <|
.op (og 79 75 true (.bin .sub (T 78) (K 1))) <|
.op (og 80 75 true (.ia 5 (T 77) (T 79))) <|
.op (og 81 75 true (.fa 0 (T 80))) <|
.op (og 82 75 true (.ld (T 81) (some 3))) <|
.op (og 83 75 true (.fa 0 (T 7))) <|
.op (og 84 75 true (.ld (T 83) (some 3))) <|
.op (og 85 75 true (.call n_a6c [(T 82), (T 84)])) <|
.op (og 86 75 true (.bin .geq (T 85) (K 0))) <|
.op (og 87 72 false (.pick (T 75) (T 86) (B false))) <|
oc 88 (.pick (T 72) (B true) (T 87)) <|
.done
@[simp] def a9d_r11 :LO:=[oo 4 (.mov (B false))]
@[simp] def a9d_r12 :LO:=[oo 89 (.mov (T 5)),
oo 90 (.ld (T 8) (some 4)),
oo 91 (.fa 3 (T 7)),
oo 92 (.ld (T 91) (some 2)),
on (.mset (true, [.i .i64, .b, .i .i64, .s], true) (T 89) (T 90) (T 92))]
@[simp] def a9d_r13 :LO:=[oo 93 (.bin .add (T 47) (K 1)),
oo 47 (.mov (T 93))]
def a9d_l14 : VCode :=
 (.seq (.reg a9d_r7) (.seq (.cond (T 48) .skip (.exit 0)) (.seq (.block 1 (.seq (.reg a9d_r8) (.seq (.reg a9d_r9) (.seq (.seq (.any a9d_t10) (.cond (T 88) (.seq (.reg a9d_r11) .ret) .skip)) (.reg a9d_r12))))) (.reg a9d_r13))))
@[simp] def a9d_t15 : VT :=
 oc 94 (.mov (T 0)) <|
oc 95 (.chk (T 94)) <|
oc 96 (.fa 5 (T 95)) <|
oc 97 (.ld (T 96) none) <|
oc 98 (.fa 0 (T 3)) <|
oc 99 (.ld (T 98) none) <|
oc 100 (.lkp (false, [.i .i64], false) [.nil 4] (T 97) (T 99) false) <|
oc 101 (.len (T 100)) <|
oc 102 (.mov (K 0)) <|
.done
@[simp] def a9d_r16 :LO:=[oo 103 (.bin .lss (T 102) (T 101))]
@[simp] def a9d_r17 :LO:=[oo 104 (.ia 4 (T 100) (T 102)),
oo 105 (.ld (T 104) (some 4)),
oo 10 (.alloc [zi, zb, zi, zs]),
on (.st (T 10) (T 105) 4)]
@[simp] def a9d_t18 : VT :=
 oc 106 (.fa 0 (T 10)) <|
oc 107 (.ld (T 106) none) <|
oc 108 (.fa 3 (T 3)) <|
oc 109 (.ld (T 108) none) <|
oc 110 (.bin .eql (T 107) (T 109)) <|
oc 111 (.mov (T 110)) <|
.op (og 112 111 true (.mov (T 5))) <|
.op (og 113 111 true (.ld (T 10) (some 4))) <|
.op (og 114 111 true (.lkp (true, [.i .i64, .b, .i .i64, .s], true) [zi, zi] (T 112) (T 113) false)) <|
.op (og 115 111 true (.fa 0 (T 3))) <|
.op (og 116 111 true (.ld (T 115) none)) <|
.op (og 117 111 true (.mov (T 0))) <|
.op (og 118 111 true (.chk (T 117))) <|
.op (og 119 111 true (.fa 4 (T 118))) <|
.op (og 120 111 true (.ld (T 119) none)) <|
.op (og 121 111 true (.fa 0 (T 3))) <|
.op (og 122 111 true (.ld (T 121) none)) <|
.op (og 123 111 true (.ld (T 10) (some 4))) <|
.op (og 124 111 true (.build [zi, zi, zb, zi, zs] [(0, 1, (T 122)), (1, 4, (T 123))])) <|
.op (og 125 111 true (.lkp (true, [.i .i64, .i .i64, .b, .i .i64, .s], false) [zi] (T 120) (T 124) false)) <|
.op (og 126 111 true (.build [zi, zi] [(0, 1, (T 116)), (1, 1, (T 125))])) <|
.op (og 127 111 true (.eqs true [.i .i64, .i .i64] (T 114) (T 126))) <|
oc 128 (.pick (T 111) (T 127) (B false)) <|
.done
@[simp] def a9d_r19 :LO:=[oo 4 (.mov (B false))]
@[simp] def a9d_r20 :LO:=[oo 129 (.bin .add (T 102) (K 1)),
oo 102 (.mov (T 129))]
def a9d_l21 : VCode :=
 (.seq (.reg a9d_r16) (.seq (.cond (T 103) .skip (.exit 2)) (.seq (.block 3 (.seq (.reg a9d_r17) (.seq (.any a9d_t18) (.cond (T 128) (.seq (.reg a9d_r19) .ret) .skip)))) (.reg a9d_r20))))
@[simp] def a9d_r22 :LO:=[oo 4 (.mov (B true))]
def a7d_saw : VCode := (.seq (.reg a9d_r0) (.seq (.seq (.reg a9d_r1) (.cond (T 13) (.seq (.reg a9d_r2) .ret) .skip)) (.seq (.seq (.any a9d_t3) (.cond (T 42) (.seq (.reg a9d_r4) .ret) .skip)) (.seq (.reg a9d_r5) (.seq (.seq (.reg a9d_r6) (.block 0 (.loop a9d_l14))) (.seq (.seq (.any a9d_t15) (.block 2 (.loop a9d_l21))) (.seq (.reg a9d_r22) .ret)))))))
theorem a9d_is : fnV prog n_a9d = some (130, a7d_saw, [.tmp 4]) := by kernel_rfl
@[simp] def a0e_r0 :LO:=[oo 3 (.box (T 1)),
oo 4 (.mov (B false))]
@[simp] def a0e_r1 :LO:=[oo 7 (.fa 1 (T 3)),
oo 8 (.ld (T 7) none),
oo 9 (.bin .neq (T 8) (K 3))]
@[simp] def a0e_r2 :LO:=[oo 4 (.mov (B true))]
@[simp] def a0e_r3 :LO:=[oo 10 (.fa 3 (T 3)),
oo 11 (.ld (T 10) none),
oo 12 (.fa 4 (T 3)),
oo 13 (.ld (T 12) (some 3)),
oo 14 (.build [zi, zb, zi, zs] [(0, 1, (T 11)), (1, 3, (T 13))]),
oo 5 (.alloc [zi, zb, zi, zs]),
on (.st (T 5) (T 14) 4)]
@[simp] def a0e_r4 :LO:=[oo 15 (.fa 0 (T 3)),
oo 16 (.ld (T 15) none),
oo 17 (.ld (T 5) (some 4)),
oo 18 (.build [zi, zi, zb, zi, zs] [(0, 1, (T 16)), (1, 4, (T 17))]),
oo 6 (.alloc [zi, zi, zb, zi, zs]),
on (.st (T 6) (T 18) 5)]
@[simp] def a0e_t5 : VT :=
 oc 19 (.mov (T 0)) <|
oc 20 (.fa 3 (T 3)) <|
oc 21 (.ld (T 20) none) <|
oc 22 (.fa 4 (T 3)) <|
oc 23 (.ld (T 22) (some 3)) <|
oc 24 (.call n_a0g [(T 19), (T 21), (T 23)]) <|
oc 25 (.un .not (T 24)) <|
oc 26 (.mov (T 25)) <|
.op (og 27 26 false (.fa 9 (T 3))) <|
.op (og 28 26 false (.ld (T 27) none)) <|
.op (og 29 26 false (.mov (T 0))) <|
.op (og 30 26 false (.chk (T 29))) <|
.op (og 31 26 false (.fa 4 (T 30))) <|
.op (og 32 26 false (.ld (T 31) none)) <|
.op (og 33 26 false (.ld (T 6) (some 5))) <|
.op (og 34 26 false (.lkp (true, [.i .i64, .i .i64, .b, .i .i64, .s], false) [zi] (T 32) (T 33) false)) <|
.op (og 35 26 false (.bin .add (T 34) (K 1))) <|
.op (og 36 26 false (.bin .neq (T 28) (T 35))) <|
oc 37 (.pick (T 26) (B true) (T 36)) <|
.done
@[simp] def a0e_r6 :LO:=[oo 4 (.mov (B false))]
@[simp] def a0e_r7 :LO:=[oo 38 (.fa 9 (T 3)),
oo 39 (.ld (T 38) none),
oo 40 (.bin .eql (T 39) (K 1))]
@[simp] def a0e_s0 : VT :=
 oc 46 (.ld (T 45) none) <|
oc 55 (.lit 4 1 [(0, (T 54))]) <|
oc 56 (.app 4 40 (T 53) (T 55)) <|
.op (on (.mset (false, [.i .i64], false) (T 44) (T 46) (T 56))) <|
.done
@[simp] def a0e_s1 : VT :=
 oc 46 (.ld (T 45) none) <|
oc 56 (.app 4 40 (T 53) (T 55)) <|
.op (on (.mset (false, [.i .i64], false) (T 44) (T 46) (T 56))) <|
.done
@[simp] def a0e_s2 : VT :=
 oc 56 (.app 4 40 (T 53) (T 55)) <|
oc 46 (.ld (T 45) none) <|
.op (on (.mset (false, [.i .i64], false) (T 44) (T 46) (T 56))) <|
.done
@[simp] def a0e_s3 : VT :=
 oc 55 (.lit 4 1 [(0, (T 54))]) <|
.alt (a0e_s1) (a0e_s2)
@[simp] def a0e_s4 : VT :=
 oc 44 (.ld (T 43) none) <|
.alt (a0e_s0) (a0e_s3)
@[simp] def a0e_s5 : VT :=
 oc 44 (.ld (T 43) none) <|
oc 55 (.lit 4 1 [(0, (T 54))]) <|
oc 56 (.app 4 40 (T 53) (T 55)) <|
.op (on (.mset (false, [.i .i64], false) (T 44) (T 46) (T 56))) <|
.done
@[simp] def a0e_s6 : VT :=
 oc 44 (.ld (T 43) none) <|
oc 56 (.app 4 40 (T 53) (T 55)) <|
.op (on (.mset (false, [.i .i64], false) (T 44) (T 46) (T 56))) <|
.done
@[simp] def a0e_s7 : VT :=
 oc 56 (.app 4 40 (T 53) (T 55)) <|
oc 44 (.ld (T 43) none) <|
.op (on (.mset (false, [.i .i64], false) (T 44) (T 46) (T 56))) <|
.done
@[simp] def a0e_s8 : VT :=
 oc 55 (.lit 4 1 [(0, (T 54))]) <|
.alt (a0e_s6) (a0e_s7)
@[simp] def a0e_s9 : VT :=
 oc 46 (.ld (T 45) none) <|
.alt (a0e_s5) (a0e_s8)
@[simp] def a0e_s10 : VT :=
 oc 44 (.ld (T 43) none) <|
.alt (a0e_s1) (a0e_s2)
@[simp] def a0e_s11 : VT :=
 oc 46 (.ld (T 45) none) <|
.alt (a0e_s6) (a0e_s7)
@[simp] def a0e_s12 : VT :=
 oc 56 (.app 4 40 (T 53) (T 55)) <|
oc 44 (.ld (T 43) none) <|
oc 46 (.ld (T 45) none) <|
.op (on (.mset (false, [.i .i64], false) (T 44) (T 46) (T 56))) <|
.done
@[simp] def a0e_s13 : VT :=
 oc 55 (.lit 4 1 [(0, (T 54))]) <|
.alt (a0e_s10) (  .alt (a0e_s11) (a0e_s12))
@[simp] def a0e_t8 : VT :=
 oc 41 (.mov (T 0)) <|
oc 42 (.chk (T 41)) <|
oc 43 (.fa 5 (T 42)) <|
oc 45 (.fa 0 (T 3)) <|
oc 47 (.mov (T 0)) <|
oc 48 (.chk (T 47)) <|
oc 49 (.fa 5 (T 48)) <|
oc 50 (.ld (T 49) none) <|
oc 51 (.fa 0 (T 3)) <|
oc 52 (.ld (T 51) none) <|
oc 53 (.lkp (false, [.i .i64], false) [.nil 4] (T 50) (T 52) false) <|
oc 54 (.ld (T 5) (some 4)) <|
.alt (a0e_s4) (  .alt (a0e_s9) (a0e_s13))
@[simp] def a0e_t9 : VT :=
 oc 57 (.mov (T 0)) <|
oc 58 (.chk (T 57)) <|
oc 59 (.fa 4 (T 58)) <|
oc 60 (.ld (T 59) none) <|
oc 61 (.ld (T 6) (some 5)) <|
oc 62 (.fa 9 (T 3)) <|
oc 63 (.ld (T 62) none) <|
.op (on (.mset (true, [.i .i64, .i .i64, .b, .i .i64, .s], false) (T 60) (T 61) (T 63))) <|
.done
@[simp] def a0e_t10 : VT :=
 oc 64 (.fa 10 (T 3)) <|
oc 65 (.ld (T 64) none) <|
oc 66 (.len (T 65)) <|
oc 67 (.bin .eql (T 66) (K 0)) <|
oc 68 (.mov (T 67)) <|
.op (og 69 68 false (.mov (T 0))) <|
.op (og 70 68 false (.chk (T 69))) <|
.op (og 71 68 false (.fa 0 (T 70))) <|
.op (og 72 68 false (.fa 0 (T 71))) <|
.op (og 73 68 false (.ld (T 72) none)) <|
.op (og 74 68 false (.fa 3 (T 3))) <|
.op (og 75 68 false (.ld (T 74) none)) <|
.op (og 76 68 false (.ia 1 (T 73) (T 75))) <|
.op (og 77 68 false (.ld (T 76) (some 1))) <|
.op (og 78 68 false (.fa 10 (T 3))) <|
.op (og 79 68 false (.ld (T 78) none)) <|
.op (og 80 68 false (.call n_a3g [(T 77), (T 79)])) <|
.op (og 81 68 false (.mov (T 80))) <|
.op (og 82 81 true (.fa 10 (T 3))) <|
.op (og 83 81 true (.ld (T 82) none)) <|
.op (og 84 81 true (.ia 3 (T 83) (K 0))) <|
.op (og 85 81 true (.ld (T 84) (some 3))) <|
.op (og 86 81 true (.fa 4 (T 3))) <|
.op (og 87 81 true (.ld (T 86) (some 3))) <|
.op (og 88 81 true (.eqs false [.b, .i .i64, .s] (T 85) (T 87))) <|
.op (og 89 68 false (.pick (T 81) (T 88) (B false))) <|
oc 90 (.pick (T 68) (B true) (T 89)) <|
oc 4 (.mov (T 90)) <|
.done
def a7d_write : VCode := (.seq (.reg a0e_r0) (.seq (.seq (.reg a0e_r1) (.cond (T 9) (.seq (.reg a0e_r2) .ret) .skip)) (.seq (.reg a0e_r3) (.seq (.reg a0e_r4) (.seq (.seq (.any a0e_t5) (.cond (T 37) (.seq (.reg a0e_r6) .ret) .skip)) (.seq (.seq (.reg a0e_r7) (.cond (T 40) (.any a0e_t8) .skip)) (.seq (.any a0e_t9) (.seq (.any a0e_t10) .ret))))))))
theorem a0e_is : fnV prog n_a0e = some (91, a7d_write, [.tmp 4]) := by kernel_rfl
@[simp] def a1e_r0 :LO:=[oo 2 (.mov (B false))]
@[simp] def a1e_r1 :LO:=[oo 15 (.mkmap (true, [.i .i64, .i .i64, .b, .i .i64, .s], false)),
oo 3 (.mov (T 15))]
@[simp] def a1e_r2 :LO:=[oo 16 (.mov (T 0)),
oo 17 (.chk (T 16)),
oo 18 (.fa 5 (T 17)),
oo 19 (.ld (T 18) none),
oo 20 (.rng (false, [.i .i64], false) (T 19))]
@[simp] def a1e_r3 :LO:=[oo 21 (.nxt (T 20)),
oo 22 (.ext 0 (T 21))]
@[simp] def a1e_r4 :LO:=[oo 23 (.ent (T 20)),
oo 24 (.ext 0 (T 23)),
oo 25 (.ext 1 (T 23)),
oo 4 (.mov (T 24)),
oo 5 (.mov (T 25))]
@[simp] def a1e_r5 :LO:=[oo 26 (.mov (T 0)),
oo 27 (.chk (T 26)),
oo 28 (.fa 3 (T 27)),
oo 29 (.ld (T 28) none),
oo 30 (.mov (T 4)),
oo 31 (.lkp (false, [.i .i64], false) [zi] (T 29) (T 30) false),
oo 32 (.bin .eql (T 31) (K 5))]
@[simp] def a1e_r6 :LO:=[oo 33 (.mov (T 5)),
oo 34 (.len (T 33)),
oo 35 (.mov (K 0))]
@[simp] def a1e_r7 :LO:=[oo 36 (.bin .lss (T 35) (T 34))]
@[simp] def a1e_r8 :LO:=[oo 37 (.ia 4 (T 33) (T 35)),
oo 38 (.ld (T 37) (some 4)),
oo 7 (.alloc [zi, zb, zi, zs]),
on (.st (T 7) (T 38) 4)]
@[simp] def a1e_r9 :LO:=[oo 39 (.mov (T 3)),
oo 40 (.mov (T 4)),
oo 41 (.ld (T 7) (some 4)),
oo 42 (.build [zi, zi, zb, zi, zs] [(0, 1, (T 40)), (1, 4, (T 41))]),
on (.mset (true, [.i .i64, .i .i64, .b, .i .i64, .s], false) (T 39) (T 42) (K 1))]
@[simp] def a1e_r10 :LO:=[oo 43 (.bin .add (T 35) (K 1)),
oo 35 (.mov (T 43))]
def a1e_l11 : VCode :=
 (.seq (.reg a1e_r7) (.seq (.cond (T 36) .skip (.exit 2)) (.seq (.block 3 (.seq (.reg a1e_r8) (.reg a1e_r9))) (.reg a1e_r10))))
def a1e_l12 : VCode :=
 (.seq (.reg a1e_r3) (.seq (.cond (T 22) .skip (.exit 0)) (.block 1 (.seq (.reg a1e_r4) (.seq (.reg a1e_r5) (.cond (T 32) (.seq (.reg a1e_r6) (.block 2 (.loop a1e_l11))) .skip))))))
@[simp] def a1e_r13 :LO:=[oo 44 (.mkmap (true, [.i .i64, .b, .i .i64, .s], false)),
oo 8 (.mov (T 44))]
@[simp] def a1e_r14 :LO:=[oo 45 (.mov (T 0)),
oo 46 (.chk (T 45)),
oo 47 (.fa 0 (T 46)),
oo 48 (.fa 2 (T 47)),
oo 49 (.ld (T 48) none),
oo 50 (.len (T 49)),
oo 51 (.mov (K 0))]
@[simp] def a1e_r15 :LO:=[oo 52 (.bin .lss (T 51) (T 50))]
@[simp] def a1e_r16 :LO:=[oo 53 (.ia 5 (T 49) (T 51)),
oo 54 (.ld (T 53) (some 5)),
oo 10 (.alloc [zi, zb, zi, zs, .nil 1]),
on (.st (T 10) (T 54) 5)]
@[simp] def a1e_r17 :LO:=[oo 55 (.fa 0 (T 10)),
oo 56 (.ld (T 55) none),
oo 57 (.fa 1 (T 10)),
oo 58 (.ld (T 57) (some 3)),
oo 59 (.build [zi, zb, zi, zs] [(0, 1, (T 56)), (1, 3, (T 58))]),
oo 11 (.alloc [zi, zb, zi, zs]),
on (.st (T 11) (T 59) 4)]
@[simp] def a1e_s0 : VT :=
 oc 62 (.lkp (true, [.i .i64, .b, .i .i64, .s], false) [zi] (T 60) (T 61) false) <|
oc 63 (.bin .add (T 62) (K 1)) <|
oc 64 (.ment (true, [.i .i64, .b, .i .i64, .s], false) [zi] (T 60) (T 61)) <|
oc 65 (.ext 1 (T 64)) <|
.op (on (.est (T 60) (T 65) (T 63))) <|
.done
@[simp] def a1e_s1 : VT :=
 oc 64 (.ment (true, [.i .i64, .b, .i .i64, .s], false) [zi] (T 60) (T 61)) <|
oc 62 (.lkp (true, [.i .i64, .b, .i .i64, .s], false) [zi] (T 60) (T 61) false) <|
oc 63 (.bin .add (T 62) (K 1)) <|
oc 65 (.ext 1 (T 64)) <|
.op (on (.est (T 60) (T 65) (T 63))) <|
.done
@[simp] def a1e_t18 : VT :=
 oc 60 (.mov (T 8)) <|
oc 61 (.ld (T 11) (some 4)) <|
.alt (a1e_s0) (a1e_s1)
@[simp] def a1e_r19 :LO:=[oo 66 (.mov (T 8)),
oo 67 (.ld (T 11) (some 4)),
oo 68 (.lkp (true, [.i .i64, .b, .i .i64, .s], false) [zi] (T 66) (T 67) false),
oo 69 (.bin .gtr (T 68) (K 1)),
oo 70 (.mov (T 69)),
og 71 70 false (.fa 4 (T 10)),
og 72 70 false (.ld (T 71) none),
og 73 70 false (.len (T 72)),
og 74 70 false (.bin .eql (T 73) (K 0)),
oo 75 (.pick (T 70) (B true) (T 74))]
@[simp] def a1e_r20 :LO:=[oo 2 (.mov (B false))]
@[simp] def a1e_r21 :LO:=[oo 76 (.fa 4 (T 10)),
oo 77 (.ld (T 76) none),
oo 78 (.len (T 77)),
oo 79 (.mov (K 0))]
@[simp] def a1e_r22 :LO:=[oo 80 (.bin .lss (T 79) (T 78))]
@[simp] def a1e_r23 :LO:=[oo 81 (.ia 1 (T 77) (T 79)),
oo 82 (.ld (T 81) none),
oo 13 (.mov (T 82))]
@[simp] def a1e_r24 :LO:=[oo 83 (.mov (T 13)),
oo 84 (.ld (T 11) (some 4)),
oo 85 (.build [zi, zi, zb, zi, zs] [(0, 1, (T 83)), (1, 4, (T 84))]),
oo 14 (.alloc [zi, zi, zb, zi, zs]),
on (.st (T 14) (T 85) 5)]
@[simp] def a1e_r25 :LO:=[oo 86 (.mov (T 3)),
oo 87 (.ld (T 14) (some 5)),
oo 88 (.lkp (true, [.i .i64, .i .i64, .b, .i .i64, .s], false) [zi] (T 86) (T 87) false),
oo 89 (.bin .eql (T 88) (K 0))]
@[simp] def a1e_r26 :LO:=[oo 2 (.mov (B false))]
@[simp] def a1e_r27 :LO:=[oo 90 (.mov (T 3)),
oo 91 (.ld (T 14) (some 5)),
on (.mdel (true, [.i .i64, .i .i64, .b, .i .i64, .s], false) (T 90) (T 91))]
@[simp] def a1e_r28 :LO:=[oo 92 (.bin .add (T 79) (K 1)),
oo 79 (.mov (T 92))]
def a1e_l29 : VCode :=
 (.seq (.reg a1e_r22) (.seq (.cond (T 80) .skip (.exit 6)) (.seq (.block 7 (.seq (.reg a1e_r23) (.seq (.reg a1e_r24) (.seq (.seq (.reg a1e_r25) (.cond (T 89) (.seq (.reg a1e_r26) .ret) .skip)) (.reg a1e_r27))))) (.reg a1e_r28))))
@[simp] def a1e_r30 :LO:=[oo 93 (.bin .add (T 51) (K 1)),
oo 51 (.mov (T 93))]
def a1e_l31 : VCode :=
 (.seq (.reg a1e_r15) (.seq (.cond (T 52) .skip (.exit 4)) (.seq (.block 5 (.seq (.reg a1e_r16) (.seq (.reg a1e_r17) (.seq (.any a1e_t18) (.seq (.seq (.reg a1e_r19) (.cond (T 75) (.seq (.reg a1e_r20) .ret) .skip)) (.seq (.reg a1e_r21) (.block 6 (.loop a1e_l29)))))))) (.reg a1e_r30))))
@[simp] def a1e_r32 :LO:=[oo 94 (.mov (T 3)),
oo 95 (.lenm (T 94)),
oo 96 (.bin .eql (T 95) (K 0)),
oo 2 (.mov (T 96))]
def a7d_order : VCode := (.seq (.reg a1e_r0) (.seq (.reg a1e_r1) (.seq (.seq (.reg a1e_r2) (.block 0 (.loop a1e_l12))) (.seq (.reg a1e_r13) (.seq (.seq (.reg a1e_r14) (.block 4 (.loop a1e_l31))) (.seq (.reg a1e_r32) .ret))))))
theorem a1e_is : fnV prog n_a1e = some (97, a7d_order, [.tmp 2]) := by kernel_rfl
@[simp] def a2e_r0 :LO:=[oo 1 (.box (T 0)),
oo 2 (.mov (K 0))]
@[simp] def a2e_r1 :LO:=[oo 3 (.fa 0 (T 1)),
oo 4 (.ld (T 3) none),
oo 5 (.len (T 4)),
oo 6 (.bin .lss (T 5) (K 1)),
oo 7 (.mov (T 6)),
og 8 7 false (.fa 0 (T 1)),
og 9 7 false (.ld (T 8) none),
og 10 7 false (.len (T 9)),
og 11 7 false (.bin .gtr (T 10) (K 4)),
oo 12 (.pick (T 7) (B true) (T 11))]
@[simp] def a2e_r2 :LO:=[oo 2 (.mov (K 1))]
@[simp] def a2e_r3 :LO:=[oo 2 (.mov (K 0))]
def a2e : VCode := (.seq (.reg a2e_r0) (.seq (.seq (.reg a2e_r1) (.cond (T 12) (.seq (.reg a2e_r2) .ret) .skip)) (.seq (.reg a2e_r3) .ret)))
theorem a2e_is : fnV prog n_a2e = some (13, a2e, [.tmp 2]) := by kernel_rfl
@[simp] def a3e_r0 :LO:=[oo 2 (.nils 3)]
@[simp] def a3e_r1 :LO:=[oo 3 (.mov (T 0)),
oo 4 (.snil false (T 3))]
@[simp] def a3e_r2 :LO:=[oo 2 (.nils 3)]
@[simp] def a3e_r3 :LO:=[oo 5 (.lit 3 0 []),
oo 6 (.mov (T 0)),
oo 7 (.app 3 32 (T 5) (T 6)),
oo 2 (.mov (T 7))]
def a3e : VCode := (.seq (.reg a3e_r0) (.seq (.seq (.reg a3e_r1) (.cond (T 4) (.seq (.reg a3e_r2) .ret) .skip)) (.seq (.reg a3e_r3) .ret)))
theorem a3e_is : fnV prog n_a3e = some (8, a3e, [.tmp 2]) := by kernel_rfl
@[simp] def a4e_r0 :LO:=[oo 4 (.mov (K 0))]
@[simp] def a4e_r1 :LO:=[oo 6 (.mov (T 0)),
oo 7 (.len (T 6)),
oo 8 (.mov (K 0))]
@[simp] def a4e_r2 :LO:=[oo 9 (.bin .lss (T 8) (T 7))]
@[simp] def a4e_r3 :LO:=[oo 10 (.mov (T 8)),
oo 5 (.mov (T 10))]
@[simp] def a4e_r4 :LO:=[oo 11 (.mov (T 1)),
oo 12 (.mov (T 0)),
oo 13 (.mov (T 5)),
oo 14 (.ia 2 (T 12) (T 13)),
oo 15 (.ld (T 14) (some 2)),
oo 16 (.callv (T 11) [(T 15)])]
@[simp] def a4e_r5 :LO:=[oo 17 (.mov (T 5)),
oo 4 (.mov (T 17))]
@[simp] def a4e_r6 :LO:=[oo 18 (.bin .add (T 8) (K 1)),
oo 8 (.mov (T 18))]
def a4e_l7 : VCode :=
 (.seq (.reg a4e_r2) (.seq (.cond (T 9) .skip (.exit 0)) (.seq (.block 1 (.seq (.reg a4e_r3) (.seq (.reg a4e_r4) (.cond (T 16) (.seq (.reg a4e_r5) .ret) .skip)))) (.reg a4e_r6))))
@[simp] def a4e_r8 :LO:=[oo 4 (.mov (K (-1)))]
def a4e : VCode := (.seq (.reg a4e_r0) (.seq (.seq (.reg a4e_r1) (.block 0 (.loop a4e_l7))) (.seq (.reg a4e_r8) .ret)))
theorem a4e_is : fnV prog n_a4e = some (19, a4e, [.tmp 4]) := by kernel_rfl
@[simp] def a5e_r0 :LO:=[oo 5 (.box (T 2)),
oo 6 (.nils 2)]
@[simp] def a5e_t1 : VT :=
 oc 10 (.mov (T 0)) <|
oc 11 (.chk (T 10)) <|
oc 12 (.fa 4 (T 11)) <|
oc 13 (.ld (T 12) none) <|
oc 14 (.mov (T 1)) <|
oc 15 (.ld (T 5) (some 3)) <|
oc 16 (.build [zi, zb, zi, zs] [(0, 1, (T 14)), (1, 3, (T 15))]) <|
oc 17 (.lkp (true, [.i .i64, .b, .i .i64, .s], false) [.nil 2] (T 13) (T 16) true) <|
oc 9 (.mov (T 17)) <|
oc 18 (.ext 0 (T 9)) <|
oc 19 (.ext 1 (T 9)) <|
oc 7 (.mov (T 18)) <|
oc 8 (.mov (T 19)) <|
.done
@[simp] def a5e_r2 :LO:=[oo 20 (.mov (T 8)),
oo 21 (.un .not (T 20))]
@[simp] def a5e_r3 :LO:=[oo 22 (.build [zi, zi] []),
oo 23 (.lit 2 1 [(0, (T 22))]),
oo 6 (.mov (T 23))]
@[simp] def a5e_r4 :LO:=[oo 24 (.mov (T 7)),
oo 6 (.mov (T 24))]
def a6e_chain : VCode := (.seq (.reg a5e_r0) (.seq (.any a5e_t1) (.seq (.seq (.reg a5e_r2) (.cond (T 21) (.seq (.reg a5e_r3) .ret) .skip)) (.seq (.reg a5e_r4) .ret))))
theorem a5e_is : fnV prog n_a5e = some (25, a6e_chain, [.tmp 6]) := by kernel_rfl
@[simp] def a7e_r0 :LO:=[oo 2 (.box (T 0)),
oo 3 (.mov (B false))]
@[simp] def a7e_r1 :LO:=[oo 4 (.fa 0 (T 2)),
oo 5 (.ld (T 4) none),
oo 6 (.fa 0 (T 1)),
oo 7 (.ld (T 6) none),
oo 8 (.bin .eql (T 5) (T 7)),
oo 3 (.mov (T 8))]
def a7e : VCode := (.seq (.reg a7e_r0) (.seq (.reg a7e_r1) .ret))
theorem a7e_is : fnV prog n_a7e = some (9, a7e, [.tmp 3]) := by kernel_rfl
@[simp] def a8e_r0 :LO:=[oo 5 (.box (T 0)),
oo 6 (.mov (B false))]
@[simp] def a8e_r1 :LO:=[oo 10 (.ld (T 1) none),
oo 11 (.ld (T 2) none),
oo 12 (.ld (T 3) (some 3)),
oo 13 (.ld (T 5) (some 2)),
oo 14 (.call n_a7b [(T 10), (T 11), (T 12), (T 13)]),
oo 9 (.mov (T 14)),
oo 15 (.ext 0 (T 9)),
oo 16 (.ext 1 (T 9)),
oo 7 (.mov (T 15)),
oo 8 (.mov (T 16))]
@[simp] def a8e_r2 :LO:=[oo 17 (.mov (T 7)),
oo 18 (.len (T 17)),
oo 19 (.bin .gtr (T 18) (K 0)),
oo 20 (.mov (T 19)),
og 21 20 true (.ld (T 4) (some 9)),
og 22 20 true (.mov (T 7)),
og 23 20 true (.call n_a9e [(T 21), (T 22)]),
oo 24 (.pick (T 20) (T 23) (B false)),
oo 6 (.mov (T 24))]
def a8e : VCode := (.seq (.reg a8e_r0) (.seq (.reg a8e_r1) (.seq (.reg a8e_r2) .ret)))
theorem a8e_is : fnV prog n_a8e = some (25, a8e, [.tmp 6]) := by kernel_rfl
@[simp] def a9e_r0 :LO:=[oo 2 (.box (T 0)),
oo 3 (.box (T 1)),
oo 4 (.mov (B false))]
@[simp] def a9e_r1 :LO:=[oo 6 (.mkfn n_a4g [] [(T 3)]),
oo 5 (.alloc [.iv (.v .nilFunc)]),
on (.st (T 5) (T 6) 1)]
@[simp] def a9e_r2 :LO:=[oo 7 (.fa 0 (T 2)),
oo 8 (.ld (T 7) none)]
@[simp] def a9e_r3 :LO:=[oo 10 (.bin .eql (T 8) (K 1)),
oo 9 (.mov (T 10))]
@[simp] def a9e_r4 :LO:=[oo 4 (.mov (B true))]
@[simp] def a9e_r5 :LO:=[oo 12 (.bin .eql (T 8) (K 3)),
oo 11 (.mov (T 12))]
@[simp] def a9e_r6 :LO:=[oo 13 (.bin .eql (T 8) (K 4)),
oo 11 (.mov (T 13))]
@[simp] def a9e_r7 :LO:=[oo 14 (.bin .eql (T 8) (K 5)),
oo 11 (.mov (T 14))]
@[simp] def a9e_r8 :LO:=[oo 15 (.bin .eql (T 8) (K 6)),
oo 11 (.mov (T 15))]
@[simp] def a9e_r9 :LO:=[oo 16 (.bin .eql (T 8) (K 7)),
oo 11 (.mov (T 16))]
@[simp] def a9e_r10 :LO:=[oo 17 (.bin .eql (T 8) (K 8)),
oo 11 (.mov (T 17))]
@[simp] def a9e_r11 :LO:=[oo 18 (.bin .eql (T 8) (K 9)),
oo 11 (.mov (T 18))]
@[simp] def a9e_r12 :LO:=[oo 19 (.ld (T 2) (some 9)),
oo 20 (.ld (T 3) none),
oo 21 (.call n_a5g [(T 19), (T 20)]),
oo 4 (.mov (T 21))]
@[simp] def a9e_r13 :LO:=[oo 23 (.bin .eql (T 8) (K 10)),
oo 22 (.mov (T 23))]
@[simp] def a9e_t14 : VT :=
 oc 24 (.fa 8 (T 2)) <|
oc 25 (.ld (T 24) none) <|
oc 26 (.len (T 25)) <|
oc 27 (.bin .eql (T 26) (K 0)) <|
oc 28 (.mov (T 27)) <|
.op (og 29 28 false (.ld (T 5) none)) <|
.op (og 30 28 false (.fa 8 (T 2))) <|
.op (og 31 28 false (.ld (T 30) none)) <|
.op (og 32 28 false (.ia 9 (T 31) (K 0))) <|
.op (og 33 28 false (.ld (T 32) (some 9))) <|
.op (og 34 28 false (.callv (T 29) [(T 33)])) <|
.op (og 35 28 false (.un .not (T 34))) <|
oc 36 (.pick (T 28) (B true) (T 35)) <|
oc 4 (.mov (T 36)) <|
.done
@[simp] def a9e_r15 :LO:=[oo 38 (.bin .eql (T 8) (K 11)),
oo 37 (.mov (T 38))]
@[simp] def a9e_r16 :LO:=[oo 39 (.fa 8 (T 2)),
oo 40 (.ld (T 39) none),
oo 41 (.mkfn n_a7g [] [(T 5)]),
oo 42 (.call n_a6g [(T 40), (T 41)]),
oo 43 (.un .not (T 42)),
oo 4 (.mov (T 43))]
@[simp] def a9e_r17 :LO:=[oo 45 (.bin .eql (T 8) (K 12)),
oo 44 (.mov (T 45))]
@[simp] def a9e_r18 :LO:=[oo 46 (.fa 8 (T 2)),
oo 47 (.ld (T 46) none),
oo 48 (.ld (T 5) none),
oo 49 (.call n_a6g [(T 47), (T 48)]),
oo 4 (.mov (T 49))]
@[simp] def a9e_r19 :LO:=[oo 4 (.mov (B false))]
def a9e : VCode := (.seq (.reg a9e_r0) (.seq (.reg a9e_r1) (.seq (.seq (.reg a9e_r2) (.block 0 (.seq (.reg a9e_r3) (.cond (T 9) (.seq (.reg a9e_r4) .ret) (.seq (.seq (.reg a9e_r5) (.cond (T 11) .skip (.seq (.reg a9e_r6) (.cond (T 11) .skip (.seq (.reg a9e_r7) (.cond (T 11) .skip (.seq (.reg a9e_r8) (.cond (T 11) .skip (.seq (.reg a9e_r9) (.cond (T 11) .skip (.seq (.reg a9e_r10) (.cond (T 11) .skip (.reg a9e_r11))))))))))))) (.cond (T 11) (.seq (.reg a9e_r12) .ret) (.seq (.reg a9e_r13) (.cond (T 22) (.seq (.any a9e_t14) .ret) (.seq (.reg a9e_r15) (.cond (T 37) (.seq (.reg a9e_r16) .ret) (.seq (.reg a9e_r17) (.cond (T 44) (.seq (.reg a9e_r18) .ret) .skip)))))))))))) (.seq (.reg a9e_r19) .ret))))
theorem a9e_is : fnV prog n_a9e = some (50, a9e, [.tmp 4]) := by kernel_rfl
@[simp] def a0f_r0 :LO:=[oo 4 (.mov (K 0))]
@[simp] def a0f_r1 :LO:=[oo 7 (.mov (T 0)),
oo 8 (.call n_a8g [(T 7)]),
oo 5 (.mov (T 8))]
@[simp] def a0f_r2 :LO:=[oo 9 (.mov (T 1)),
oo 10 (.call n_a8g [(T 9)]),
oo 6 (.mov (T 10))]
@[simp] def a0f_r3 :LO:=[oo 11 (.mov (T 5))]
@[simp] def a0f_r4 :LO:=[oo 12 (.mov (T 6))]
@[simp] def a0f_r5 :LO:=[oo 4 (.mov (K 0))]
@[simp] def a0f_r6 :LO:=[oo 4 (.mov (K (-1)))]
@[simp] def a0f_r7 :LO:=[oo 13 (.mov (T 6))]
@[simp] def a0f_r8 :LO:=[oo 4 (.mov (K 1))]
@[simp] def a0f_r9 :LO:=[oo 14 (.mov (T 0)),
oo 15 (.mov (T 1)),
oo 16 (.bin .lss (T 14) (T 15))]
@[simp] def a0f_r10 :LO:=[oo 4 (.mov (K (-1)))]
@[simp] def a0f_r11 :LO:=[oo 17 (.mov (T 0)),
oo 18 (.mov (T 1)),
oo 19 (.bin .gtr (T 17) (T 18))]
@[simp] def a0f_r12 :LO:=[oo 4 (.mov (K 1))]
@[simp] def a0f_r13 :LO:=[oo 4 (.mov (K 0))]
def a1f_string : VCode := (.seq (.reg a0f_r0) (.seq (.reg a0f_r1) (.seq (.reg a0f_r2) (.seq (.seq (.reg a0f_r3) (.cond (T 11) (.seq (.seq (.reg a0f_r4) (.cond (T 12) (.seq (.reg a0f_r5) .ret) .skip)) (.seq (.reg a0f_r6) .ret)) .skip)) (.seq (.seq (.reg a0f_r7) (.cond (T 13) (.seq (.reg a0f_r8) .ret) .skip)) (.seq (.seq (.reg a0f_r9) (.cond (T 16) (.seq (.reg a0f_r10) .ret) .skip)) (.seq (.seq (.reg a0f_r11) (.cond (T 19) (.seq (.reg a0f_r12) .ret) .skip)) (.seq (.reg a0f_r13) .ret))))))))
theorem a0f_is : fnV prog n_a0f = some (20, a1f_string, [.tmp 4]) := by kernel_rfl
@[simp] def a2f_r0 :LO:=[oo 4 (.mov (K 0))]
@[simp] def a2f_r1 :LO:=[oo 7 (.mov (T 0)),
oo 8 (.call n_a0h [(T 7)]),
oo 5 (.mov (T 8))]
@[simp] def a2f_r2 :LO:=[oo 9 (.mov (T 1)),
oo 10 (.call n_a0h [(T 9)]),
oo 6 (.mov (T 10))]
@[simp] def a2f_r3 :LO:=[oo 11 (.mov (T 5))]
@[simp] def a2f_r4 :LO:=[oo 12 (.mov (T 6))]
@[simp] def a2f_r5 :LO:=[oo 4 (.mov (K 0))]
@[simp] def a2f_r6 :LO:=[oo 4 (.mov (K (-1)))]
@[simp] def a2f_r7 :LO:=[oo 13 (.mov (T 6))]
@[simp] def a2f_r8 :LO:=[oo 4 (.mov (K 1))]
@[simp] def a2f_r9 :LO:=[oo 14 (.mov (T 0)),
oo 15 (.mov (T 1)),
oo 16 (.bin .lss (T 14) (T 15))]
@[simp] def a2f_r10 :LO:=[oo 4 (.mov (K (-1)))]
@[simp] def a2f_r11 :LO:=[oo 17 (.mov (T 0)),
oo 18 (.mov (T 1)),
oo 19 (.bin .gtr (T 17) (T 18))]
@[simp] def a2f_r12 :LO:=[oo 4 (.mov (K 1))]
@[simp] def a2f_r13 :LO:=[oo 4 (.mov (K 0))]
def a1f_int64 : VCode := (.seq (.reg a2f_r0) (.seq (.reg a2f_r1) (.seq (.reg a2f_r2) (.seq (.seq (.reg a2f_r3) (.cond (T 11) (.seq (.seq (.reg a2f_r4) (.cond (T 12) (.seq (.reg a2f_r5) .ret) .skip)) (.seq (.reg a2f_r6) .ret)) .skip)) (.seq (.seq (.reg a2f_r7) (.cond (T 13) (.seq (.reg a2f_r8) .ret) .skip)) (.seq (.seq (.reg a2f_r9) (.cond (T 16) (.seq (.reg a2f_r10) .ret) .skip)) (.seq (.seq (.reg a2f_r11) (.cond (T 19) (.seq (.reg a2f_r12) .ret) .skip)) (.seq (.reg a2f_r13) .ret))))))))
theorem a2f_is : fnV prog n_a2f = some (20, a1f_int64, [.tmp 4]) := by kernel_rfl
@[simp] def a3f_r0 :LO:=[oo 2 (.box (T 0)),
oo 3 (.box (T 1)),
oo 4 (.mov (K 0))]
@[simp] def a3f_r1 :LO:=[oo 6 (.fa 0 (T 2)),
oo 7 (.ld (T 6) none),
oo 8 (.fa 0 (T 3)),
oo 9 (.ld (T 8) none),
oo 10 (.beq true (T 7) (T 9))]
@[simp] def a3f_r2 :LO:=[oo 11 (.fa 0 (T 3)),
oo 12 (.ld (T 11) none)]
@[simp] def a3f_r3 :LO:=[oo 4 (.mov (K (-1)))]
@[simp] def a3f_r4 :LO:=[oo 4 (.mov (K 1))]
@[simp] def a3f_r5 :LO:=[oo 13 (.fa 0 (T 2)),
oo 14 (.ld (T 13) none),
oo 15 (.un .not (T 14))]
@[simp] def a3f_r6 :LO:=[oo 16 (.fa 1 (T 2)),
oo 17 (.ld (T 16) none),
oo 18 (.fa 1 (T 3)),
oo 19 (.ld (T 18) none),
oo 20 (.bin .lss (T 17) (T 19))]
@[simp] def a3f_r7 :LO:=[oo 4 (.mov (K (-1)))]
@[simp] def a3f_r8 :LO:=[oo 21 (.fa 1 (T 2)),
oo 22 (.ld (T 21) none),
oo 23 (.fa 1 (T 3)),
oo 24 (.ld (T 23) none),
oo 25 (.bin .gtr (T 22) (T 24))]
@[simp] def a3f_r9 :LO:=[oo 4 (.mov (K 1))]
@[simp] def a3f_r10 :LO:=[oo 4 (.mov (K 0))]
@[simp] def a3f_r11 :LO:=[oo 5 (.mov (K 0))]
@[simp] def a3f_r12 :LO:=[oo 26 (.mov (T 5)),
oo 27 (.fa 2 (T 2)),
oo 28 (.ld (T 27) none),
oo 29 (.lens (T 28)),
oo 30 (.bin .lss (T 26) (T 29)),
oo 31 (.mov (T 30)),
og 32 31 true (.mov (T 5)),
og 33 31 true (.fa 2 (T 3)),
og 34 31 true (.ld (T 33) none),
og 35 31 true (.lens (T 34)),
og 36 31 true (.bin .lss (T 32) (T 35)),
oo 37 (.pick (T 31) (T 36) (B false))]
@[simp] def a3f_t13 : VT :=
 oc 40 (.fa 2 (T 2)) <|
oc 41 (.ld (T 40) none) <|
oc 42 (.mov (T 5)) <|
oc 43 (.is (T 41) (T 42)) <|
oc 44 (.fa 2 (T 3)) <|
oc 45 (.ld (T 44) none) <|
oc 46 (.mov (T 5)) <|
oc 47 (.is (T 45) (T 46)) <|
oc 48 (.bin .lss (T 43) (T 47)) <|
.done
@[simp] def a3f_r14 :LO:=[oo 4 (.mov (K (-1)))]
@[simp] def a3f_t15 : VT :=
 oc 49 (.fa 2 (T 2)) <|
oc 50 (.ld (T 49) none) <|
oc 51 (.mov (T 5)) <|
oc 52 (.is (T 50) (T 51)) <|
oc 53 (.fa 2 (T 3)) <|
oc 54 (.ld (T 53) none) <|
oc 55 (.mov (T 5)) <|
oc 56 (.is (T 54) (T 55)) <|
oc 57 (.bin .gtr (T 52) (T 56)) <|
.done
@[simp] def a3f_r16 :LO:=[oo 4 (.mov (K 1))]
@[simp] def a3f_r17 :LO:=[oo 38 (.mov (T 5)),
oo 39 (.bin .add (T 38) (K 1)),
oo 5 (.mov (T 39))]
def a3f_l18 : VCode :=
 (.seq (.seq (.reg a3f_r12) (.cond (T 37) .skip (.exit 0))) (.seq (.block 1 (.seq (.seq (.any a3f_t13) (.cond (T 48) (.seq (.reg a3f_r14) .ret) .skip)) (.seq (.any a3f_t15) (.cond (T 57) (.seq (.reg a3f_r16) .ret) .skip)))) (.reg a3f_r17)))
@[simp] def a3f_r19 :LO:=[oo 58 (.fa 2 (T 2)),
oo 59 (.ld (T 58) none),
oo 60 (.lens (T 59)),
oo 61 (.fa 2 (T 3)),
oo 62 (.ld (T 61) none),
oo 63 (.lens (T 62)),
oo 64 (.bin .lss (T 60) (T 63))]
@[simp] def a3f_r20 :LO:=[oo 4 (.mov (K (-1)))]
@[simp] def a3f_r21 :LO:=[oo 65 (.fa 2 (T 2)),
oo 66 (.ld (T 65) none),
oo 67 (.lens (T 66)),
oo 68 (.fa 2 (T 3)),
oo 69 (.ld (T 68) none),
oo 70 (.lens (T 69)),
oo 71 (.bin .gtr (T 67) (T 70))]
@[simp] def a3f_r22 :LO:=[oo 4 (.mov (K 1))]
@[simp] def a3f_r23 :LO:=[oo 4 (.mov (K 0))]
def a3f : VCode := (.seq (.reg a3f_r0) (.seq (.seq (.reg a3f_r1) (.cond (T 10) (.seq (.seq (.reg a3f_r2) (.cond (T 12) (.seq (.reg a3f_r3) .ret) .skip)) (.seq (.reg a3f_r4) .ret)) .skip)) (.seq (.seq (.reg a3f_r5) (.cond (T 15) (.seq (.seq (.reg a3f_r6) (.cond (T 20) (.seq (.reg a3f_r7) .ret) .skip)) (.seq (.seq (.reg a3f_r8) (.cond (T 25) (.seq (.reg a3f_r9) .ret) .skip)) (.seq (.reg a3f_r10) .ret))) .skip)) (.seq (.seq (.reg a3f_r11) (.block 0 (.loop a3f_l18))) (.seq (.seq (.reg a3f_r19) (.cond (T 64) (.seq (.reg a3f_r20) .ret) .skip)) (.seq (.seq (.reg a3f_r21) (.cond (T 71) (.seq (.reg a3f_r22) .ret) .skip)) (.seq (.reg a3f_r23) .ret)))))))
theorem a3f_is : fnV prog n_a3f = some (72, a3f, [.tmp 4]) := by kernel_rfl
@[simp] def a4f_r0 :LO:=[oo 4 (.box (T 0)),
oo 6 (.box (T 2)),
oo 7 (.box (T 3)),
oo 8 (.nils 3),
oo 9 (.mov (B false))]
@[simp] def a4f_r1 :LO:=[oo 13 (.build [zi, zi] []),
oo 10 (.alloc [zi, zi]),
on (.st (T 10) (T 13) 2)]
@[simp] def a4f_r2 :LO:=[oo 14 (.ld (T 7) (some 2)),
oo 15 (.ld (T 10) (some 2)),
oo 16 (.eqs false [.i .i64, .i .i64] (T 14) (T 15))]
@[simp] def a4f_r3 :LO:=[oo 8 (.nils 3),
oo 9 (.mov (B true))]
@[simp] def a4f_r4 :LO:=[oo 11 (.mov (K 0))]
@[simp] def a4f_r5 :LO:=[oo 17 (.mov (T 11)),
oo 18 (.fa 1 (T 4)),
oo 19 (.ld (T 18) none),
oo 20 (.len (T 19)),
oo 21 (.bin .lss (T 17) (T 20))]
@[simp] def a4f_r6 :LO:=[oo 24 (.fa 1 (T 4)),
oo 25 (.ld (T 24) none),
oo 26 (.mov (T 11)),
oo 27 (.ia 22 (T 25) (T 26)),
oo 28 (.ld (T 27) (some 22)),
oo 12 (.alloc [zi, zi, zi, zi, zb, zi, zs, zi, zi, zi, .nil 3, zi, zi, zb, zi, zs, zb, zi, zs, .nil 9, .nil 5, zb]),
on (.st (T 12) (T 28) 22)]
@[simp] def a4f_r7 :LO:=[oo 29 (.fa 1 (T 12)),
oo 30 (.ld (T 29) none),
oo 31 (.bin .eql (T 30) (K 3)),
oo 32 (.mov (T 31)),
og 33 32 true (.fa 0 (T 12)),
og 34 32 true (.ld (T 33) none),
og 35 32 true (.fa 0 (T 7)),
og 36 32 true (.ld (T 35) none),
og 37 32 true (.bin .eql (T 34) (T 36)),
oo 38 (.pick (T 32) (T 37) (B false)),
oo 39 (.mov (T 38)),
og 40 39 true (.fa 9 (T 12)),
og 41 39 true (.ld (T 40) none),
og 42 39 true (.fa 1 (T 7)),
og 43 39 true (.ld (T 42) none),
og 44 39 true (.bin .eql (T 41) (T 43)),
oo 45 (.pick (T 39) (T 44) (B false)),
oo 46 (.mov (T 45)),
og 47 46 true (.fa 3 (T 12)),
og 48 46 true (.ld (T 47) none),
og 49 46 true (.mov (T 1)),
og 50 46 true (.bin .eql (T 48) (T 49)),
oo 51 (.pick (T 46) (T 50) (B false)),
oo 52 (.mov (T 51)),
og 53 52 true (.fa 4 (T 12)),
og 54 52 true (.ld (T 53) (some 3)),
og 55 52 true (.ld (T 6) (some 3)),
og 56 52 true (.eqs false [.b, .i .i64, .s] (T 54) (T 55)),
oo 57 (.pick (T 52) (T 56) (B false))]
@[simp] def a4f_r8 :LO:=[oo 58 (.fa 10 (T 12)),
oo 59 (.ld (T 58) none),
oo 8 (.mov (T 59)),
oo 9 (.mov (B true))]
@[simp] def a4f_r9 :LO:=[oo 22 (.mov (T 11)),
oo 23 (.bin .add (T 22) (K 1)),
oo 11 (.mov (T 23))]
@[simp] def a4f_r11 :LO:=[oo 8 (.nils 3),
oo 9 (.mov (B false))]
@[simp] def a5f_r0 :LO:=[oo 5 (.box (T 0)),
oo 7 (.box (T 2)),
oo 8 (.box (T 3)),
oo 9 (.box (T 4)),
oo 10 (.mov (B false))]
@[simp] def a5f_r1 :LO:=[oo 15 (.ld (T 5) (some 3)),
oo 16 (.mov (T 1)),
oo 17 (.ld (T 7) (some 3)),
oo 18 (.ld (T 8) (some 2)),
oo 19 (.call n_a4f [(T 15), (T 16), (T 17), (T 18)]),
oo 14 (.mov (T 19)),
oo 20 (.ext 0 (T 14)),
oo 21 (.ext 1 (T 14)),
oo 11 (.mov (T 20)),
oo 12 (.mov (T 21))]
@[simp] def a5f_r2 :LO:=[oo 22 (.ld (T 9) (some 9)),
oo 23 (.mov (T 11)),
oo 24 (.call n_a1h [(T 22), (T 23)]),
oo 13 (.mov (T 24))]
@[simp] def a5f_r3 :LO:=[oo 25 (.mov (T 11)),
oo 26 (.len (T 25)),
oo 27 (.bin .gtr (T 26) (K 0)),
oo 28 (.mov (T 27)),
og 29 28 true (.mov (T 13)),
oo 30 (.pick (T 28) (T 29) (B false)),
oo 10 (.mov (T 30))]
@[simp] def a6f_r0 :LO:=[oo 3 (.box (T 0)),
oo 5 (.box (T 2)),
oo 6 (.mov (B false))]
@[simp] def a6f_r1 :LO:=[oo 8 (.mov (T 1)),
oo 9 (.bin .lss (T 8) (K 0)),
oo 10 (.mov (T 9)),
og 11 10 false (.mov (T 1)),
og 12 10 false (.fa 0 (T 3)),
og 13 10 false (.ld (T 12) none),
og 14 10 false (.len (T 13)),
og 15 10 false (.bin .geq (T 11) (T 14)),
oo 16 (.pick (T 10) (B true) (T 15))]
@[simp] def a6f_r2 :LO:=[oo 6 (.mov (B false))]
@[simp] def a6f_r3 :LO:=[oo 17 (.ld (T 5) (some 3)),
oo 18 (.call n_a2h [(T 17)]),
oo 7 (.mov (T 18))]
@[simp] def a6f_t4 : VT :=
 oc 19 (.mov (T 7)) <|
oc 20 (.mov (T 19)) <|
.op (og 21 20 true (.fa 0 (T 5))) <|
.op (og 22 20 true (.ld (T 21) none)) <|
.op (og 23 20 true (.fa 0 (T 3))) <|
.op (og 24 20 true (.ld (T 23) none)) <|
.op (og 25 20 true (.mov (T 1))) <|
.op (og 26 20 true (.ia 1 (T 24) (T 25))) <|
.op (og 27 20 true (.fa 0 (T 26))) <|
.op (og 28 20 true (.ld (T 27) none)) <|
.op (og 29 20 true (.ia 1 (T 28) (K 0))) <|
.op (og 30 20 true (.ld (T 29) none)) <|
.op (og 31 20 true (.beq false (T 22) (T 30))) <|
oc 32 (.pick (T 20) (T 31) (B false)) <|
oc 6 (.mov (T 32)) <|
.done
def b1W : VCode := (.seq (.reg a6f_r0) (.seq (.seq (.reg a6f_r1) (.cond (T 16) (.seq (.reg a6f_r2) .ret) .skip)) (.seq (.reg a6f_r3) (.seq (.any a6f_t4) .ret))))
theorem a6f_is : fnV prog n_a6f = some (33, b1W, [.tmp 6]) := by kernel_rfl
@[simp] def a7f_r0 :LO:=[oo 5 (.box (T 0)),
oo 8 (.box (T 3)),
oo 9 (.box (T 4)),
oo 10 (.mov (B false))]
@[simp] def a7f_r1 :LO:=[oo 12 (.ld (T 5) (some 3)),
oo 13 (.mov (T 1)),
oo 14 (.fa 0 (T 9)),
oo 15 (.ld (T 14) none),
oo 16 (.mov (T 2)),
oo 17 (.ld (T 8) (some 3)),
oo 18 (.call n_a4b [(T 12), (T 13), (T 15), (T 16), (T 17)]),
oo 11 (.mov (T 18))]
@[simp] def a7f_r2 :LO:=[oo 19 (.fa 1 (T 9)),
oo 20 (.ld (T 19) none),
oo 21 (.bin .geq (T 20) (K 1)),
oo 22 (.mov (T 21)),
og 23 22 true (.fa 1 (T 9)),
og 24 22 true (.ld (T 23) none),
og 25 22 true (.mov (T 11)),
og 26 22 true (.bin .leq (T 24) (T 25)),
oo 27 (.pick (T 22) (T 26) (B false)),
oo 10 (.mov (T 27))]
def b2W : VCode := (.seq (.reg a7f_r0) (.seq (.reg a7f_r1) (.seq (.reg a7f_r2) .ret)))
theorem a7f_is : fnV prog n_a7f = some (28, b2W, [.tmp 10]) := by kernel_rfl
@[simp] def a8f_r0 :LO:=[oo 2 (.box (T 0)),
oo 4 (.mov (B false))]
@[simp] def a8f_r1 :LO:=[oo 8 (.ld (T 2) (some 1)),
oo 9 (.call n_a9c [(T 8)]),
oo 5 (.mov (T 9))]
@[simp] def a8f_r2 :LO:=[oo 10 (.mov (T 5)),
oo 11 (.un .not (T 10)),
oo 12 (.mov (T 11)),
og 13 12 false (.mov (T 1)),
og 14 12 false (.len (T 13)),
og 15 12 false (.fa 0 (T 2)),
og 16 12 false (.ld (T 15) none),
og 17 12 false (.len (T 16)),
og 18 12 false (.bin .neq (T 14) (T 17)),
oo 19 (.pick (T 12) (B true) (T 18))]
@[simp] def a8f_r3 :LO:=[oo 4 (.mov (B false))]
@[simp] def a8f_r4 :LO:=[oo 6 (.mov (K 0))]
@[simp] def a8f_r5 :LO:=[oo 20 (.mov (T 6)),
oo 21 (.mov (T 1)),
oo 22 (.len (T 21)),
oo 23 (.bin .lss (T 20) (T 22))]
@[simp] def a8f_r6 :LO:=[oo 26 (.mov (T 1)),
oo 27 (.mov (T 6)),
oo 28 (.ia 3 (T 26) (T 27)),
oo 29 (.ld (T 28) (some 3)),
oo 30 (.call n_a2h [(T 29)]),
oo 7 (.mov (T 30))]
@[simp] def a8f_t7 : VT :=
 oc 31 (.mov (T 7)) <|
oc 32 (.un .not (T 31)) <|
oc 33 (.mov (T 32)) <|
.op (og 34 33 false (.mov (T 1))) <|
.op (og 35 33 false (.mov (T 6))) <|
.op (og 36 33 false (.ia 3 (T 34) (T 35))) <|
.op (og 37 33 false (.fa 0 (T 36))) <|
.op (og 38 33 false (.ld (T 37) none)) <|
.op (og 39 33 false (.fa 0 (T 2))) <|
.op (og 40 33 false (.ld (T 39) none)) <|
.op (og 41 33 false (.mov (T 6))) <|
.op (og 42 33 false (.ia 1 (T 40) (T 41))) <|
.op (og 43 33 false (.ld (T 42) none)) <|
.op (og 44 33 false (.beq true (T 38) (T 43))) <|
oc 45 (.pick (T 33) (B true) (T 44)) <|
.done
@[simp] def a8f_r8 :LO:=[oo 4 (.mov (B false))]
@[simp] def a8f_r9 :LO:=[oo 24 (.mov (T 6)),
oo 25 (.bin .add (T 24) (K 1)),
oo 6 (.mov (T 25))]
def a8f_l10 : VCode :=
 (.seq (.seq (.reg a8f_r5) (.cond (T 23) .skip (.exit 0))) (.seq (.block 1 (.seq (.reg a8f_r6) (.seq (.any a8f_t7) (.cond (T 45) (.seq (.reg a8f_r8) .ret) .skip)))) (.reg a8f_r9)))
@[simp] def a8f_r11 :LO:=[oo 4 (.mov (B true))]
def a8f : VCode := (.seq (.reg a8f_r0) (.seq (.reg a8f_r1) (.seq (.seq (.reg a8f_r2) (.cond (T 19) (.seq (.reg a8f_r3) .ret) .skip)) (.seq (.seq (.reg a8f_r4) (.block 0 (.loop a8f_l10))) (.seq (.reg a8f_r11) .ret)))))
theorem a8f_is : fnV prog n_a8f = some (46, a8f, [.tmp 4]) := by kernel_rfl
@[simp] def a9f_r0 :LO:=[oo 2 (.box (T 0)),
oo 3 (.box (T 1)),
oo 4 (.mov (B false))]
@[simp] def a9f_r1 :LO:=[oo 6 (.ld (T 2) (some 1)),
oo 7 (.call n_a9c [(T 6)]),
oo 5 (.mov (T 7))]
@[simp] def a9f_r2 :LO:=[oo 8 (.mov (T 5)),
oo 9 (.mov (T 8)),
og 10 9 true (.ld (T 3) (some 9)),
og 11 9 true (.call n_a8b [(T 10)]),
og 12 9 true (.bin .leq (T 11) (K 15)),
oo 13 (.pick (T 9) (T 12) (B false)),
oo 14 (.mov (T 13)),
og 15 14 true (.ld (T 2) (some 1)),
og 16 14 true (.ld (T 3) (some 9)),
og 17 14 true (.call n_a3h [(T 15), (T 16)]),
oo 18 (.pick (T 14) (T 17) (B false)),
oo 4 (.mov (T 18))]
def a9f : VCode := (.seq (.reg a9f_r0) (.seq (.reg a9f_r1) (.seq (.reg a9f_r2) .ret)))
theorem a9f_is : fnV prog n_a9f = some (19, a9f, [.tmp 4]) := by kernel_rfl
@[simp] def a0g_r0 :LO:=[oo 5 (.box (T 2)),
oo 6 (.mov (B false))]
@[simp] def a0g_t1 : VT :=
 oc 7 (.mov (T 1)) <|
oc 8 (.bin .geq (T 7) (K 0)) <|
oc 9 (.mov (T 8)) <|
.op (og 10 9 true (.mov (T 1))) <|
.op (og 11 9 true (.mov (T 0))) <|
.op (og 12 9 true (.chk (T 11))) <|
.op (og 13 9 true (.fa 0 (T 12))) <|
.op (og 14 9 true (.fa 0 (T 13))) <|
.op (og 15 9 true (.ld (T 14) none)) <|
.op (og 16 9 true (.len (T 15))) <|
.op (og 17 9 true (.bin .lss (T 10) (T 16))) <|
oc 18 (.pick (T 9) (T 17) (B false)) <|
oc 19 (.mov (T 18)) <|
.op (og 20 19 true (.ld (T 5) (some 3))) <|
.op (og 21 19 true (.call n_a4h [(T 20)])) <|
oc 22 (.pick (T 19) (T 21) (B false)) <|
oc 23 (.mov (T 22)) <|
.op (og 24 23 true (.fa 0 (T 5))) <|
.op (og 25 23 true (.ld (T 24) none)) <|
.op (og 26 23 true (.mov (T 0))) <|
.op (og 27 23 true (.chk (T 26))) <|
.op (og 28 23 true (.fa 0 (T 27))) <|
.op (og 29 23 true (.fa 0 (T 28))) <|
.op (og 30 23 true (.ld (T 29) none)) <|
.op (og 31 23 true (.mov (T 1))) <|
.op (og 32 23 true (.ia 1 (T 30) (T 31))) <|
.op (og 33 23 true (.fa 0 (T 32))) <|
.op (og 34 23 true (.ld (T 33) none)) <|
.op (og 35 23 true (.ia 1 (T 34) (K 0))) <|
.op (og 36 23 true (.ld (T 35) none)) <|
.op (og 37 23 true (.beq false (T 25) (T 36))) <|
oc 38 (.pick (T 23) (T 37) (B false)) <|
oc 6 (.mov (T 38)) <|
.done
def a7d_key : VCode := (.seq (.reg a0g_r0) (.seq (.any a0g_t1) .ret))
theorem a0g_is : fnV prog n_a0g = some (39, a7d_key, [.tmp 6]) := by kernel_rfl
@[simp] def a1g_r0 :LO:=[oo 4 (.box (T 1)),
oo 5 (.box (T 2)),
oo 6 (.mov (B false))]
@[simp] def a1g_t1 : VT :=
 oc 7 (.fa 1 (T 5)) <|
oc 8 (.ld (T 7) none) <|
oc 9 (.bin .geq (T 8) (K 1)) <|
oc 10 (.mov (T 9)) <|
.op (og 11 10 true (.fa 1 (T 5))) <|
.op (og 12 10 true (.ld (T 11) none)) <|
.op (og 13 10 true (.mov (T 0))) <|
.op (og 14 10 true (.chk (T 13))) <|
.op (og 15 10 true (.fa 4 (T 14))) <|
.op (og 16 10 true (.ld (T 15) none)) <|
.op (og 17 10 true (.fa 0 (T 5))) <|
.op (og 18 10 true (.ld (T 17) none)) <|
.op (og 19 10 true (.ld (T 4) (some 4))) <|
.op (og 20 10 true (.build [zi, zi, zb, zi, zs] [(0, 1, (T 18)), (1, 4, (T 19))])) <|
.op (og 21 10 true (.lkp (true, [.i .i64, .i .i64, .b, .i .i64, .s], false) [zi] (T 16) (T 20) false)) <|
.op (og 22 10 true (.bin .leq (T 12) (T 21))) <|
oc 23 (.pick (T 10) (T 22) (B false)) <|
oc 6 (.mov (T 23)) <|
.done
def a7d_version : VCode := (.seq (.reg a1g_r0) (.seq (.any a1g_t1) .ret))
theorem a1g_is : fnV prog n_a1g = some (24, a7d_version, [.tmp 6]) := by kernel_rfl
@[simp] def a2g_r0 :LO:=[oo 2 (.box (T 0)),
oo 3 (.box (T 1)),
oo 4 (.mov (K 0))]
@[simp] def a2g_r1 :LO:=[oo 8 (.ld (T 2) (some 1)),
oo 9 (.call n_a2e [(T 8)]),
oo 5 (.mov (T 9))]
@[simp] def a2g_r2 :LO:=[oo 10 (.mov (T 5)),
oo 11 (.bin .neq (T 10) (K 0))]
@[simp] def a2g_r3 :LO:=[oo 12 (.mov (T 5)),
oo 4 (.mov (T 12))]
@[simp] def a2g_r4 :LO:=[oo 13 (.ld (T 2) (some 1)),
oo 14 (.build [.nil 1, zb] [(0, 1, (T 13))]),
oo 15 (.box (T 14)),
oo 6 (.mov (T 15))]
@[simp] def a2g_r5 :LO:=[oo 16 (.mov (T 6)),
oo 17 (.mkfn n_a5h [(T 16)] []),
oo 7 (.mov (T 17))]
@[simp] def a2g_r6 :LO:=[oo 18 (.ld (T 3) (some 9)),
oo 19 (.mov (T 7)),
oo 20 (.call n_a7h [(T 18), (T 19)])]
@[simp] def a2g_r7 :LO:=[oo 21 (.mov (T 6)),
oo 22 (.chk (T 21)),
oo 23 (.fa 1 (T 22)),
oo 24 (.ld (T 23) none),
oo 25 (.mov (T 24)),
og 26 25 false (.ld (T 3) (some 9)),
og 27 25 false (.call n_a8h [(T 26)]),
og 28 25 false (.bin .gtr (T 27) (K 15)),
oo 29 (.pick (T 25) (B true) (T 28))]
@[simp] def a2g_r8 :LO:=[oo 4 (.mov (K 30))]
@[simp] def a2g_r9 :LO:=[oo 4 (.mov (K 0))]
def a2g : VCode := (.seq (.reg a2g_r0) (.seq (.seq (.reg a2g_r1) (.seq (.reg a2g_r2) (.cond (T 11) (.seq (.reg a2g_r3) .ret) .skip))) (.seq (.reg a2g_r4) (.seq (.reg a2g_r5) (.seq (.reg a2g_r6) (.seq (.seq (.reg a2g_r7) (.cond (T 29) (.seq (.reg a2g_r8) .ret) .skip)) (.seq (.reg a2g_r9) .ret)))))))
theorem a2g_is : fnV prog n_a2g = some (30, a2g, [.tmp 4]) := by kernel_rfl
@[simp] def a3g_r0 :LO:=[oo 2 (.box (T 0)),
oo 4 (.mov (B false))]
@[simp] def a3g_r1 :LO:=[oo 7 (.ld (T 2) (some 1)),
oo 8 (.call n_a2e [(T 7)]),
oo 9 (.bin .neq (T 8) (K 0)),
oo 10 (.mov (T 9)),
og 11 10 false (.mov (T 1)),
og 12 10 false (.len (T 11)),
og 13 10 false (.fa 0 (T 2)),
og 14 10 false (.ld (T 13) none),
og 15 10 false (.len (T 14)),
og 16 10 false (.bin .neq (T 12) (T 15)),
oo 17 (.pick (T 10) (B true) (T 16))]
@[simp] def a3g_r2 :LO:=[oo 4 (.mov (B false))]
@[simp] def a3g_r3 :LO:=[oo 18 (.mov (T 1)),
oo 19 (.len (T 18)),
oo 20 (.mov (K 0))]
@[simp] def a3g_r4 :LO:=[oo 21 (.bin .lss (T 20) (T 19))]
@[simp] def a3g_r5 :LO:=[oo 22 (.mov (T 20)),
oo 23 (.ia 3 (T 18) (T 20)),
oo 24 (.ld (T 23) (some 3)),
oo 6 (.alloc [zb, zi, zs]),
oo 5 (.mov (T 22)),
on (.st (T 6) (T 24) 3)]
@[simp] def a3g_t6 : VT :=
 oc 25 (.fa 0 (T 6)) <|
oc 26 (.ld (T 25) none) <|
oc 27 (.fa 0 (T 2)) <|
oc 28 (.ld (T 27) none) <|
oc 29 (.mov (T 5)) <|
oc 30 (.ia 1 (T 28) (T 29)) <|
oc 31 (.ld (T 30) none) <|
oc 32 (.beq true (T 26) (T 31)) <|
oc 33 (.mov (T 32)) <|
.op (og 34 33 false (.ld (T 6) (some 3))) <|
.op (og 35 33 false (.call n_a4h [(T 34)])) <|
.op (og 36 33 false (.un .not (T 35))) <|
oc 37 (.pick (T 33) (B true) (T 36)) <|
.done
@[simp] def a3g_r7 :LO:=[oo 4 (.mov (B false))]
@[simp] def a3g_r8 :LO:=[oo 38 (.bin .add (T 20) (K 1)),
oo 20 (.mov (T 38))]
def a3g_l9 : VCode :=
 (.seq (.reg a3g_r4) (.seq (.cond (T 21) .skip (.exit 0)) (.seq (.block 1 (.seq (.reg a3g_r5) (.seq (.any a3g_t6) (.cond (T 37) (.seq (.reg a3g_r7) .ret) .skip)))) (.reg a3g_r8))))
@[simp] def a3g_r10 :LO:=[oo 4 (.mov (B true))]
def a3g : VCode := (.seq (.reg a3g_r0) (.seq (.seq (.reg a3g_r1) (.cond (T 17) (.seq (.reg a3g_r2) .ret) .skip)) (.seq (.seq (.reg a3g_r3) (.block 0 (.loop a3g_l9))) (.seq (.reg a3g_r10) .ret))))
theorem a3g_is : fnV prog n_a3g = some (39, a3g, [.tmp 4]) := by kernel_rfl
@[simp] def a4g_r0 :LO:=[oo 2 (.box (T 0)),
oo 3 (.mov (B false))]
@[simp] def a4g_r1 :LO:=[oo 4 (.ld (T 2) (some 9)),
oo 5 (.ld (T 1) none),
oo 6 (.call n_a9e [(T 4), (T 5)]),
oo 3 (.mov (T 6))]
def a4g : VCode := (.seq (.reg a4g_r0) (.seq (.reg a4g_r1) .ret))
theorem a4g_is : fnV prog n_a4g = some (7, a4g, [.tmp 3]) := by kernel_rfl
@[simp] def a5g_r0 :LO:=[oo 2 (.box (T 0)),
oo 4 (.mov (B false))]
@[simp] def a5g_r1 :LO:=[oo 6 (.fa 1 (T 2)),
oo 7 (.ld (T 6) none),
oo 8 (.bin .lss (T 7) (K 0)),
oo 9 (.mov (T 8)),
og 10 9 false (.fa 1 (T 2)),
og 11 9 false (.ld (T 10) none),
og 12 9 false (.mov (T 1)),
og 13 9 false (.len (T 12)),
og 14 9 false (.bin .geq (T 11) (T 13)),
oo 15 (.pick (T 9) (B true) (T 14))]
@[simp] def a5g_r2 :LO:=[oo 4 (.mov (B false))]
@[simp] def a5g_t3 : VT :=
 oc 16 (.mov (T 1)) <|
oc 17 (.fa 1 (T 2)) <|
oc 18 (.ld (T 17) none) <|
oc 19 (.ia 3 (T 16) (T 18)) <|
oc 20 (.ld (T 19) (some 3)) <|
oc 21 (.fa 2 (T 2)) <|
oc 22 (.ld (T 21) (some 3)) <|
oc 23 (.call n_a6c [(T 20), (T 22)]) <|
oc 5 (.mov (T 23)) <|
.done
@[simp] def a5g_r4 :LO:=[oo 24 (.fa 0 (T 2)),
oo 25 (.ld (T 24) none)]
@[simp] def a5g_r5 :LO:=[oo 27 (.bin .eql (T 25) (K 3)),
oo 26 (.mov (T 27))]
@[simp] def a5g_r6 :LO:=[oo 28 (.mov (T 5)),
oo 29 (.bin .eql (T 28) (K 0)),
oo 4 (.mov (T 29))]
@[simp] def a5g_r7 :LO:=[oo 31 (.bin .eql (T 25) (K 4)),
oo 30 (.mov (T 31))]
@[simp] def a5g_r8 :LO:=[oo 32 (.mov (T 5)),
oo 33 (.bin .neq (T 32) (K 0)),
oo 4 (.mov (T 33))]
@[simp] def a5g_r9 :LO:=[oo 35 (.bin .eql (T 25) (K 5)),
oo 34 (.mov (T 35))]
@[simp] def a5g_r10 :LO:=[oo 36 (.mov (T 5)),
oo 37 (.bin .lss (T 36) (K 0)),
oo 4 (.mov (T 37))]
@[simp] def a5g_r11 :LO:=[oo 39 (.bin .eql (T 25) (K 6)),
oo 38 (.mov (T 39))]
@[simp] def a5g_r12 :LO:=[oo 40 (.mov (T 5)),
oo 41 (.bin .leq (T 40) (K 0)),
oo 4 (.mov (T 41))]
@[simp] def a5g_r13 :LO:=[oo 43 (.bin .eql (T 25) (K 7)),
oo 42 (.mov (T 43))]
@[simp] def a5g_r14 :LO:=[oo 44 (.mov (T 5)),
oo 45 (.bin .gtr (T 44) (K 0)),
oo 4 (.mov (T 45))]
@[simp] def a5g_r15 :LO:=[oo 47 (.bin .eql (T 25) (K 8)),
oo 46 (.mov (T 47))]
@[simp] def a5g_r16 :LO:=[oo 48 (.mov (T 5)),
oo 49 (.bin .geq (T 48) (K 0)),
oo 4 (.mov (T 49))]
@[simp] def a5g_t17 : VT :=
 oc 50 (.mov (T 5)) <|
oc 51 (.bin .geq (T 50) (K 0)) <|
oc 52 (.mov (T 51)) <|
.op (og 53 52 true (.mov (T 1))) <|
.op (og 54 52 true (.fa 1 (T 2))) <|
.op (og 55 52 true (.ld (T 54) none)) <|
.op (og 56 52 true (.ia 3 (T 53) (T 55))) <|
.op (og 57 52 true (.ld (T 56) (some 3))) <|
.op (og 58 52 true (.fa 5 (T 2))) <|
.op (og 59 52 true (.ld (T 58) (some 3))) <|
.op (og 60 52 true (.call n_a6c [(T 57), (T 59)])) <|
.op (og 61 52 true (.bin .leq (T 60) (K 0))) <|
oc 62 (.pick (T 52) (T 61) (B false)) <|
oc 4 (.mov (T 62)) <|
.done
def b3W : VCode := (.seq (.reg a5g_r0) (.seq (.seq (.reg a5g_r1) (.cond (T 15) (.seq (.reg a5g_r2) .ret) .skip)) (.seq (.any a5g_t3) (.seq (.seq (.reg a5g_r4) (.block 0 (.seq (.reg a5g_r5) (.cond (T 26) (.seq (.reg a5g_r6) .ret) (.seq (.reg a5g_r7) (.cond (T 30) (.seq (.reg a5g_r8) .ret) (.seq (.reg a5g_r9) (.cond (T 34) (.seq (.reg a5g_r10) .ret) (.seq (.reg a5g_r11) (.cond (T 38) (.seq (.reg a5g_r12) .ret) (.seq (.reg a5g_r13) (.cond (T 42) (.seq (.reg a5g_r14) .ret) (.seq (.reg a5g_r15) (.cond (T 46) (.seq (.reg a5g_r16) .ret) .skip)))))))))))))) (.seq (.any a5g_t17) .ret)))))
theorem a5g_is : fnV prog n_a5g = some (63, b3W, [.tmp 4]) := by kernel_rfl
@[simp] def a6g_r0 :LO:=[oo 4 (.mov (B false))]
@[simp] def a6g_r1 :LO:=[oo 5 (.mov (T 0)),
oo 6 (.mov (T 1)),
oo 7 (.call n_a9h [(T 5), (T 6)]),
oo 8 (.bin .geq (T 7) (K 0)),
oo 4 (.mov (T 8))]
def a6g : VCode := (.seq (.reg a6g_r0) (.seq (.reg a6g_r1) .ret))
theorem a6g_is : fnV prog n_a6g = some (9, a6g, [.tmp 4]) := by kernel_rfl
@[simp] def a7g_r0 :LO:=[oo 2 (.box (T 0)),
oo 3 (.mov (B false))]
@[simp] def a7g_r1 :LO:=[oo 4 (.ld (T 1) none),
oo 5 (.ld (T 2) (some 9)),
oo 6 (.callv (T 4) [(T 5)]),
oo 7 (.un .not (T 6)),
oo 3 (.mov (T 7))]
def a7g : VCode := (.seq (.reg a7g_r0) (.seq (.reg a7g_r1) .ret))
theorem a7g_is : fnV prog n_a7g = some (8, a7g, [.tmp 3]) := by kernel_rfl
@[simp] def a8g_r0 :LO:=[oo 2 (.mov (B false))]
@[simp] def a8g_r1 :LO:=[oo 3 (.mov (T 0)),
oo 4 (.mov (T 0)),
oo 5 (.bin .neq (T 3) (T 4)),
oo 2 (.mov (T 5))]
def a9g_string : VCode := (.seq (.reg a8g_r0) (.seq (.reg a8g_r1) .ret))
theorem a8g_is : fnV prog n_a8g = some (6, a9g_string, [.tmp 2]) := by kernel_rfl
@[simp] def a0h_r0 :LO:=[oo 2 (.mov (B false))]
@[simp] def a0h_r1 :LO:=[oo 3 (.mov (T 0)),
oo 4 (.mov (T 0)),
oo 5 (.bin .neq (T 3) (T 4)),
oo 2 (.mov (T 5))]
def a9g_int64 : VCode := (.seq (.reg a0h_r0) (.seq (.reg a0h_r1) .ret))
theorem a0h_is : fnV prog n_a0h = some (6, a9g_int64, [.tmp 2]) := by kernel_rfl
@[simp] def a1h_r0 :LO:=[oo 2 (.box (T 0)),
oo 4 (.mov (B false))]
@[simp] def a1h_r1 :LO:=[oo 10 (.fa 0 (T 2)),
oo 11 (.ld (T 10) none),
oo 12 (.bin .geq (T 11) (K 3)),
oo 13 (.mov (T 12)),
og 14 13 true (.fa 0 (T 2)),
og 15 13 true (.ld (T 14) none),
og 16 13 true (.bin .leq (T 15) (K 9)),
oo 17 (.pick (T 13) (T 16) (B false))]
@[simp] def a1h_r2 :LO:=[oo 18 (.ld (T 2) (some 9)),
oo 19 (.mov (T 1)),
oo 20 (.call n_a0i [(T 18), (T 19)]),
oo 4 (.mov (T 20))]
@[simp] def a1h_r3 :LO:=[oo 5 (.mov (B true))]
@[simp] def a1h_r4 :LO:=[oo 6 (.mov (B false))]
@[simp] def a1h_r5 :LO:=[oo 7 (.mov (B false))]
@[simp] def a1h_r6 :LO:=[oo 8 (.mov (K 0))]
@[simp] def a1h_r7 :LO:=[oo 21 (.mov (T 8)),
oo 22 (.fa 8 (T 2)),
oo 23 (.ld (T 22) none),
oo 24 (.len (T 23)),
oo 25 (.bin .lss (T 21) (T 24))]
@[simp] def a1h_r8 :LO:=[oo 28 (.fa 8 (T 2)),
oo 29 (.ld (T 28) none),
oo 30 (.mov (T 8)),
oo 31 (.ia 9 (T 29) (T 30)),
oo 32 (.ld (T 31) (some 9)),
oo 33 (.mov (T 1)),
oo 34 (.call n_a1h [(T 32), (T 33)]),
oo 9 (.mov (T 34))]
@[simp] def a1h_r9 :LO:=[oo 35 (.mov (T 5)),
oo 36 (.mov (T 35)),
og 37 36 true (.mov (T 9)),
oo 38 (.pick (T 36) (T 37) (B false)),
oo 5 (.mov (T 38))]
@[simp] def a1h_r10 :LO:=[oo 39 (.mov (T 6)),
oo 40 (.mov (T 39)),
og 41 40 false (.mov (T 9)),
oo 42 (.pick (T 40) (B true) (T 41)),
oo 6 (.mov (T 42))]
@[simp] def a1h_r11 :LO:=[oo 43 (.mov (T 8)),
oo 44 (.bin .eql (T 43) (K 0))]
@[simp] def a1h_r12 :LO:=[oo 45 (.mov (T 9)),
oo 7 (.mov (T 45))]
@[simp] def a1h_r13 :LO:=[oo 26 (.mov (T 8)),
oo 27 (.bin .add (T 26) (K 1)),
oo 8 (.mov (T 27))]
@[simp] def a1h_r15 :LO:=[oo 46 (.fa 0 (T 2)),
oo 47 (.ld (T 46) none)]
@[simp] def a1h_r16 :LO:=[oo 49 (.bin .eql (T 47) (K 1)),
oo 48 (.mov (T 49))]
@[simp] def a1h_r17 :LO:=[oo 4 (.mov (B true))]
@[simp] def a1h_r18 :LO:=[oo 51 (.bin .eql (T 47) (K 10)),
oo 50 (.mov (T 51))]
@[simp] def a1h_r19 :LO:=[oo 52 (.mov (T 7)),
oo 53 (.un .not (T 52)),
oo 4 (.mov (T 53))]
@[simp] def a1h_r20 :LO:=[oo 55 (.bin .eql (T 47) (K 11)),
oo 54 (.mov (T 55))]
@[simp] def a1h_r21 :LO:=[oo 56 (.mov (T 5)),
oo 4 (.mov (T 56))]
@[simp] def a1h_r22 :LO:=[oo 58 (.bin .eql (T 47) (K 12)),
oo 57 (.mov (T 58))]
@[simp] def a1h_r23 :LO:=[oo 59 (.mov (T 6)),
oo 4 (.mov (T 59))]
@[simp] def a1h_r24 :LO:=[oo 4 (.mov (B false))]
@[simp] def a2h_r0 :LO:=[oo 1 (.box (T 0)),
oo 2 (.mov (B false))]
@[simp] def a2h_r1 :LO:=[oo 3 (.fa 0 (T 1)),
oo 4 (.ld (T 3) none)]
@[simp] def a2h_r2 :LO:=[oo 5 (.fa 1 (T 1)),
oo 6 (.ld (T 5) none),
oo 7 (.bin .eql (T 6) (K 0)),
oo 8 (.mov (T 7)),
og 9 8 true (.fa 2 (T 1)),
og 10 8 true (.ld (T 9) none),
og 11 8 true (.lens (T 10)),
og 12 8 true (.bin .leq (T 11) (K 12)),
oo 13 (.pick (T 8) (T 12) (B false)),
oo 2 (.mov (T 13))]
@[simp] def a2h_r3 :LO:=[oo 14 (.fa 2 (T 1)),
oo 15 (.ld (T 14) none),
oo 16 (.bin .eql (T 15) (.const (.string ⟨#[]⟩))),
oo 2 (.mov (T 16))]
def a2h : VCode := (.seq (.reg a2h_r0) (.seq (.seq (.reg a2h_r1) (.cond (T 4) (.seq (.reg a2h_r2) .ret) .skip)) (.seq (.reg a2h_r3) .ret)))
theorem a2h_is : fnV prog n_a2h = some (17, a2h, [.tmp 2]) := by kernel_rfl
@[simp] def a3h_r0 :LO:=[oo 2 (.box (T 0)),
oo 3 (.box (T 1)),
oo 4 (.mov (B false))]
@[simp] def a3h_r1 :LO:=[oo 5 (.mov (K 0))]
@[simp] def a3h_r2 :LO:=[oo 7 (.mov (T 5)),
oo 8 (.fa 8 (T 3)),
oo 9 (.ld (T 8) none),
oo 10 (.len (T 9)),
oo 11 (.bin .lss (T 7) (T 10))]
@[simp] def a3h_t3 : VT :=
 oc 14 (.ld (T 2) (some 1)) <|
oc 15 (.fa 8 (T 3)) <|
oc 16 (.ld (T 15) none) <|
oc 17 (.mov (T 5)) <|
oc 18 (.ia 9 (T 16) (T 17)) <|
oc 19 (.ld (T 18) (some 9)) <|
oc 20 (.call n_a3h [(T 14), (T 19)]) <|
oc 6 (.mov (T 20)) <|
.done
@[simp] def a3h_r4 :LO:=[oo 21 (.mov (T 6)),
oo 22 (.un .not (T 21))]
@[simp] def a3h_r5 :LO:=[oo 4 (.mov (B false))]
@[simp] def a3h_r6 :LO:=[oo 12 (.mov (T 5)),
oo 13 (.bin .add (T 12) (K 1)),
oo 5 (.mov (T 13))]
def a3h_l7 : VCode :=
 (.seq (.seq (.reg a3h_r2) (.cond (T 11) .skip (.exit 0))) (.seq (.block 1 (.seq (.any a3h_t3) (.seq (.reg a3h_r4) (.cond (T 22) (.seq (.reg a3h_r5) .ret) .skip)))) (.reg a3h_r6)))
@[simp] def a3h_r8 :LO:=[oo 23 (.fa 0 (T 3)),
oo 24 (.ld (T 23) none)]
@[simp] def a3h_r9 :LO:=[oo 26 (.bin .eql (T 24) (K 1)),
oo 25 (.mov (T 26))]
@[simp] def a3h_r10 :LO:=[oo 27 (.bin .eql (T 24) (K 2)),
oo 25 (.mov (T 27))]
@[simp] def a3h_r11 :LO:=[oo 28 (.fa 8 (T 3)),
oo 29 (.ld (T 28) none),
oo 30 (.len (T 29)),
oo 31 (.bin .eql (T 30) (K 0)),
oo 4 (.mov (T 31))]
@[simp] def a3h_r12 :LO:=[oo 33 (.bin .eql (T 24) (K 3)),
oo 32 (.mov (T 33))]
@[simp] def a3h_r13 :LO:=[oo 34 (.bin .eql (T 24) (K 4)),
oo 32 (.mov (T 34))]
@[simp] def a3h_r14 :LO:=[oo 35 (.bin .eql (T 24) (K 5)),
oo 32 (.mov (T 35))]
@[simp] def a3h_r15 :LO:=[oo 36 (.bin .eql (T 24) (K 6)),
oo 32 (.mov (T 36))]
@[simp] def a3h_r16 :LO:=[oo 37 (.bin .eql (T 24) (K 7)),
oo 32 (.mov (T 37))]
@[simp] def a3h_r17 :LO:=[oo 38 (.bin .eql (T 24) (K 8)),
oo 32 (.mov (T 38))]
@[simp] def a3h_r18 :LO:=[oo 39 (.fa 8 (T 3)),
oo 40 (.ld (T 39) none),
oo 41 (.len (T 40)),
oo 42 (.bin .eql (T 41) (K 0)),
oo 43 (.mov (T 42)),
og 44 43 true (.ld (T 2) (some 1)),
og 45 43 true (.fa 1 (T 3)),
og 46 43 true (.ld (T 45) none),
og 47 43 true (.fa 2 (T 3)),
og 48 43 true (.ld (T 47) (some 3)),
og 49 43 true (.call n_a1i [(T 44), (T 46), (T 48)]),
oo 50 (.pick (T 43) (T 49) (B false)),
oo 4 (.mov (T 50))]
@[simp] def a3h_r19 :LO:=[oo 52 (.bin .eql (T 24) (K 9)),
oo 51 (.mov (T 52))]
@[simp] def a3h_r20 :LO:=[oo 53 (.fa 8 (T 3)),
oo 54 (.ld (T 53) none),
oo 55 (.len (T 54)),
oo 56 (.bin .eql (T 55) (K 0)),
oo 57 (.mov (T 56)),
og 58 57 true (.ld (T 2) (some 1)),
og 59 57 true (.fa 1 (T 3)),
og 60 57 true (.ld (T 59) none),
og 61 57 true (.fa 2 (T 3)),
og 62 57 true (.ld (T 61) (some 3)),
og 63 57 true (.call n_a1i [(T 58), (T 60), (T 62)]),
oo 64 (.pick (T 57) (T 63) (B false)),
oo 65 (.mov (T 64)),
og 66 65 true (.ld (T 2) (some 1)),
og 67 65 true (.fa 1 (T 3)),
og 68 65 true (.ld (T 67) none),
og 69 65 true (.fa 5 (T 3)),
og 70 65 true (.ld (T 69) (some 3)),
og 71 65 true (.call n_a1i [(T 66), (T 68), (T 70)]),
oo 72 (.pick (T 65) (T 71) (B false)),
oo 4 (.mov (T 72))]
@[simp] def a3h_r21 :LO:=[oo 74 (.bin .eql (T 24) (K 10)),
oo 73 (.mov (T 74))]
@[simp] def a3h_r22 :LO:=[oo 75 (.fa 8 (T 3)),
oo 76 (.ld (T 75) none),
oo 77 (.len (T 76)),
oo 78 (.bin .eql (T 77) (K 1)),
oo 4 (.mov (T 78))]
@[simp] def a3h_r23 :LO:=[oo 80 (.bin .eql (T 24) (K 11)),
oo 79 (.mov (T 80))]
@[simp] def a3h_r24 :LO:=[oo 81 (.bin .eql (T 24) (K 12)),
oo 79 (.mov (T 81))]
@[simp] def a3h_r25 :LO:=[oo 82 (.fa 8 (T 3)),
oo 83 (.ld (T 82) none),
oo 84 (.len (T 83)),
oo 85 (.bin .gtr (T 84) (K 0)),
oo 4 (.mov (T 85))]
@[simp] def a3h_r26 :LO:=[oo 4 (.mov (B false))]
def b4W : VCode := (.seq (.reg a3h_r0) (.seq (.seq (.reg a3h_r1) (.block 0 (.loop a3h_l7))) (.seq (.seq (.reg a3h_r8) (.block 2 (.seq (.seq (.reg a3h_r9) (.cond (T 25) .skip (.reg a3h_r10))) (.cond (T 25) (.seq (.reg a3h_r11) .ret) (.seq (.seq (.reg a3h_r12) (.cond (T 32) .skip (.seq (.reg a3h_r13) (.cond (T 32) .skip (.seq (.reg a3h_r14) (.cond (T 32) .skip (.seq (.reg a3h_r15) (.cond (T 32) .skip (.seq (.reg a3h_r16) (.cond (T 32) .skip (.reg a3h_r17))))))))))) (.cond (T 32) (.seq (.reg a3h_r18) .ret) (.seq (.reg a3h_r19) (.cond (T 51) (.seq (.reg a3h_r20) .ret) (.seq (.reg a3h_r21) (.cond (T 73) (.seq (.reg a3h_r22) .ret) (.seq (.seq (.reg a3h_r23) (.cond (T 79) .skip (.reg a3h_r24))) (.cond (T 79) (.seq (.reg a3h_r25) .ret) .skip)))))))))))) (.seq (.reg a3h_r26) .ret))))
theorem a3h_is : fnV prog n_a3h = some (86, b4W, [.tmp 4]) := by kernel_rfl
@[simp] def a4h_r0 :LO:=[oo 1 (.box (T 0)),
oo 2 (.mov (B false))]
@[simp] def a4h_r1 :LO:=[oo 3 (.fa 0 (T 1)),
oo 4 (.ld (T 3) none)]
@[simp] def a4h_r2 :LO:=[oo 5 (.ld (T 1) (some 3)),
oo 6 (.fa 2 (T 1)),
oo 7 (.ld (T 6) none),
oo 8 (.build [zb, zi, zs] [(0, 1, (B true)), (2, 1, (T 7))]),
oo 9 (.eqs false [.b, .i .i64, .s] (T 5) (T 8)),
oo 10 (.mov (T 9)),
og 11 10 true (.fa 2 (T 1)),
og 12 10 true (.ld (T 11) none),
og 13 10 true (.lens (T 12)),
og 14 10 true (.bin .leq (T 13) (K 12)),
oo 15 (.pick (T 10) (T 14) (B false)),
oo 2 (.mov (T 15))]
@[simp] def a4h_r3 :LO:=[oo 16 (.ld (T 1) (some 3)),
oo 17 (.fa 1 (T 1)),
oo 18 (.ld (T 17) none),
oo 19 (.build [zb, zi, zs] [(1, 1, (T 18))]),
oo 20 (.eqs false [.b, .i .i64, .s] (T 16) (T 19)),
oo 2 (.mov (T 20))]
def a4h : VCode := (.seq (.reg a4h_r0) (.seq (.seq (.reg a4h_r1) (.cond (T 4) (.seq (.reg a4h_r2) .ret) .skip)) (.seq (.reg a4h_r3) .ret)))
theorem a4h_is : fnV prog n_a4h = some (21, a4h, [.tmp 2]) := by kernel_rfl
@[simp] def a5h_r0 :LO:=[oo 3 (.box (T 1))]
@[simp] def a5h_r1 :LO:=[oo 4 (.mov (B false))]
@[simp] def a5h_r2 :LO:=[oo 5 (.fa 0 (T 3)),
oo 6 (.ld (T 5) none)]
@[simp] def a5h_r3 :LO:=[oo 8 (.bin .eql (T 6) (K 1)),
oo 7 (.mov (T 8))]
@[simp] def a5h_r4 :LO:=[oo 9 (.bin .eql (T 6) (K 2)),
oo 7 (.mov (T 9))]
@[simp] def a5h_r5 :LO:=[oo 10 (.fa 8 (T 3)),
oo 11 (.ld (T 10) none),
oo 12 (.len (T 11)),
oo 13 (.bin .eql (T 12) (K 0)),
oo 4 (.mov (T 13))]
@[simp] def a5h_r6 :LO:=[oo 15 (.bin .eql (T 6) (K 3)),
oo 14 (.mov (T 15))]
@[simp] def a5h_r7 :LO:=[oo 16 (.bin .eql (T 6) (K 4)),
oo 14 (.mov (T 16))]
@[simp] def a5h_r8 :LO:=[oo 17 (.bin .eql (T 6) (K 5)),
oo 14 (.mov (T 17))]
@[simp] def a5h_r9 :LO:=[oo 18 (.bin .eql (T 6) (K 6)),
oo 14 (.mov (T 18))]
@[simp] def a5h_r10 :LO:=[oo 19 (.bin .eql (T 6) (K 7)),
oo 14 (.mov (T 19))]
@[simp] def a5h_r11 :LO:=[oo 20 (.bin .eql (T 6) (K 8)),
oo 14 (.mov (T 20))]
@[simp] def a5h_r12 :LO:=[oo 21 (.fa 8 (T 3)),
oo 22 (.ld (T 21) none),
oo 23 (.len (T 22)),
oo 24 (.bin .eql (T 23) (K 0)),
oo 25 (.mov (T 24)),
og 26 25 true (.mov (T 0)),
og 27 25 true (.fa 1 (T 3)),
og 28 25 true (.ld (T 27) none),
og 29 25 true (.fa 2 (T 3)),
og 30 25 true (.ld (T 29) (some 3)),
og 31 25 true (.call n_a2i [(T 26), (T 28), (T 30)]),
oo 32 (.pick (T 25) (T 31) (B false)),
oo 4 (.mov (T 32))]
@[simp] def a5h_r13 :LO:=[oo 34 (.bin .eql (T 6) (K 9)),
oo 33 (.mov (T 34))]
@[simp] def a5h_r14 :LO:=[oo 35 (.fa 8 (T 3)),
oo 36 (.ld (T 35) none),
oo 37 (.len (T 36)),
oo 38 (.bin .eql (T 37) (K 0)),
oo 39 (.mov (T 38)),
og 40 39 true (.mov (T 0)),
og 41 39 true (.fa 1 (T 3)),
og 42 39 true (.ld (T 41) none),
og 43 39 true (.fa 2 (T 3)),
og 44 39 true (.ld (T 43) (some 3)),
og 45 39 true (.call n_a2i [(T 40), (T 42), (T 44)]),
oo 46 (.pick (T 39) (T 45) (B false)),
oo 47 (.mov (T 46)),
og 48 47 true (.mov (T 0)),
og 49 47 true (.fa 1 (T 3)),
og 50 47 true (.ld (T 49) none),
og 51 47 true (.fa 5 (T 3)),
og 52 47 true (.ld (T 51) (some 3)),
og 53 47 true (.call n_a2i [(T 48), (T 50), (T 52)]),
oo 54 (.pick (T 47) (T 53) (B false)),
oo 4 (.mov (T 54))]
@[simp] def a5h_r15 :LO:=[oo 56 (.bin .eql (T 6) (K 10)),
oo 55 (.mov (T 56))]
@[simp] def a5h_r16 :LO:=[oo 57 (.fa 8 (T 3)),
oo 58 (.ld (T 57) none),
oo 59 (.len (T 58)),
oo 60 (.bin .eql (T 59) (K 1)),
oo 4 (.mov (T 60))]
@[simp] def a5h_r17 :LO:=[oo 62 (.bin .eql (T 6) (K 11)),
oo 61 (.mov (T 62))]
@[simp] def a5h_r18 :LO:=[oo 63 (.bin .eql (T 6) (K 12)),
oo 61 (.mov (T 63))]
@[simp] def a5h_r19 :LO:=[oo 64 (.fa 8 (T 3)),
oo 65 (.ld (T 64) none),
oo 66 (.len (T 65)),
oo 67 (.bin .gtr (T 66) (K 0)),
oo 4 (.mov (T 67))]
@[simp] def a5h_r20 :LO:=[oo 68 (.mov (T 0)),
oo 69 (.mov (T 0)),
oo 70 (.chk (T 69)),
oo 71 (.fa 1 (T 70)),
oo 72 (.ld (T 71) none),
oo 73 (.mov (T 72)),
og 74 73 false (.mov (T 4)),
og 75 73 false (.un .not (T 74)),
oo 76 (.pick (T 73) (B true) (T 75)),
oo 77 (.chk (T 68)),
oo 78 (.fa 1 (T 77)),
on (.st (T 78) (T 76) 1)]
def a6h_part : VCode := (.seq (.reg a5h_r0) (.seq (.reg a5h_r1) (.seq (.seq (.reg a5h_r2) (.block 0 (.seq (.seq (.reg a5h_r3) (.cond (T 7) .skip (.reg a5h_r4))) (.cond (T 7) (.reg a5h_r5) (.seq (.seq (.reg a5h_r6) (.cond (T 14) .skip (.seq (.reg a5h_r7) (.cond (T 14) .skip (.seq (.reg a5h_r8) (.cond (T 14) .skip (.seq (.reg a5h_r9) (.cond (T 14) .skip (.seq (.reg a5h_r10) (.cond (T 14) .skip (.reg a5h_r11))))))))))) (.cond (T 14) (.reg a5h_r12) (.seq (.reg a5h_r13) (.cond (T 33) (.reg a5h_r14) (.seq (.reg a5h_r15) (.cond (T 55) (.reg a5h_r16) (.seq (.seq (.reg a5h_r17) (.cond (T 61) .skip (.reg a5h_r18))) (.cond (T 61) (.reg a5h_r19) .skip)))))))))))) (.reg a5h_r20))))
theorem a5h_is : fnV prog n_a5h = some (79, a6h_part, []) := by kernel_rfl
@[simp] def a7h_r0 :LO:=[oo 2 (.box (T 0))]
@[simp] def a7h_r1 :LO:=[oo 6 (.mov (T 1)),
oo 7 (.ld (T 2) (some 9)),
oo 8 (.callv (T 6) [(T 7)])]
@[simp] def a7h_r2 :LO:=[oo 9 (.fa 8 (T 2)),
oo 10 (.ld (T 9) none),
oo 11 (.len (T 10)),
oo 12 (.mov (K 0))]
@[simp] def a7h_r3 :LO:=[oo 13 (.bin .lss (T 12) (T 11))]
@[simp] def a7h_r4 :LO:=[oo 14 (.ia 9 (T 10) (T 12)),
oo 15 (.ld (T 14) (some 9)),
oo 5 (.alloc [zi, zi, zb, zi, zs, zb, zi, zs, .nil 9]),
on (.st (T 5) (T 15) 9)]
@[simp] def a7h_r5 :LO:=[oo 16 (.ld (T 5) (some 9)),
oo 17 (.mov (T 1)),
oo 18 (.call n_a7h [(T 16), (T 17)])]
@[simp] def a7h_r6 :LO:=[oo 19 (.bin .add (T 12) (K 1)),
oo 12 (.mov (T 19))]
def a7h_l7 : VCode :=
 (.seq (.reg a7h_r3) (.seq (.cond (T 13) .skip (.exit 0)) (.seq (.block 1 (.seq (.reg a7h_r4) (.reg a7h_r5))) (.reg a7h_r6))))
def b5W : VCode := (.seq (.reg a7h_r0) (.seq (.reg a7h_r1) (.seq (.reg a7h_r2) (.block 0 (.loop a7h_l7)))))
theorem a7h_is : fnV prog n_a7h = some (20, b5W, []) := by kernel_rfl
@[simp] def a8h_r0 :LO:=[oo 1 (.box (T 0)),
oo 2 (.mov (K 0))]
@[simp] def a8h_r1 :LO:=[oo 3 (.alloc [zi]),
on (.st (T 3) (K 0) 1)]
@[simp] def a8h_r2 :LO:=[oo 4 (.ld (T 1) (some 9)),
oo 5 (.mkfn n_a3i [] [(T 3)]),
oo 6 (.call n_a7h [(T 4), (T 5)])]
@[simp] def a8h_r3 :LO:=[oo 7 (.ld (T 3) none),
oo 2 (.mov (T 7))]
def a8h : VCode := (.seq (.reg a8h_r0) (.seq (.reg a8h_r1) (.seq (.reg a8h_r2) (.seq (.reg a8h_r3) .ret))))
theorem a8h_is : fnV prog n_a8h = some (8, a8h, [.tmp 2]) := by kernel_rfl
@[simp] def a9h_r0 :LO:=[oo 4 (.mov (K 0))]
@[simp] def a9h_r1 :LO:=[oo 6 (.mov (T 0)),
oo 7 (.len (T 6)),
oo 8 (.mov (K 0))]
@[simp] def a9h_r2 :LO:=[oo 9 (.bin .lss (T 8) (T 7))]
@[simp] def a9h_r3 :LO:=[oo 10 (.mov (T 8)),
oo 5 (.mov (T 10))]
@[simp] def a9h_r4 :LO:=[oo 11 (.mov (T 1)),
oo 12 (.mov (T 0)),
oo 13 (.mov (T 5)),
oo 14 (.ia 9 (T 12) (T 13)),
oo 15 (.ld (T 14) (some 9)),
oo 16 (.callv (T 11) [(T 15)])]
@[simp] def a9h_r5 :LO:=[oo 17 (.mov (T 5)),
oo 4 (.mov (T 17))]
@[simp] def a9h_r6 :LO:=[oo 18 (.bin .add (T 8) (K 1)),
oo 8 (.mov (T 18))]
def a9h_l7 : VCode :=
 (.seq (.reg a9h_r2) (.seq (.cond (T 9) .skip (.exit 0)) (.seq (.block 1 (.seq (.reg a9h_r3) (.seq (.reg a9h_r4) (.cond (T 16) (.seq (.reg a9h_r5) .ret) .skip)))) (.reg a9h_r6))))
@[simp] def a9h_r8 :LO:=[oo 4 (.mov (K (-1)))]
def a9h : VCode := (.seq (.reg a9h_r0) (.seq (.seq (.reg a9h_r1) (.block 0 (.loop a9h_l7))) (.seq (.reg a9h_r8) .ret)))
theorem a9h_is : fnV prog n_a9h = some (19, a9h, [.tmp 4]) := by kernel_rfl
@[simp] def a0i_r0 :LO:=[oo 2 (.box (T 0)),
oo 4 (.mov (B false))]
@[simp] def a0i_r1 :LO:=[oo 7 (.fa 1 (T 2)),
oo 8 (.ld (T 7) none),
oo 9 (.bin .lss (T 8) (K 0)),
oo 10 (.mov (T 9)),
og 11 10 false (.fa 1 (T 2)),
og 12 10 false (.ld (T 11) none),
og 13 10 false (.mov (T 1)),
og 14 10 false (.len (T 13)),
og 15 10 false (.bin .geq (T 12) (T 14)),
oo 16 (.pick (T 10) (B true) (T 15))]
@[simp] def a0i_r2 :LO:=[oo 4 (.mov (B false))]
@[simp] def a0i_r3 :LO:=[oo 17 (.mov (T 1)),
oo 18 (.fa 1 (T 2)),
oo 19 (.ld (T 18) none),
oo 20 (.ia 3 (T 17) (T 19)),
oo 21 (.ld (T 20) (some 3)),
oo 5 (.alloc [zb, zi, zs]),
on (.st (T 5) (T 21) 3)]
@[simp] def a0i_r4 :LO:=[oo 22 (.ld (T 5) (some 3)),
oo 23 (.fa 2 (T 2)),
oo 24 (.ld (T 23) (some 3)),
oo 25 (.call n_a3f [(T 22), (T 24)]),
oo 6 (.mov (T 25))]
@[simp] def a0i_r5 :LO:=[oo 26 (.fa 0 (T 2)),
oo 27 (.ld (T 26) none)]
@[simp] def a0i_r6 :LO:=[oo 29 (.bin .eql (T 27) (K 3)),
oo 28 (.mov (T 29))]
@[simp] def a0i_r7 :LO:=[oo 30 (.mov (T 6)),
oo 31 (.bin .eql (T 30) (K 0)),
oo 4 (.mov (T 31))]
@[simp] def a0i_r8 :LO:=[oo 33 (.bin .eql (T 27) (K 4)),
oo 32 (.mov (T 33))]
@[simp] def a0i_r9 :LO:=[oo 34 (.mov (T 6)),
oo 35 (.bin .neq (T 34) (K 0)),
oo 4 (.mov (T 35))]
@[simp] def a0i_r10 :LO:=[oo 37 (.bin .eql (T 27) (K 5)),
oo 36 (.mov (T 37))]
@[simp] def a0i_r11 :LO:=[oo 38 (.mov (T 6)),
oo 39 (.bin .lss (T 38) (K 0)),
oo 4 (.mov (T 39))]
@[simp] def a0i_r12 :LO:=[oo 41 (.bin .eql (T 27) (K 6)),
oo 40 (.mov (T 41))]
@[simp] def a0i_r13 :LO:=[oo 42 (.mov (T 6)),
oo 43 (.bin .leq (T 42) (K 0)),
oo 4 (.mov (T 43))]
@[simp] def a0i_r14 :LO:=[oo 45 (.bin .eql (T 27) (K 7)),
oo 44 (.mov (T 45))]
@[simp] def a0i_r15 :LO:=[oo 46 (.mov (T 6)),
oo 47 (.bin .gtr (T 46) (K 0)),
oo 4 (.mov (T 47))]
@[simp] def a0i_r16 :LO:=[oo 49 (.bin .eql (T 27) (K 8)),
oo 48 (.mov (T 49))]
@[simp] def a0i_r17 :LO:=[oo 50 (.mov (T 6)),
oo 51 (.bin .geq (T 50) (K 0)),
oo 4 (.mov (T 51))]
@[simp] def a0i_r18 :LO:=[oo 52 (.mov (T 6)),
oo 53 (.bin .geq (T 52) (K 0)),
oo 54 (.mov (T 53)),
og 55 54 true (.ld (T 5) (some 3)),
og 56 54 true (.fa 5 (T 2)),
og 57 54 true (.ld (T 56) (some 3)),
og 58 54 true (.call n_a3f [(T 55), (T 57)]),
og 59 54 true (.bin .leq (T 58) (K 0)),
oo 60 (.pick (T 54) (T 59) (B false)),
oo 4 (.mov (T 60))]
@[simp] def a1i_r0 :LO:=[oo 3 (.box (T 0)),
oo 5 (.box (T 2)),
oo 6 (.mov (B false))]
@[simp] def a1i_r1 :LO:=[oo 8 (.ld (T 5) (some 3)),
oo 9 (.call n_a2h [(T 8)]),
oo 7 (.mov (T 9))]
@[simp] def a1i_t2 : VT :=
 oc 10 (.mov (T 1)) <|
oc 11 (.bin .geq (T 10) (K 0)) <|
oc 12 (.mov (T 11)) <|
.op (og 13 12 true (.mov (T 1))) <|
.op (og 14 12 true (.fa 0 (T 3))) <|
.op (og 15 12 true (.ld (T 14) none)) <|
.op (og 16 12 true (.len (T 15))) <|
.op (og 17 12 true (.bin .lss (T 13) (T 16))) <|
oc 18 (.pick (T 12) (T 17) (B false)) <|
oc 19 (.mov (T 18)) <|
.op (og 20 19 true (.mov (T 7))) <|
oc 21 (.pick (T 19) (T 20) (B false)) <|
oc 22 (.mov (T 21)) <|
.op (og 23 22 true (.fa 0 (T 5))) <|
.op (og 24 22 true (.ld (T 23) none)) <|
.op (og 25 22 true (.fa 0 (T 3))) <|
.op (og 26 22 true (.ld (T 25) none)) <|
.op (og 27 22 true (.mov (T 1))) <|
.op (og 28 22 true (.ia 1 (T 26) (T 27))) <|
.op (og 29 22 true (.ld (T 28) none)) <|
.op (og 30 22 true (.beq false (T 24) (T 29))) <|
oc 31 (.pick (T 22) (T 30) (B false)) <|
oc 6 (.mov (T 31)) <|
.done
def b6W : VCode := (.seq (.reg a1i_r0) (.seq (.reg a1i_r1) (.seq (.any a1i_t2) .ret)))
theorem a1i_is : fnV prog n_a1i = some (32, b6W, [.tmp 6]) := by kernel_rfl
@[simp] def a2i_r0 :LO:=[oo 5 (.box (T 2)),
oo 6 (.mov (B false))]
@[simp] def a2i_t1 : VT :=
 oc 7 (.mov (T 1)) <|
oc 8 (.bin .geq (T 7) (K 0)) <|
oc 9 (.mov (T 8)) <|
.op (og 10 9 true (.mov (T 1))) <|
.op (og 11 9 true (.mov (T 0))) <|
.op (og 12 9 true (.chk (T 11))) <|
.op (og 13 9 true (.fa 0 (T 12))) <|
.op (og 14 9 true (.fa 0 (T 13))) <|
.op (og 15 9 true (.ld (T 14) none)) <|
.op (og 16 9 true (.len (T 15))) <|
.op (og 17 9 true (.bin .lss (T 10) (T 16))) <|
oc 18 (.pick (T 9) (T 17) (B false)) <|
oc 19 (.mov (T 18)) <|
.op (og 20 19 true (.fa 0 (T 5))) <|
.op (og 21 19 true (.ld (T 20) none)) <|
.op (og 22 19 true (.mov (T 0))) <|
.op (og 23 19 true (.chk (T 22))) <|
.op (og 24 19 true (.fa 0 (T 23))) <|
.op (og 25 19 true (.fa 0 (T 24))) <|
.op (og 26 19 true (.ld (T 25) none)) <|
.op (og 27 19 true (.mov (T 1))) <|
.op (og 28 19 true (.ia 1 (T 26) (T 27))) <|
.op (og 29 19 true (.ld (T 28) none)) <|
.op (og 30 19 true (.beq false (T 21) (T 29))) <|
oc 31 (.pick (T 19) (T 30) (B false)) <|
oc 32 (.mov (T 31)) <|
.op (og 33 32 true (.ld (T 5) (some 3))) <|
.op (og 34 32 true (.call n_a4h [(T 33)])) <|
oc 35 (.pick (T 32) (T 34) (B false)) <|
oc 6 (.mov (T 35)) <|
.done
def a6h_of : VCode := (.seq (.reg a2i_r0) (.seq (.any a2i_t1) .ret))
theorem a2i_is : fnV prog n_a2i = some (36, a6h_of, [.tmp 6]) := by kernel_rfl
@[simp] def a3i_r0 :LO:=[oo 2 (.box (T 0))]
@[simp] def a3i_r1 :LO:=[oo 3 (.ld (T 1) none),
oo 4 (.bin .add (T 3) (K 1)),
on (.st (T 1) (T 4) 1)]
def a3i : VCode := (.seq (.reg a3i_r0) (.reg a3i_r1))
theorem a3i_is : fnV prog n_a3i = some (5, a3i, []) := by kernel_rfl
end Go.Rt
end

section
namespace Go.Vm
theorem c9e {P : Program} {d : Nat} {f : FuncId} {pre post : List CapV} {ops : List Operand} {y : Option Operand} {s : St} {K K' : St → AV → Prop} (hK : ∀ s x, K s x → K' s x)
   (h : b7U P d f pre ops post y s K) : b7U P d f pre ops post y s K' := by
 unfold b7U at *
 obtain ⟨s0, h0, fr, H, R, s1, a, b, as1, d, c, k⟩ := h
 exact ⟨s0, h0, fr, H, R, s1, a, b, as1, d, c, fun r K e => hK _ _ (k r K e)⟩
theorem c0f {P : Program} {l : Nat} {ops : List Operand} {s : St} {K K' : St → AV → Prop} (hK : ∀ s x, K s x → K' s x) (h : b3U P l ops s K) : b3U P l ops s K' := by
 obtain ⟨s1, g, Z, b, Z', xs, h1, h2, h3, h4, h5⟩ := h
 exact ⟨s1, g, Z, b, Z', xs, h1, h2, h3, h4, hK _ _ h5⟩
theorem c1f {P : Program} {d : Nat} {s : St} {K K' : St → AV → Prop} (hK : ∀ s x, K s x → K' s x) (r : Rhs) : stp P d s K r → stp P d s K' r := by
 unfold stp
 repeat' split
 all_goals intro h
 all_goals first
   | exact hK _ _ h
   | exact h.elim
   | exact ⟨h.1, hK _ _ h.2⟩
   | exact ⟨h.1, h.2.1, hK _ _ h.2.2⟩
   | exact ⟨h.1, h.2.1, h.2.2.1, hK _ _ h.2.2.2⟩
   | exact ⟨h.1, h.2.1, h.2.2.1, h.2.2.2.1, hK _ _ h.2.2.2.2⟩
   | exact ⟨h.1, h.2.1, h.2.2.1, h.2.2.2.1, h.2.2.2.2.1, hK _ _ h.2.2.2.2.2⟩
   | exact ⟨h.1, h.2.1, h.2.2.1, h.2.2.2.1, h.2.2.2.2.1, h.2.2.2.2.2.1, hK _ _ h.2.2.2.2.2.2⟩
   | exact ⟨h.1, h.2.1, h.2.2.1, h.2.2.2.1, h.2.2.2.2.1, h.2.2.2.2.2.1, h.2.2.2.2.2.2.1, hK _ _ h.2.2.2.2.2.2.2⟩
   | exact ⟨h.1, h.2.1, h.2.2.1, h.2.2.2.1, h.2.2.2.2.1, h.2.2.2.2.2.1, h.2.2.2.2.2.2.1, h.2.2.2.2.2.2.2.1, hK _ _ h.2.2.2.2.2.2.2.2⟩
   | exact fun b hb => hK _ _ (h b hb)
   | exact fun c hc => hK _ _ (h c hc)
   | exact ⟨h.1, h.2.1, fun n => hK _ _ (h.2.2 n)⟩
   | exact ⟨h.1, fun L a b c => hK _ _ (h.2 L a b c)⟩
   | exact ⟨fun e => hK _ _ (h.1 e), fun k c a b e => hK _ _ (h.2 k c a b e)⟩
   | exact c9e hK h
   | exact ⟨h.1, c9e hK h.2⟩
   | exact ⟨h.1, h.2.1, c0f hK h.2.2⟩
   | exact h
theorem c2f {P : Program} : ∀ {l : List VOp} {s : St} {K K' : St → Prop}, (∀ s, K s → K' s) → vops P l s K → vops P l s K'
 | [], s, K, K', hK, h => hK _ h
 | o :: r, s, K, K', hK, h => c9u (fun _ h => c2f hK h) (fun _ _ _ _ hK _ => c1f hK _) h
theorem c3f {P : Program} : ∀ {t : VT} {s : St} {K K' : St → Prop}, (∀ s, K s → K' s) → d0b P t s K → d0b P t s K'
 | .done, s, K, K', hK, h => hK _ h
 | .op o t, s, K, K', hK, h => c9u (fun _ h => c3f hK h) (fun _ _ _ _ hK _ => c1f hK _) h
 | .alt a b, s, K, K', hK, h => ⟨c3f hK h.1, c3f hK h.2⟩
theorem c4f {P : Program} (c : VCode) : ∀ {s : St} {O O' : Outs}, (∀ s, O.n s → O'.n s) → (∀ i s, O.x i s → O'.x i s) → (∀ s, O.r s → O'.r s) → (∀ i s, O.g i s → O'.g i s) → wpV P c s O → wpV P c s O' := by
 induction c with
 | skip => exact fun hn hx hr hg h => hn _ h
 | reg ops => exact fun hn hx hr hg h => c2f hn h
 | any t => exact fun hn hx hr hg h => c3f hn h
 | seq a b iha ihb =>
   intro s O O' hn hx hr hg h
   exact iha (O := { O with n := fun s' => wpV P b s' O }) (O' := { O' with n := fun s' => wpV P b s' O' }) (fun _ h => ihb hn hx hr hg h) hx hr hg h
 | cond x t e iht ihe =>
   intro s O O' hn hx hr hg h
   simp only [wpV] at h ⊢
   split at h
   · exact ⟨fun hb => iht hn hx hr hg (h.1 hb), fun hb => ihe hn hx hr hg (h.2 hb)⟩
   · exact h.elim
 | block id c ih =>
   intro s O O' hn hx hr hg h
   refine ih (O := { O with x := fun j s' => if j = id then O.n s' else O.x j s' }) (O' := { O' with x := fun j s' => if j = id then O'.n s' else O'.x j s' }) hn (fun i s h => ?_) hr hg h
   simp only at h ⊢
   split
   · rw [if_pos (by assumption)] at h; exact hn _ h
   · rw [if_neg (by assumption)] at h; exact hx _ _ h
 | loop c ih =>
   intro s O O' hn hx hr hg h
   obtain ⟨I, hi, h⟩ := h
   exact ⟨I, hi, fun k s' hs => ih (O := { O with n := fun s2 => ∃ m s3, m < k ∧ Le s2 s3 ∧ I m s3 }) (O' := { O' with n := fun s2 => ∃ m s3, m < k ∧ Le s2 s3 ∧ I m s3 }) (fun _ h => h) hx hr hg (h k s' hs)⟩
 | exit id => exact fun hn hx hr hg h => hx _ _ h
 | ret => exact fun hn hx hr hg h => hr _ h
 | goto l => exact fun hn hx hr hg h => hg _ _ h
 | scope c ih =>
   intro s O O' hn hx hr hg h
   exact ih (O := { O with g := fun _ _ => False }) (O' := { O' with g := fun _ _ => False }) hn hx hr (fun _ _ h => h) h
 | scopeL c l r ihc ihr =>
   intro s O O' hn hx hr hg h
   exact ihc (O := { O with g := fun l' s' => l' = l ∧ wpV P r s' { O with g := fun _ _ => False } }) (O' := { O' with g := fun l' s' => l' = l ∧ wpV P r s' { O' with g := fun _ _ => False } }) hn hx hr
     (fun _ _ h => ⟨h.1, ihr (O := { O with g := fun _ _ => False }) (O' := { O' with g := fun _ _ => False }) hn hx hr (fun _ _ h => h) h.2⟩) h
 | rng g ps x y ihx ihy => exact fun hn hx hr hg h => d1t ihx ihy hn hx hr h
end Go.Vm
end

section
namespace Go.Vm
class Tg {α : Type} (x : α) : Type where
 mk ::
instance tg {α : Type} (x : α) : Tg x := ⟨⟩
def a7S (P : Program) (d : Nat) (f : FuncId) (pre : List CapV) (ops : List Operand) (post : List CapV) (y : Option Operand) (s : St) (K : St → AV → Prop) [Tg K] : Prop := b7U P d f pre ops post y s K
def rngW (P : Program) (g : Operand) (ps : List Nat) (x y : VCode) (s : St) (O : Outs) [Tg x] [Tg y] [Tg O] : Prop := rngV P (wpV P x) (wpV P y) g ps s O
def a8S (P : Program) (l : Nat) (ops : List Operand) (s : St) (K : St → AV → Prop) [Tg K] : Prop := b3U P l ops s K
def a9S (P : Program) (c : VCode) (s : St) (O : Outs) [Tg c] [Tg O] : Prop := loopV (wpV P c) s O
def onB (x : AV) (K : Bool → Prop) [Tg K] : Prop := match x with | .iv (.v (.bool b)) => K b | _ => False
def onG (x : AV) (K : Bool → Prop) [Tg K] (U : Prop) : Prop := match x with | .iv (.v (.bool b)) => K b | .un => U | _ => False
def onD (x : AV) (A B : Prop) [Tg A] [Tg B] : Prop := match x with | .iv (.v (.bool b)) => (b = true → A) ∧ (b = false → B) | _ => False
def onH (x : AV) (b : Bool) (A B U : Prop) [Tg A] [Tg B] [Tg U] : Prop := match x with | .iv (.v (.bool c)) => (c = b → A) ∧ (c = !b → B) | .un => U | _ => False
def onSt (s : St) (K : St → Prop) [Tg K] : Prop := K s
def onV (x : AV) (K : Value → Prop) [Tg K] : Prop := match x with | .iv (.v u) => K u | _ => False
def onI (x : AV) (K : Int → Prop) [Tg K] : Prop := match x with | .iv (.v (.int _ m)) => K m | _ => False
def onT (x : AV) (K : ByteArray → Prop) [Tg K] : Prop := match x with | .iv (.v (.string t)) => K t | _ => False
def onS {α : Type} (x : Option α) (K : α → Prop) [Tg K] : Prop := match x with | some y => K y | none => False
def a0T (x : AV) (K : List AV → Prop) [Tg K] : Prop := match x with | .agg cs => K cs | _ => False
def a1T (x : AV) (K : List AV → Prop) [Tg K] : Prop := match x with | .tup cs => K cs | _ => False
def a2T (x : Option Ob) (K : List AV → Prop) [Tg K] : Prop := match x with | some (.box cs) => K cs | _ => False
def a3T (x : Option Ob) (K : Nat → List (List IV) → Prop) [Tg K] : Prop := match x with | some (.list sz xs) => K sz xs | _ => False
def onL2 (x : Option Ob) (K : Nat → List (List IV) → Prop) (K2 : Nat → List (List (List IV)) → Option Nat → Prop) [Tg K] [Tg K2] : Prop := match x with | some (.list sz xs) => K sz xs | some (.listo sz xs hole) => K2 sz xs hole | _ => False
def a4T (x : AV) (K : Nat → Nat → Nat → Nat → Prop) [Tg K] : Prop := match x with | .sl a b c d => K a b c d | _ => False
def a5T (x : Option Ob) (K : Sk → (List Value → Option (List IV)) → Prop) [Tg K] : Prop := match x with | some (.map sk g) => K sk g | _ => False
def a6T (x : Option Ob) (K : Sk → (List Value → Option (List IV)) → Int → List Value → Prop) [Tg K] : Prop := match x with | some (.mapS sk g n k) => K sk g n k | _ => False
def a7T (x : Option Ob) (K : Sk → (List Value → Option (List IV)) → List (List Value) → Option (List Value) → Prop) [Tg K] : Prop := match x with | some (.iter sk g l k) => K sk g l k | _ => False
def a8T (x : AV) (K : Nat → Prop) [Tg K] : Prop := match x with | .mpr id => K id | _ => False
section
variable {P : Program} {d id off : Nat} {s : St} {K : St → AV → Prop} {K1 : St → Prop} {x y : Operand}
@[simp] theorem onB_b {b : Bool} {K : Bool → Prop} : onB (.iv (.v (.bool b))) K ↔ K b := ⟨id, id⟩
@[simp] theorem onG_b {b : Bool} {K : Bool → Prop} {U : Prop} : onG (.iv (.v (.bool b))) K U ↔ K b := ⟨id, id⟩
@[simp] theorem a9T {K : Bool → Prop} {U : Prop} : onG .un K U ↔ U := ⟨id, id⟩
@[simp] theorem onD_t {A B : Prop} : onD (.iv (.v (.bool true))) A B ↔ A := by simp [onD]
@[simp] theorem onD_f {A B : Prop} : onD (.iv (.v (.bool false))) A B ↔ B := by simp [onD]
@[simp low] theorem onD_b {b : Bool} {A B : Prop} : onD (.iv (.v (.bool b))) A B ↔ (b = true → A) ∧ (b = false → B) := ⟨fun h => h, fun h => h⟩
@[simp] theorem a0U {A B U : Prop} : onH (.iv (.v (.bool true))) true A B U ↔ A := by simp [onH]
@[simp] theorem a1U {A B U : Prop} : onH (.iv (.v (.bool true))) false A B U ↔ B := by simp [onH]
@[simp] theorem a2U {A B U : Prop} : onH (.iv (.v (.bool false))) true A B U ↔ B := by simp [onH]
@[simp] theorem a3U {A B U : Prop} : onH (.iv (.v (.bool false))) false A B U ↔ A := by simp [onH]
@[simp] theorem a4U {b : Bool} {A B U : Prop} : onH .un b A B U ↔ U := ⟨fun h => h, fun h => h⟩
@[simp low] theorem onH_t {c : Bool} {A B U : Prop} : onH (.iv (.v (.bool c))) true A B U ↔ (c = true → A) ∧ (c = false → B) := ⟨fun h => h, fun h => h⟩
@[simp low] theorem onH_f {c : Bool} {A B U : Prop} : onH (.iv (.v (.bool c))) false A B U ↔ (c = false → A) ∧ (c = true → B) := ⟨fun h => h, fun h => h⟩
@[simp] theorem onSt_mk {fr : List (Nat × AV)} {hp : Hp} {K : St → Prop} : onSt ⟨fr, hp⟩ K ↔ K ⟨fr, hp⟩ := ⟨fun h => h, fun h => h⟩
@[simp] theorem onV_v {u : Value} {K : Value → Prop} : onV (.iv (.v u)) K ↔ K u := ⟨id, id⟩
@[simp] theorem onI_i {k : IntKind} {m : Int} {K : Int → Prop} : onI (.iv (.v (.int k m))) K ↔ K m := ⟨id, id⟩
@[simp] theorem onT_t {t : ByteArray} {K : ByteArray → Prop} : onT (.iv (.v (.string t))) K ↔ K t := ⟨id, id⟩
@[simp] theorem a5U {α : Type} {a : α} {K : α → Prop} : onS (some a) K ↔ K a := ⟨id, id⟩
@[simp] theorem onS_n {α : Type} {K : α → Prop} : onS none K ↔ False := ⟨id, id⟩
@[simp] theorem a6U {cs : List AV} {K : List AV → Prop} : a0T (.agg cs) K ↔ K cs := ⟨id, id⟩
@[simp] theorem a7U {cs : List AV} {K : List AV → Prop} : a1T (.tup cs) K ↔ K cs := ⟨id, id⟩
@[simp] theorem a8U {cs : List AV} {K : List AV → Prop} : a2T (some (.box cs)) K ↔ K cs := ⟨id, id⟩
@[simp] theorem a9U {sz : Nat} {xs : List (List IV)} {K : Nat → List (List IV) → Prop} : a3T (some (.list sz xs)) K ↔ K sz xs := ⟨id, id⟩
@[simp] theorem a0V {sk g} {K : Sk → (List Value → Option (List IV)) → Prop} : a5T (some (.map sk g)) K ↔ K sk g := ⟨id, id⟩
@[simp] theorem a1V {sk g n k} {K : Sk → (List Value → Option (List IV)) → Int → List Value → Prop} : a6T (some (.mapS sk g n k)) K ↔ K sk g n k := ⟨id, id⟩
@[simp] theorem a2V {sk g l k} {K : Sk → (List Value → Option (List IV)) → List (List Value) → Option (List Value) → Prop} : a7T (some (.iter sk g l k)) K ↔ K sk g l k := ⟨id, id⟩
@[simp] theorem a3V {K : Nat → Prop} : a8T (.mpr id) K ↔ K id := ⟨fun h => h, fun h => h⟩
theorem a4V {x : AV} {K : Bool → Prop} : onB x K ↔ ∃ b, x = .iv (.v (.bool b)) ∧ K b := by
 unfold onB; split <;> simp_all
theorem a5V {x : AV} {K : Value → Prop} : onV x K ↔ ∃ b, x = .iv (.v b) ∧ K b := by
 unfold onV; split <;> simp_all
theorem a6V {x : AV} {K : ByteArray → Prop} : onT x K ↔ ∃ b, x = .iv (.v (.string b)) ∧ K b := by
 unfold onT; split <;> simp_all
theorem a7V {x : AV} {K : List AV → Prop} : a0T x K ↔ ∃ b, x = .agg b ∧ K b := by
 unfold a0T; split <;> simp_all
theorem a8V {x : AV} {K : List AV → Prop} : a1T x K ↔ ∃ b, x = .tup b ∧ K b := by
 unfold a1T; split <;> simp_all
theorem a9V {x : AV} {K : Nat → Prop} : a8T x K ↔ ∃ b, x = .mpr b ∧ K b := by
 unfold a8T; split <;> simp_all
theorem a0W {x : AV} {K : Int → Prop} : onI x K ↔ ∃ k b, x = .iv (.v (.int k b)) ∧ K b := by
 unfold onI; split
 · exact ⟨fun h => ⟨_, _, rfl, h⟩, fun ⟨_, _, e, h⟩ => by cases e; exact h⟩
 · rename_i hn; exact ⟨fun h => h.elim, fun ⟨_, _, e, h⟩ => (hn _ _ e).elim⟩
theorem a1W {α : Type} {x : Option α} {K : α → Prop} : onS x K ↔ ∃ b, x = some b ∧ K b := by
 unfold onS; split <;> simp_all
theorem a2W {x : Option Ob} {K : List AV → Prop} : a2T x K ↔ ∃ b, x = some (.box b) ∧ K b := by
 unfold a2T; split <;> simp_all
@[simp] theorem a3W {sz : Nat} {xs : List (List IV)} {K : Nat → List (List IV) → Prop} {K2 : Nat → List (List (List IV)) → Option Nat → Prop} : onL2 (some (.list sz xs)) K K2 ↔ K sz xs := ⟨id, id⟩
@[simp] theorem a4W {sz : Nat} {xs : List (List (List IV))} {hole : Option Nat} {K : Nat → List (List IV) → Prop} {K2 : Nat → List (List (List IV)) → Option Nat → Prop} : onL2 (some (.listo sz xs hole)) K K2 ↔ K2 sz xs hole := ⟨id, id⟩
@[simp] theorem a5W {a b c d : Nat} {K : Nat → Nat → Nat → Nat → Prop} : a4T (.sl a b c d) K ↔ K a b c d := ⟨id, id⟩
theorem a6W {x : Option Ob} {K : Nat → List (List IV) → Prop} : a3T x K ↔ ∃ sz b, x = some (.list sz b) ∧ K sz b := by
 unfold a3T; split
 · exact ⟨fun h => ⟨_, _, rfl, h⟩, fun ⟨_, _, e, h⟩ => by cases e; exact h⟩
 · rename_i hn; exact ⟨fun h => h.elim, fun ⟨_, _, e, h⟩ => (hn _ _ e).elim⟩
theorem a7W {x : Option Ob} {K : Sk → (List Value → Option (List IV)) → Prop} : a5T x K ↔ ∃ sk g, x = some (.map sk g) ∧ K sk g := by
 unfold a5T; split
 · exact ⟨fun h => ⟨_, _, rfl, h⟩, fun ⟨_, _, e, h⟩ => by cases e; exact h⟩
 · rename_i hn; exact ⟨fun h => h.elim, fun ⟨_, _, e, h⟩ => (hn _ _ e).elim⟩
theorem a8W {x : Option Ob} {K : Sk → (List Value → Option (List IV)) → Int → List Value → Prop} : a6T x K ↔ ∃ sk g n k, x = some (.mapS sk g n k) ∧ K sk g n k := by
 unfold a6T; split
 · exact ⟨fun h => ⟨_, _, _, _, rfl, h⟩, fun ⟨_, _, _, _, e, h⟩ => by cases e; exact h⟩
 · rename_i hn; exact ⟨fun h => h.elim, fun ⟨_, _, _, _, e, h⟩ => (hn _ _ _ _ e).elim⟩
theorem a9W {x : Option Ob} {K : Sk → (List Value → Option (List IV)) → List (List Value) → Option (List Value) → Prop} : a7T x K ↔ ∃ sk g l k, x = some (.iter sk g l k) ∧ K sk g l k := by
 unfold a7T; split
 · exact ⟨fun h => ⟨_, _, _, _, rfl, h⟩, fun ⟨_, _, _, _, e, h⟩ => by cases e; exact h⟩
 · rename_i hn; exact ⟨fun h => h.elim, fun ⟨_, _, _, _, e, h⟩ => (hn _ _ _ _ e).elim⟩
@[congr] theorem a0X {x x' : AV} {K : Bool → Prop} (h : x = x') : onB x K = onB x' K := by rw [h]
@[congr] theorem a1X {x x' : AV} {K : Value → Prop} (h : x = x') : onV x K = onV x' K := by rw [h]
@[congr] theorem a2X {x x' : AV} {K : Int → Prop} (h : x = x') : onI x K = onI x' K := by rw [h]
@[congr] theorem a3X {x x' : AV} {K : ByteArray → Prop} (h : x = x') : onT x K = onT x' K := by rw [h]
@[congr] theorem a4X {x x' : AV} {K : List AV → Prop} (h : x = x') : a0T x K = a0T x' K := by rw [h]
@[congr] theorem a5X {x x' : AV} {K : List AV → Prop} (h : x = x') : a1T x K = a1T x' K := by rw [h]
@[congr] theorem a6X {x x' : Option Ob} {K : List AV → Prop} (h : x = x') : a2T x K = a2T x' K := by rw [h]
@[congr] theorem a7X {x x' : Option Ob} {K : Nat → List (List IV) → Prop} (h : x = x') : a3T x K = a3T x' K := by rw [h]
@[congr] theorem a8X {x x' : Option Ob} {K : Nat → List (List IV) → Prop} {K2 : Nat → List (List (List IV)) → Option Nat → Prop} (h : x = x') : onL2 x K K2 = onL2 x' K K2 := by rw [h]
@[congr] theorem a9X {x x' : AV} {K : Nat → Nat → Nat → Nat → Prop} (h : x = x') : a4T x K = a4T x' K := by rw [h]
@[congr] theorem a0Y {x x' : Option Ob} {K : Sk → (List Value → Option (List IV)) → Prop} (h : x = x') : a5T x K = a5T x' K := by rw [h]
@[congr] theorem a1Y {x x' : Option Ob} {K : Sk → (List Value → Option (List IV)) → Int → List Value → Prop} (h : x = x') : a6T x K = a6T x' K := by rw [h]
@[congr] theorem a2Y {x x' : Option Ob} {K : Sk → (List Value → Option (List IV)) → List (List Value) → Option (List Value) → Prop} (h : x = x') : a7T x K = a7T x' K := by rw [h]
@[congr] theorem a3Y {x x' : AV} {K : Nat → Prop} (h : x = x') : a8T x K = a8T x' K := by rw [h]
@[congr] theorem a4Y {x x' : AV} {A B : Prop} (h : x = x') : onD x A B = onD x' A B := by rw [h]
@[congr] theorem a5Y {x x' : AV} {b : Bool} {A B U : Prop} (h : x = x') : onH x b A B U = onH x' b A B U := by rw [h]
@[congr] theorem a6Y {s s' : St} {K : St → Prop} (h : s = s') : onSt s K = onSt s' K := by rw [h]
@[congr] theorem a7Y {x x' : AV} {K : Bool → Prop} {U : Prop} (h : x = x') : onG x K U = onG x' K U := by rw [h]
@[congr] theorem a8Y {α : Type} {x x' : Option α} {K : α → Prop} (h : x = x') : onS x K = onS x' K := by rw [h]
@[congr] theorem a9Y {P : Program} {l l' : List VOp} {s s' : St} {K : St → Prop} (hl : l = l') (h : s = s') : vops P l s K = vops P l' s' K := by rw [h, hl]
@[congr] theorem a0Z {P : Program} {l l' : VT} {s s' : St} {K : St → Prop} (hl : l = l') (h : s = s') : d0b P l s K = d0b P l' s' K := by rw [h, hl]
@[congr] theorem a1Z {P : Program} {c c' : VCode} {s s' : St} {O : Outs} (hc : c = c') (h : s = s') : wpV P c s O = wpV P c' s' O := by rw [h, hc]
@[congr] theorem a2Z {P : Program} {d : Nat} {f : FuncId} {pre post : List CapV} {ops : List Operand} {y : Option Operand} {s s' : St} {K : St → AV → Prop} (h : s = s') :
   a7S P d f pre ops post y s K = a7S P d f pre ops post y s' K := by rw [h]
@[congr] theorem a3Z {P : Program} {g : Operand} {ps : List Nat} {x y : VCode} {s s' : St} {O : Outs} (h : s = s') : rngW P g ps x y s O = rngW P g ps x y s' O := by rw [h]
@[congr] theorem a4Z {P : Program} {l : Nat} {ops : List Operand} {s s' : St} {K : St → AV → Prop} (h : s = s') : a8S P l ops s K = a8S P l ops s' K := by rw [h]
@[congr] theorem a5Z {P : Program} {c : VCode} {s s' : St} {O : Outs} (h : s = s') : a9S P c s O = a9S P c s' O := by rw [h]
@[simp] theorem a6Z {s : St} : vops P [] s K1 ↔ K1 s := ⟨fun h => h, fun h => h⟩
@[simp] theorem a7Z {o : VOp} {r : List VOp} : vops P (o :: r) s K1 ↔ vop1 P o s fun s' => vops P r s' K1 := ⟨fun h => h, fun h => h⟩
@[simp] theorem a8Z : d0b P .done s K1 ↔ K1 s := ⟨fun h => h, fun h => h⟩
@[simp] theorem a9Z {o : VOp} {t : VT} : d0b P (.op o t) s K1 ↔ vop1 P o s fun s' => d0b P t s' K1 := ⟨fun h => h, fun h => h⟩
@[simp] theorem b0a {a b : VT} : d0b P (.alt a b) s K1 ↔ d0b P a s K1 ∧ d0b P b s K1 := ⟨fun h => h, fun h => h⟩
@[simp] theorem b1a {d : Option Nat} {r : Rhs} : vop1 P ⟨d, none, r⟩ s K1 ↔ onSt s fun s => stp P (d.getD 999) s (fun s' x => K1 (s'.put d x)) r := ⟨fun h => h, fun h => h⟩
@[simp] theorem b2a {d : Option Nat} {t : Nat} {b : Bool} {r : Rhs} : vop1 P ⟨d, some (t, b), r⟩ s K1 ↔
   onSt s fun s => onH (s.get t) b (stp P (d.getD 999) (s.lit t b) (fun s' x => K1 (s'.put d x)) r) (K1 ((s.lit t !b).put d .un)) (K1 (s.put d .un)) := by
 simp only [vop1, onSt, onH]; split <;> simp_all
variable {O : Outs}
@[simp] theorem b3a : wpV P .skip s O ↔ O.n s := ⟨fun h => h, fun h => h⟩
@[simp] theorem b4a {l : List VOp} : wpV P (.reg l) s O ↔ vops P l s O.n := ⟨fun h => h, fun h => h⟩
@[simp] theorem b5a {t : VT} : wpV P (.any t) s O ↔ d0b P t s O.n := ⟨fun h => h, fun h => h⟩
@[simp] theorem b6a {a b : VCode} : wpV P (.seq a b) s O ↔ wpV P a s ⟨fun s' => wpV P b s' O, O.x, O.r, O.g⟩ := ⟨fun h => h, fun h => h⟩
@[simp] theorem b7a {t e : VCode} : wpV P (.cond x t e) s O ↔ onSt s fun s => onD (s.ev x) (wpV P t s O) (wpV P e s O) := by
 simp only [wpV, onSt, onD]; split <;> simp_all
@[simp] theorem b8a {c : VCode} : wpV P (.block id c) s O ↔ wpV P c s ⟨O.n, fun j s' => if j = id then O.n s' else O.x j s', O.r, O.g⟩ := ⟨fun h => h, fun h => h⟩
@[simp] theorem wpV_rng {g : Operand} {ps : List Nat} {x y : VCode} : wpV P (.rng g ps x y) s O ↔ rngW P g ps x y s O := ⟨fun h => h, fun h => h⟩
@[simp] theorem b9a {c : VCode} : wpV P (.loop c) s O ↔ a9S P c s O := ⟨fun h => h, fun h => h⟩
@[simp] theorem b0b : wpV P (.exit id) s O ↔ O.x id s := ⟨fun h => h, fun h => h⟩
@[simp] theorem b1b : wpV P .ret s O ↔ O.r s := ⟨fun h => h, fun h => h⟩
@[simp] theorem b2b {l : Nat} : wpV P (.goto l) s O ↔ O.g l s := ⟨fun h => h, fun h => h⟩
@[simp] theorem b3b {c : VCode} : wpV P (.scope c) s O ↔ wpV P c s ⟨O.n, O.x, O.r, fun _ _ => False⟩ := ⟨fun h => h, fun h => h⟩
@[simp] theorem b4b {c r : VCode} {l : Nat} : wpV P (.scopeL c l r) s O ↔ wpV P c s ⟨O.n, O.x, O.r, fun l' s' => l' = l ∧ wpV P r s' ⟨O.n, O.x, O.r, fun _ _ => False⟩⟩ := ⟨fun h => h, fun h => h⟩
@[simp] theorem b5b : stp P d s K (.mov x) ↔ K s (s.ev x) := ⟨fun h => h, fun h => h⟩
@[simp] theorem b6b {sz : Nat} : stp P d s K (.nils sz) ↔ K ((s.drop d).add d (.list sz [])) (.sl d sz 0 0) := ⟨fun h => h, fun h => h⟩
@[simp] theorem b7b {c : Operand} : stp P d s K (.pick c x y) ↔ onB (s.ev c) fun t => K s (if t then s.ev x else s.ev y) := by
 first
 | exact ⟨fun h => h, fun h => h⟩
 | (simp only [stp, a4V, a5V, a6V, a7V, a8V, a9V, a0W, a1W, a2W, a6W, a7W, a8W, a9W]; repeat' split
    all_goals first | (simp_all; done) | grind)
@[simp] theorem b8b {z : List AV} : stp P d s K (.alloc z) ↔ K ((s.drop d).add d (.box z)) (.ptr d 0) := ⟨fun h => h, fun h => h⟩
@[simp] theorem b9b : stp P d s K (.box x) ↔ onS (((s.drop d).ev x).cellsOf) fun cs => K ((s.drop d).add d (.box cs)) (.ptr d 0) := by
 first
 | exact ⟨fun h => h, fun h => h⟩
 | (simp only [stp, a4V, a5V, a6V, a7V, a8V, a9V, a0W, a1W, a2W, a6W, a7W, a8W, a9W]; repeat' split
    all_goals first | (simp_all; done) | grind)
@[simp] theorem b0c {z : List AV} {parts : List (Nat × Nat × Operand)} : stp P d s K (.build z parts) ↔ onS (b9U s z parts) fun cs => K s (.agg cs) := by
 first
 | exact ⟨fun h => h, fun h => h⟩
 | (simp only [stp, a4V, a5V, a6V, a7V, a8V, a9V, a0W, a1W, a2W, a6W, a7W, a8W, a9W]; repeat' split
    all_goals first | (simp_all; done) | grind)
@[simp] theorem b1c {sz len : Nat} {parts : List (Nat × Operand)} : stp P d s K (.lit sz len parts) ↔
   onS (litA ((s.frz (parts.map fun p => s.ev p.2)).drop d) sz parts) fun xs => K (((s.frz (parts.map fun p => s.ev p.2)).drop d).add d (.list sz xs)) (.sl d sz 0 len) := by
 first
 | exact ⟨fun h => h, fun h => h⟩
 | (simp only [stp, a4V, a5V, a6V, a7V, a8V, a9V, a0W, a1W, a2W, a6W, a7W, a8W, a9W]; repeat' split
    all_goals first | (simp_all; done) | grind)
def ldN (s : St) (d : Nat) (x : Operand) (K : St → AV → Prop) [Tg K] : AV → Prop
   | .ptr id off => a2T (look s.hp id) fun cs => onS cs[off]? (K s)
   | .ep id _ i off => onL2 (look s.hp id) (fun _ xs => onS (at2 xs i off) fun y => K s (.iv y)) (fun sz2 xs hole => hole = none ∧ off = 0 ∧ id ≠ d ∧ (s.drop d).ev x = .ep id 1 i 0 ∧ look (s.drop d).hp id = some (.listo sz2 xs none) ∧ onS xs[i]? fun ys => K (((s.drop d).add id (.listo sz2 xs (some i))).add d (.lent id sz2 ys)) (.sl d sz2 0 ys.length))
   | .iv (.pt cs) => onS cs[0]? fun y => K s (.iv y)
   | _ => False
@[simp] theorem b2c {K : St → AV → Prop} : ldN s d x K (.ptr id off) ↔ a2T (look s.hp id) fun cs => onS cs[off]? (K s) := ⟨fun h => h, fun h => h⟩
@[simp] theorem b3c {K : St → AV → Prop} {z i : Nat} : ldN s d x K (.ep id z i off) ↔ onL2 (look s.hp id) (fun _ xs => onS (at2 xs i off) fun y => K s (.iv y)) (fun sz2 xs hole => hole = none ∧ off = 0 ∧ id ≠ d ∧ (s.drop d).ev x = .ep id 1 i 0 ∧ look (s.drop d).hp id = some (.listo sz2 xs none) ∧ onS xs[i]? fun ys => K (((s.drop d).add id (.listo sz2 xs (some i))).add d (.lent id sz2 ys)) (.sl d sz2 0 ys.length)) := ⟨fun h => h, fun h => h⟩
@[simp] theorem b4c {K : St → AV → Prop} {cs : List IV} : ldN s d x K (.iv (.pt cs)) ↔ onS cs[0]? fun y => K s (.iv y) := ⟨fun h => h, fun h => h⟩
@[simp] theorem b5c : stp P d s K (.ld x none) ↔ ldN s d x K (s.ev x) := by
 simp only [stp]
 generalize s.ev x = ax
 cases ax with
 | ptr id off =>
   simp only [b2c, a2W, a1W]
   repeat' split
   all_goals (simp_all; done)
 | ep id sz i off =>
   simp only [b3c]
   cases hl : look s.hp id with
   | none => exact ⟨fun h => h, fun h => h⟩
   | some o =>
     cases o with
     | list z xs => simp only [a3W, a1W]; split <;> simp_all
     | listo z xs hole => simp only [a4W, a1W]; split <;> simp_all
     | _ => exact ⟨fun h => h, fun h => h⟩
 | iv y =>
   cases y with
   | pt cs => simp only [b4c, a1W]; repeat' split
              all_goals (simp_all; done)
   | _ => exact ⟨fun h => h, fun h => h⟩
 | _ => exact ⟨fun h => h, fun h => h⟩
def ldS (H : Hp) (n : Nat) (x : AV) (K : AV → Prop) [Tg K] : Prop := match x with
   | .ptr id off => a2T (look H id) fun cs => off + n ≤ cs.length ∧ K (.agg ((cs.drop off).take n))
   | .ep id _ i off => a3T (look H id) fun _ xs => onS xs[i]? fun r => off + n ≤ r.length ∧ K (.agg (((r.drop off).take n).map .iv))
   | .iv (.pt cs) => n ≤ cs.length ∧ K (.agg ((cs.take n).map .iv))
   | _ => False
@[simp] theorem b6c {H : Hp} {n : Nat} {K : AV → Prop} : ldS H n (.ptr id off) K ↔ a2T (look H id) fun cs => off + n ≤ cs.length ∧ K (.agg ((cs.drop off).take n)) := ⟨fun h => h, fun h => h⟩
@[simp] theorem b7c {H : Hp} {n : Nat} {K : AV → Prop} {z i : Nat} : ldS H n (.ep id z i off) K ↔ a3T (look H id) fun _ xs => onS xs[i]? fun r => off + n ≤ r.length ∧ K (.agg (((r.drop off).take n).map .iv)) := ⟨fun h => h, fun h => h⟩
@[simp] theorem b8c {H : Hp} {n : Nat} {K : AV → Prop} {cs : List IV} : ldS H n (.iv (.pt cs)) K ↔ n ≤ cs.length ∧ K (.agg ((cs.take n).map .iv)) := ⟨fun h => h, fun h => h⟩
@[simp] theorem b9c {n : Nat} : stp P d s K (.ld x (some n)) ↔ ldS s.hp n (s.ev x) (K s) := by
 first
 | exact ⟨fun h => h, fun h => h⟩
 | (simp only [stp, ldS, a4V, a5V, a6V, a7V, a8V, a9V, a0W, a1W, a2W, a6W, a7W, a8W, a9W]; repeat' split
    all_goals first | (simp_all; done) | grind)
def stC (s : St) (x : Operand) (y : Operand) (n : Nat) (K : St → Prop) [Tg K] : AV → Prop
   | .ptr id off => a2T (look s.hp id) fun cs => onS (s.ev y).cellsOf fun cy => cy.length = n ∧ off + n ≤ cs.length ∧ cy.all AV.one = true ∧ K (s.add id (.box (c2d cs off cy)))
   | .ep id _ i off => onL2 (look (s.frz [s.ev y]).hp id) (fun sz xs => onS (((s.frz [s.ev y]).ev y).cellsOf.bind fun cs => allO AV.iv? cs) fun cy => onS xs[i]? fun r =>
       (s.frz [s.ev y]).ev x = .ep id sz i off ∧ cy.length = n ∧ off + n ≤ r.length ∧ K ((s.frz [s.ev y]).add id (.list sz (xs.set i (c2d r off cy))))) (fun sz2 xs hole => a4T (s.ev y) fun d' sz' lo len => onS (look s.hp d') fun o => onS o.els fun e => lo = 0 ∧ look s.hp id = some (.listo sz2 xs hole) ∧ (n = 1 ∧ off = 0) ∧ sz' = sz2 ∧ d' < 1000 ∧ d' ≠ id ∧ len = e.2.length ∧ (o.org? = none ∨ o.org? = some id) ∧ hole = some i ∧ K ((s.kill d').add id (.listo sz2 (xs.set i e.2) none)))
   | _ => False
theorem b0d {α β : Type} (f : α → Option β) : ∀ l : List α, l.mapM f = allO f l
 | [] => rfl
 | x :: r => by
   rw [List.mapM_cons]
   simp only [allO, ← b0d f r]
   cases f x with
   | none => rfl
   | some y => cases r.mapM f <;> rfl
@[simp] theorem b1d {n : Nat} {K : St → Prop} : stC s x y n K (.ptr id off) ↔ a2T (look s.hp id) fun cs => onS (s.ev y).cellsOf fun cy => cy.length = n ∧ off + n ≤ cs.length ∧ cy.all AV.one = true ∧ K (s.add id (.box (c2d cs off cy))) := ⟨fun h => h, fun h => h⟩
@[simp] theorem b2d {n z i : Nat} {K : St → Prop} : stC s x y n K (.ep id z i off) ↔ onL2 (look (s.frz [s.ev y]).hp id) (fun sz xs => onS (((s.frz [s.ev y]).ev y).cellsOf.bind fun cs => allO AV.iv? cs) fun cy => onS xs[i]? fun r =>
       (s.frz [s.ev y]).ev x = .ep id sz i off ∧ cy.length = n ∧ off + n ≤ r.length ∧ K ((s.frz [s.ev y]).add id (.list sz (xs.set i (c2d r off cy))))) (fun sz2 xs hole => a4T (s.ev y) fun d' sz' lo len => onS (look s.hp d') fun o => onS o.els fun e => lo = 0 ∧ look s.hp id = some (.listo sz2 xs hole) ∧ (n = 1 ∧ off = 0) ∧ sz' = sz2 ∧ d' < 1000 ∧ d' ≠ id ∧ len = e.2.length ∧ (o.org? = none ∨ o.org? = some id) ∧ hole = some i ∧ K ((s.kill d').add id (.listo sz2 (xs.set i e.2) none))) := ⟨fun h => h, fun h => h⟩
@[simp] theorem b3d {n : Nat} : stp P d s K (.st x y n) ↔ stC s x y n (fun s' => K s' .un) (s.ev x) := by
 simp only [stp]
 generalize hx : s.ev x = ax
 cases ax with
 | ptr id off =>
   simp only [b1d, a2W, a1W]
   repeat' split
   all_goals first | (simp_all; done) | grind
 | ep id sz i off =>
   simp only [b2d, b0d]
   cases hl : look (s.frz [s.ev y]).hp id with
   | none => exact ⟨fun h => h, fun h => h⟩
   | some o =>
     cases o with
     | list z xs => simp only [a3W, a1W]; repeat' split
                    all_goals first | (simp_all; done) | grind
     | listo z xs hole =>
       simp only [a4W]
       clear hl hx
       generalize s.ev y = ay
       cases ay with
       | sl d' sz' lo len =>
         simp only [a5W, a1W]
         cases lo with
         | zero =>
           cases h1 : look s.hp d' with
           | none => simp [h1]
           | some o =>
             cases h2 : o.els with
             | none => simp [h1, h2]
             | some e =>
               obtain ⟨e1, e2⟩ := e
               simp only [h1, h2, Option.some.injEq, exists_eq_left', true_and]
         | succ lo => exact ⟨fun h => h.elim, fun ⟨_, _, _, _, h, _⟩ => by cases h⟩
       | _ => exact ⟨fun h => h, fun h => h⟩
     | _ => exact ⟨fun h => h, fun h => h⟩
 | _ => exact ⟨fun h => h, fun h => h⟩
def chkK (x : AV) (K : AV → Prop) [Tg K] : Prop := match x with
   | .ptr id off => K (.ptr id off)
   | .ep id sz i off => K (.ep id sz i off)
   | .iv (.pt cs) => K (.iv (.pt cs))
   | _ => False
@[simp] theorem b4d {K : AV → Prop} : chkK (.ptr id off) K ↔ K (.ptr id off) := ⟨fun h => h, fun h => h⟩
@[simp] theorem b5d {K : AV → Prop} {sz i : Nat} : chkK (.ep id sz i off) K ↔ K (.ep id sz i off) := ⟨fun h => h, fun h => h⟩
@[simp] theorem b6d {K : AV → Prop} {cs : List IV} : chkK (.iv (.pt cs)) K ↔ K (.iv (.pt cs)) := ⟨fun h => h, fun h => h⟩
@[simp] theorem b7d : stp P d s K (.chk x) ↔ chkK (s.ev x) (K s) := ⟨fun h => h, fun h => h⟩
@[simp] theorem b8d {op : BinOp} : stp P d s K (.bin op x y) ↔ onV (s.ev x) fun u => onV (s.ev y) fun v => onS (binV op u v) fun r => K s (.iv (.v r)) := by
 first
 | exact ⟨fun h => h, fun h => h⟩
 | (simp only [stp, a4V, a5V, a6V, a7V, a8V, a9V, a0W, a1W, a2W, a6W, a7W, a8W, a9W]; repeat' split
    all_goals first | (simp_all; done) | grind)
@[simp] theorem b9d {neg : Bool} : stp P d s K (.beq neg x y) ↔ onB (s.ev x) fun u => onB (s.ev y) fun v => K s (.iv (.v (.bool (if neg then u != v else u == v)))) := by
 first
 | exact ⟨fun h => h, fun h => h⟩
 | (simp only [stp, a4V, a5V, a6V, a7V, a8V, a9V, a0W, a1W, a2W, a6W, a7W, a8W, a9W]; repeat' split
    all_goals first | (simp_all; done) | grind)
def peqV : AV → AV → Option Bool
   | .iv (.v (.pointer none)), .iv (.v (.pointer none)) => some true
   | .iv (.v (.pointer none)), .ptr .. => some false
   | .iv (.v (.pointer none)), .iv (.pt _) => some false
   | .ptr .., .iv (.v (.pointer none)) => some false
   | .iv (.pt _), .iv (.v (.pointer none)) => some false
   | _, _ => none
@[simp] theorem b0e : peqV (.iv (.v (.pointer none))) (.iv (.v (.pointer none))) = some true := rfl
@[simp] theorem b1e : peqV (.iv (.v (.pointer none))) (.ptr id off) = some false := rfl
@[simp] theorem b2e {cs : List IV} : peqV (.iv (.v (.pointer none))) (.iv (.pt cs)) = some false := rfl
@[simp] theorem b3e : peqV (.ptr id off) (.iv (.v (.pointer none))) = some false := rfl
@[simp] theorem b4e {cs : List IV} : peqV (.iv (.pt cs)) (.iv (.v (.pointer none))) = some false := rfl
@[simp] theorem b5e {neg : Bool} : stp P d s K (.peq neg x y) ↔ onS (peqV (s.ev x) (s.ev y)) fun b => K s (.iv (.v (.bool (b != neg)))) := by
 first
 | exact ⟨fun h => h, fun h => h⟩
 | (simp only [stp, peqV, a4V, a5V, a6V, a7V, a8V, a9V, a0W, a1W, a2W, a6W, a7W, a8W, a9W]; repeat' split
    all_goals first | (simp_all; done) | grind)
@[simp] theorem b6e {neg : Bool} {ks : List Kd} : stp P d s K (.eqs neg ks x y) ↔ a0T (s.ev x) fun cs => a0T (s.ev y) fun ds => onS (c8d ks cs ds) fun b => K s (.iv (.v (.bool (if neg then !b else b)))) := by
 first
 | exact ⟨fun h => h, fun h => h⟩
 | (simp only [stp, a4V, a5V, a6V, a7V, a8V, a9V, a0W, a1W, a2W, a6W, a7W, a8W, a9W]; repeat' split
    all_goals first | (simp_all; done) | grind)
@[simp] theorem b7e {op : UnOp} : stp P d s K (.un op x) ↔ onV (s.ev x) fun v => onS (unV op v) fun r => K s (.iv (.v r)) := by
 first
 | exact ⟨fun h => h, fun h => h⟩
 | (simp only [stp, a4V, a5V, a6V, a7V, a8V, a9V, a0W, a1W, a2W, a6W, a7W, a8W, a9W]; repeat' split
    all_goals first | (simp_all; done) | grind)
@[simp] theorem b8e {k : IntKind} : stp P d s K (.cvt k x) ↔ onI (s.ev x) fun m => K s (.iv (.v (.int k (k.wrap m)))) := by
 first
 | exact ⟨fun h => h, fun h => h⟩
 | (simp only [stp, a4V, a5V, a6V, a7V, a8V, a9V, a0W, a1W, a2W, a6W, a7W, a8W, a9W]; repeat' split
    all_goals first | (simp_all; done) | grind)
def cutK (s : St) (sz : Nat) (lo hi : Option Operand) (K : AV → Prop) [Tg K] : AV → Prop
   | .iv (.lst sz' xs) => onS (s.bound 0 lo) fun l => onS (s.bound xs.length hi) fun h => sz' = sz ∧ 0 ≤ l ∧ l ≤ h ∧ h ≤ xs.length ∧ K (.iv (.lst sz ((xs.drop l.toNat).take (h - l).toNat)))
   | .sl id sz' o m => onS (s.bound 0 lo) fun l => onS (s.bound m hi) fun h => sz' = sz ∧ 0 ≤ l ∧ l ≤ h ∧ h ≤ m ∧ K (.sl id sz (o + l.toNat) (h - l).toNat)
   | .nil sz' => onS (s.bound 0 lo) fun l => onS (s.bound 0 hi) fun h => l = 0 ∧ h = 0 ∧ K (.nil sz')
   | _ => False
section
variable {sz sz' o m : Nat} {lo hi : Option Operand} {K2 : AV → Prop} {xs : List (List IV)}
@[simp] theorem b9e : cutK s sz lo hi K2 (.iv (.lst sz' xs)) ↔ onS (s.bound 0 lo) fun l => onS (s.bound xs.length hi) fun h => sz' = sz ∧ 0 ≤ l ∧ l ≤ h ∧ h ≤ xs.length ∧ K2 (.iv (.lst sz ((xs.drop l.toNat).take (h - l).toNat))) := ⟨fun h => h, fun h => h⟩
@[simp] theorem b0f : cutK s sz lo hi K2 (.sl id sz' o m) ↔ onS (s.bound 0 lo) fun l => onS (s.bound m hi) fun h => sz' = sz ∧ 0 ≤ l ∧ l ≤ h ∧ h ≤ m ∧ K2 (.sl id sz (o + l.toNat) (h - l).toNat) := ⟨fun h => h, fun h => h⟩
@[simp] theorem b1f : cutK s sz lo hi K2 (.nil sz') ↔ onS (s.bound 0 lo) fun l => onS (s.bound 0 hi) fun h => l = 0 ∧ h = 0 ∧ K2 (.nil sz') := ⟨fun h => h, fun h => h⟩
@[simp] theorem b2f : stp P d s K (.cut sz x lo hi) ↔ cutK s sz lo hi (K s) (s.ev x) := by
 first
 | exact ⟨fun h => h, fun h => h⟩
 | (simp only [stp, cutK, a4V, a5V, a6V, a7V, a8V, a9V, a0W, a1W, a2W, a6W, a7W, a8W, a9W]; repeat' split
    all_goals first | (simp_all; done) | grind)
end
def faK (off : Nat) (x : AV) (K : AV → Prop) [Tg K] : Prop := match x with
   | .ptr id o => K (.ptr id (o + off))
   | .ep id sz i o => K (.ep id sz i (o + off))
   | .iv (.pt cs) => K (.iv (.pt (cs.drop off)))
   | _ => False
section
variable {K2 : AV → Prop} {sz i o n : Nat}
@[simp] theorem b3f : faK off (.ptr id o) K2 ↔ K2 (.ptr id (o + off)) := ⟨fun h => h, fun h => h⟩
@[simp] theorem b4f : faK off (.ep id sz i o) K2 ↔ K2 (.ep id sz i (o + off)) := ⟨fun h => h, fun h => h⟩
@[simp] theorem b5f {cs : List IV} : faK off (.iv (.pt cs)) K2 ↔ K2 (.iv (.pt (cs.drop off))) := ⟨fun h => h, fun h => h⟩
@[simp] theorem b6f : stp P d s K (.fa off x) ↔ faK off (s.ev x) (K s) := ⟨fun h => h, fun h => h⟩
@[simp] theorem b7f : stp P d s K (.fld off none x) ↔ a0T (s.ev x) fun cs => onS cs[off]? (K s) := by
 simp only [stp, a4V, a5V, a6V, a7V, a8V, a9V, a0W, a1W, a2W, a6W, a7W, a8W, a9W]; repeat' split
 all_goals first | (simp_all; done) | grind
@[simp] theorem b8f : stp P d s K (.fld off (some n) x) ↔ a0T (s.ev x) fun cs => off + n ≤ cs.length ∧ K s (.agg ((cs.drop off).take n)) := ⟨fun h => h, fun h => h⟩
end
def iaK (sz : Nat) (m : Int) (K : AV → Prop) [Tg K] : AV → Prop
   | .iv (.lst sz' xs) => sz' = sz ∧ 0 ≤ m ∧ onS xs[m.toNat]? fun r => K (.iv (.pt r))
   | .sl id sz' o k => sz' = sz ∧ 0 ≤ m ∧ m < k ∧ K (.ep id sz (o + m.toNat) 0)
   | _ => False
section
variable {K2 : AV → Prop} {sz sz' i o n k : Nat} {m : Int} {xs : List (List IV)}
@[simp] theorem b9f : iaK sz m K2 (.iv (.lst sz' xs)) ↔ sz' = sz ∧ 0 ≤ m ∧ onS xs[m.toNat]? fun r => K2 (.iv (.pt r)) := ⟨fun h => h, fun h => h⟩
@[simp] theorem b0g : iaK sz m K2 (.sl id sz' o k) ↔ sz' = sz ∧ 0 ≤ m ∧ m < k ∧ K2 (.ep id sz (o + m.toNat) 0) := ⟨fun h => h, fun h => h⟩
@[simp] theorem b1g : stp P d s K (.ia sz x y) ↔ onI (s.ev y) fun m => iaK sz m (K s) (s.ev x) := by
 rw [a0W]
 simp only [stp]
 constructor
 · intro h
   split at h
   · rename_i sz' xs k m e1 e2
     refine ⟨k, m, e2, ?_⟩
     rw [e1, b9f]
     refine ⟨h.1, h.2.1, ?_⟩
     cases hg : xs[m.toNat]? with
     | none => rw [hg] at h; exact h.2.2.elim
     | some r => rw [hg] at h; exact h.2.2
   · rename_i id sz' o q k m e1 e2
     refine ⟨k, m, e2, ?_⟩
     rw [e1, b0g]
     exact h
   · exact h.elim
 · rintro ⟨k, m, e2, h⟩
   rw [e2]
   cases hx : s.ev x with
   | iv x' =>
     rw [hx] at h
     cases x' with
     | lst sz' xs =>
       rw [b9f] at h
       refine ⟨h.1, h.2.1, ?_⟩
       cases hg : xs[m.toNat]? with
       | none => rw [hg] at h; exact h.2.2.elim
       | some r => rw [hg] at h; exact h.2.2
     | _ => exact h.elim
   | sl id sz' o q => rw [hx, b0g] at h; exact h
   | _ => rw [hx] at h; exact h.elim
@[simp] theorem stp_ix {q : Nat} : stp P d s K (.ix q x y) ↔ a0T (s.ev x) fun cs => onI (s.ev y) fun m => 0 ≤ m ∧ m < q ∧ onS cs[m.toNat]? (K s) := by
 constructor
 · intro h
   simp only [stp] at h
   split at h
   · rename_i cs k m h1 h2
     rw [h1, h2]
     obtain ⟨g1, g2, g3⟩ := h
     refine ⟨g1, g2, ?_⟩
     cases hc : cs[m.toNat]? with
     | none => rw [hc] at g3; exact g3.elim
     | some y => rw [hc] at g3; exact g3
   · exact h.elim
 · intro h
   simp only [stp]
   cases h1 : s.ev x with
   | agg cs =>
     rw [h1] at h
     cases h2 : s.ev y with
     | iv c =>
       rw [h2] at h
       cases c with
       | v z => cases z with
         | int k m =>
           obtain ⟨g1, g2, g3⟩ := h
           refine ⟨g1, g2, ?_⟩
           cases hc : cs[m.toNat]? with
           | none => rw [hc] at g3; exact g3.elim
           | some y => rw [hc] at g3; exact g3
         | _ => exact h.elim
       | _ => exact h.elim
     | _ => rw [h2] at h; exact h.elim
   | _ => rw [h1] at h; exact h.elim
@[simp] theorem b2g : stp P d s K (.is x y) ↔ onT (s.ev x) fun t => onI (s.ev y) fun m => 0 ≤ m ∧ onS t[m.toNat]? fun b => K s (.iv (.v (.int .u8 b.toNat))) := by
 first
 | exact ⟨fun h => h, fun h => h⟩
 | (simp only [stp, a4V, a5V, a6V, a7V, a8V, a9V, a0W, a1W, a2W, a6W, a7W, a8W, a9W]; repeat' split
    all_goals first | (simp_all; done) | grind)
@[simp] theorem b3g : stp P d s K (.ext i x) ↔ a1T (s.ev x) fun vs => onS vs[i]? (K s) := by
 simp only [stp, a4V, a5V, a6V, a7V, a8V, a9V, a0W, a1W, a2W, a6W, a7W, a8W, a9W]; repeat' split
 all_goals first | (simp_all; done) | grind
end
def lenK (x : AV) (K : Nat → Prop) [Tg K] : Prop := match x with
   | .iv (.lst _ xs) => K xs.length
   | .sl _ _ _ m => K m
   | .nil _ => K 0
   | _ => False
section
variable {K2 : Nat → Prop} {sz o n : Nat} {xs : List (List IV)}
@[simp] theorem b4g : lenK (.iv (.lst sz xs)) K2 ↔ K2 xs.length := ⟨fun h => h, fun h => h⟩
@[simp] theorem b5g : lenK (.sl id sz o n) K2 ↔ K2 n := ⟨fun h => h, fun h => h⟩
@[simp] theorem b6g : lenK (.nil sz) K2 ↔ K2 0 := ⟨fun h => h, fun h => h⟩
@[simp] theorem b7g : stp P d s K (.len x) ↔ lenK (s.ev x) fun n => K s (.iv (.v (.int .i64 n))) := by
 first
 | exact ⟨fun h => h, fun h => h⟩
 | (simp only [stp, lenK, a4V, a5V, a6V, a7V, a8V, a9V, a0W, a1W, a2W, a6W, a7W, a8W, a9W]; repeat' split
    all_goals first | (simp_all; done) | grind)
@[simp] theorem b8g : stp P d s K (.lens x) ↔ onT (s.ev x) fun t => K s (.iv (.v (.int .i64 t.size))) := ⟨fun h => h, fun h => h⟩
end
def appK (s : St) (d sz bytes : Nat) (ys : Option (Nat × List (List IV))) (K : St → AV → Prop) [Tg K] : AV → Prop
   | .sl id sz' lo m => onS ys fun (sz2, ys) => onS (look s.hp id) fun o => onS o.els fun (_, xs) => sz' = sz ∧ (sz2 = sz ∨ ys = []) ∧ id < 1000 ∧ lo + m = xs.length ∧ (m + ys.length) * bytes ≤ 2 ^ 47 ∧ m + ys.length < 2 ^ 62 ∧
         K ((s.lone id).add id (o.setEls sz (xs.drop lo ++ ys))) (.sl id sz 0 (m + ys.length))
   | .nil _ => onS ys fun (sz2, ys) => (sz2 = sz ∨ ys = []) ∧ ys.length * bytes ≤ 2 ^ 47 ∧ ys.length < 2 ^ 62 ∧ K ((s.drop d).add d (.list sz ys)) (.sl d sz 0 ys.length)
   | _ => False
section
variable {sz sz' sz2 bytes lo m : Nat} {ys : List (List IV)}
@[simp] theorem b9g : appK s d sz bytes (some (sz2, ys)) K (.sl id sz' lo m) ↔ onS (look s.hp id) fun o => onS o.els fun xs => sz' = sz ∧ (sz2 = sz ∨ ys = []) ∧ id < 1000 ∧ lo + m = xs.2.length ∧ (m + ys.length) * bytes ≤ 2 ^ 47 ∧ m + ys.length < 2 ^ 62 ∧
         K ((s.lone id).add id (o.setEls sz (xs.2.drop lo ++ ys))) (.sl id sz 0 (m + ys.length)) := ⟨fun h => h, fun h => h⟩
@[simp] theorem b0h : appK s d sz bytes (some (sz2, ys)) K (.nil sz') ↔ (sz2 = sz ∨ ys = []) ∧ ys.length * bytes ≤ 2 ^ 47 ∧ ys.length < 2 ^ 62 ∧ K ((s.drop d).add d (.list sz ys)) (.sl d sz 0 ys.length) := ⟨fun h => h, fun h => h⟩
@[simp] theorem b1h : stp P d s K (.app sz bytes x y) ↔ appK s d sz bytes (s.elems (s.ev y)) K (s.ev x) := by
 first
 | exact ⟨fun h => h, fun h => h⟩
 | (simp only [stp, appK, a4V, a5V, a6V, a7V, a8V, a9V, a0W, a1W, a2W, a6W, a7W, a8W, a9W]; repeat' split
    all_goals first | (simp_all; done) | grind)
@[simp] theorem b2h {mx : Bool} {xs : List Operand} : stp P d s K (.mm mx xs) ↔ onS (c0e mx (xs.map s.ev)) fun p => K s (.iv (.v (.int p.1 p.2))) := by
 first
 | exact ⟨fun h => h, fun h => h⟩
 | (simp only [stp, a4V, a5V, a6V, a7V, a8V, a9V, a0W, a1W, a2W, a6W, a7W, a8W, a9W]; repeat' split
    all_goals first | (simp_all; done) | grind)
@[simp] theorem b3h {f : FuncId} {first caps : List Operand} : stp P d s K (.mkfn f first caps) ↔ onS (allO AV.cap (first.map s.ev)) fun a => onS (allO AV.cap (caps.map s.ev)) fun b => K s (.fn f a b) := by
 first
 | exact ⟨fun h => h, fun h => h⟩
 | (simp only [stp, b0d, a4V, a5V, a6V, a7V, a8V, a9V, a0W, a1W, a2W, a6W, a7W, a8W, a9W]; repeat' split
    all_goals first | (simp_all; done) | grind)
@[simp] theorem b4h {f : FuncId} {args : List Operand} : stp P d s K (.call f args) ↔ a7S P d f [] args [] none s K := ⟨fun h => h, fun h => h⟩
end
def callF (P : Program) (d : Nat) (args : List Operand) (x : Operand) (s : St) (K : St → AV → Prop) [Tg K] : AV → Prop
   | .fn f first caps => okFn P f = true ∧ b7U P d f first args caps (some x) s K
   | .iv (.v (.func (.yield l) vf vc)) => vf = #[] ∧ vc = #[] ∧ b3U P l args s K
   | _ => False
@[simp] theorem b5h {args : List Operand} {l : Nat} : callF P d args x s K (.iv (.v (.func (.yield l) #[] #[]))) ↔ a8S P l args s K := ⟨fun h => h.2.2, fun h => ⟨rfl, rfl, h⟩⟩
@[simp] theorem b6h {args : List Operand} {f : FuncId} {first caps : List CapV} : callF P d args x s K (.fn f first caps) ↔ okFn P f = true ∧ a7S P d f first args caps (some x) s K := ⟨fun h => h, fun h => h⟩
@[simp] theorem b7h {args : List Operand} : stp P d s K (.callv x args) ↔ callF P d args x s K (s.ev x) := by
 first
 | exact ⟨fun h => h, fun h => h⟩
 | (simp only [stp, callF, a4V, a5V, a6V, a7V, a8V, a9V, a0W, a1W, a2W, a6W, a7W, a8W, a9W]; repeat' split
    all_goals first | (simp_all; done) | grind)
def snK (x : AV) (K : Bool → Prop) [Tg K] : Prop := match x with
   | .nil _ => K true
   | .sl _ _ _ m => ∀ b : Bool, (0 < m → b = false) → K b
   | .iv (.lst _ xs) => ∀ b : Bool, (xs ≠ [] → b = false) → K b
   | _ => False
section
variable {K2 : Bool → Prop} {sz o n : Nat} {xs : List (List IV)}
@[simp] theorem b8h : snK (.nil sz) K2 ↔ K2 true := ⟨fun h => h, fun h => h⟩
@[simp] theorem b9h : snK (.sl id sz o n) K2 ↔ ∀ b : Bool, (0 < n → b = false) → K2 b := ⟨fun h => h, fun h => h⟩
@[simp] theorem b0i : snK (.iv (.lst sz xs)) K2 ↔ ∀ b : Bool, (xs ≠ [] → b = false) → K2 b := ⟨fun h => h, fun h => h⟩
@[simp] theorem b1i {neg : Bool} : stp P d s K (.snil neg x) ↔ snK (s.ev x) fun b => K s (.iv (.v (.bool (if neg then !b else b)))) := by
 first
 | exact ⟨fun h => h, fun h => h⟩
 | (simp only [stp, snK, a4V, a5V, a6V, a7V, a8V, a9V, a0W, a1W, a2W, a6W, a7W, a8W, a9W]; repeat' split
    all_goals first | (simp_all; done) | grind)
end
section
variable {sz bytes : Nat} {z : List AV} {l c m k : Operand} {sk : Sk} {ok : Bool}
def mksC (s : St) (d sz bytes : Nat) (z : List AV) (m q : Int) (K : St → AV → Prop) [Tg K] : Option Nat → Prop
 | some sz' => 0 ≤ m ∧ q = m ∧ m < 2 ^ 62 ∧ (bytes : Int) * m ≤ 2 ^ 47 ∧ sz = 1 ∧ K ((s.drop d).add d (.listo sz' (List.replicate m.toNat []) none)) (.sl d 1 0 m.toNat)
 | none => onS (allO AV.iv? z) fun zi => 0 ≤ m ∧ q = m ∧ m < 2 ^ 62 ∧ (bytes : Int) * m ≤ 2 ^ 47 ∧ K ((s.drop d).add d (.list sz (List.replicate m.toNat zi))) (.sl d sz 0 m.toNat)
@[simp] theorem b2i {sz : Nat} : b0V [.nil sz] = some sz := rfl
@[simp] theorem nilOf_iv {x : IV} {r : List AV} : b0V (.iv x :: r) = none := by cases r <;> rfl
@[simp] theorem b3i {x y : AV} {r : List AV} : b0V (x :: y :: r) = none := by cases x <;> rfl
@[simp] theorem b4i {sz' : Nat} {m q : Int} : mksC s d sz bytes z m q K (some sz') ↔ 0 ≤ m ∧ q = m ∧ m < 2 ^ 62 ∧ (bytes : Int) * m ≤ 2 ^ 47 ∧ sz = 1 ∧ K ((s.drop d).add d (.listo sz' (List.replicate m.toNat []) none)) (.sl d 1 0 m.toNat) := ⟨fun h => h, fun h => h⟩
@[simp] theorem b5i {m q : Int} : mksC s d sz bytes z m q K none ↔ onS (allO AV.iv? z) fun zi => 0 ≤ m ∧ q = m ∧ m < 2 ^ 62 ∧ (bytes : Int) * m ≤ 2 ^ 47 ∧ K ((s.drop d).add d (.list sz (List.replicate m.toNat zi))) (.sl d sz 0 m.toNat) := ⟨fun h => h, fun h => h⟩
@[simp] theorem b6i : stp P d s K (.mks sz bytes z l c) ↔ onI (s.ev l) fun m => onI (s.ev c) fun q => mksC s d sz bytes z m q K (b0V z) := by
 cases hz : b0V z with
 | some sz' => simp only [stp, hz, b4i, a0W]; repeat' split
               all_goals first | (simp_all; done) | grind
 | none => simp only [stp, hz, b5i, b0d, a0W, a1W]; repeat' split
           all_goals first | (simp_all; done) | grind
def cpyK (s : St) (sz : Nat) (K : St → AV → Prop) [Tg K] : Option (Nat × List (List IV)) → AV → Prop
 | some (sz2, ys), .sl id sz' lo m => a3T (look s.hp id) fun sz3 xs => (xs ≠ [] ∧ lo = 0) ∧ (sz' = sz ∧ sz3 = sz ∧ sz2 = sz) ∧ m = xs.length ∧ ys.length = m ∧ K (s.add id (.list sz ys)) (.iv (.v (.int .i64 m)))
 | _, _ => False
@[simp] theorem b7i {sz sz2 id sz' lo m : Nat} {ys : List (List IV)} : cpyK s sz K (some (sz2, ys)) (.sl id sz' lo m) ↔ a3T (look s.hp id) fun sz3 xs => (xs ≠ [] ∧ lo = 0) ∧ (sz' = sz ∧ sz3 = sz ∧ sz2 = sz) ∧ m = xs.length ∧ ys.length = m ∧ K (s.add id (.list sz ys)) (.iv (.v (.int .i64 m))) := Iff.rfl
@[simp] theorem stp_cpy {sz : Nat} : stp P d s K (.cpy sz x y) ↔ cpyK s sz K (s.elems (s.ev y)) (s.ev x) := by
 simp only [stp]
 generalize s.ev x = ax
 generalize s.elems (s.ev y) = e
 cases e with
 | none => cases ax <;> exact Iff.rfl
 | some p => obtain ⟨sz2, ys⟩ := p; cases ax with
   | sl id sz' lo m =>
     simp only [b7i, a6W]
     repeat' split
     all_goals first | (simp_all; done) | grind
   | _ => exact Iff.rfl
def clrK (s : St) (sz : Nat) (K : St → AV → Prop) [Tg K] : Option (List IV) → AV → Prop
 | some zi, .sl id sz' lo m => a3T (look s.hp id) fun sz3 xs => (sz' = sz ∧ sz3 = sz) ∧ (0 < m ∧ lo + m ≤ xs.length) ∧ K (s.add id (.list sz (xs.take lo ++ List.replicate m zi ++ xs.drop (lo + m)))) (.tup [])
 | _, _ => False
@[simp] theorem b8i {sz id sz' lo m : Nat} {zi : List IV} : clrK s sz K (some zi) (.sl id sz' lo m) ↔ a3T (look s.hp id) fun sz3 xs => (sz' = sz ∧ sz3 = sz) ∧ (0 < m ∧ lo + m ≤ xs.length) ∧ K (s.add id (.list sz (xs.take lo ++ List.replicate m zi ++ xs.drop (lo + m)))) (.tup []) := Iff.rfl
@[simp] theorem stp_clr {sz : Nat} {z : List AV} : stp P d s K (.clr sz z x) ↔ clrK s sz K (allO AV.iv? z) (s.ev x) := by
 simp only [stp, b0d]
 generalize s.ev x = ax
 generalize allO AV.iv? z = e
 cases e with
 | none => cases ax <;> exact Iff.rfl
 | some zi => cases ax with
   | sl id sz' lo m =>
     simp only [b8i, a6W]
     repeat' split
     all_goals first | (simp_all; done) | grind
   | _ => exact Iff.rfl
@[simp] theorem b9i : stp P d s K (.mkmap sk) ↔ K ((s.drop d).add d (.map sk fun _ => none)) (.mpr d) := ⟨fun h => h, fun h => h⟩
@[simp] theorem b0j : stp P d s K (.mdel sk m k) ↔ a8T (s.ev m) fun id => onS (c7b (s.ev k)) fun kk => a5T (look s.hp id) fun sk1 g => sk1 = sk ∧ kk.1 = (sk.1, sk.2.1) ∧ K (s.add id (.map sk (gset g kk.2 none))) (.tup []) := by
 first
 | exact ⟨fun h => h, fun h => h⟩
 | (simp only [stp, a4V, a5V, a6V, a7V, a8V, a9V, a0W, a1W, a2W, a6W, a7W, a8W, a9W]; repeat' split
    all_goals first | (simp_all; done) | grind)
@[simp] theorem b1j : stp P d s K (.lenm x) ↔ onS (s.mapOf (s.ev x)) fun p => ∀ n : Nat, (n = 0 ↔ ∀ k, p.2 k = none) → K s (.iv (.v (.int .i64 n))) := by
 first
 | exact ⟨fun h => h, fun h => h⟩
 | (simp only [stp, a4V, a5V, a6V, a7V, a8V, a9V, a0W, a1W, a2W, a6W, a7W, a8W, a9W]; repeat' split
    all_goals first | (simp_all; done) | grind)
@[simp] theorem b2j : stp P d s K (.ment sk z m k) ↔ a8T (s.ev m) fun id => onS (c7b (s.ev k)) fun kk => onS (allO AV.iv? z) fun zi => a5T (look s.hp id) fun sk1 g => sk1 = sk ∧ kk.1 = (sk.1, sk.2.1) ∧
   ∀ n : Int, K (s.add id (.mapS sk (gset g kk.2 (some ((g kk.2).getD zi))) n kk.2)) (.tup [c9b sk.2.2 (((g kk.2).getD zi).map .iv), .iv (.v (.int .i64 n))]) := by
 first
 | exact ⟨fun h => h, fun h => h⟩
 | (simp only [stp, a4V, a5V, a6V, a7V, a8V, a9V, a0W, a1W, a2W, a6W, a7W, a8W, a9W]; repeat' split
    all_goals first | (simp_all; done) | grind)
@[simp] theorem b3j : stp P d s K (.est m k x) ↔ a8T ((s.frz [s.ev x]).ev m) fun id => onI ((s.frz [s.ev x]).ev k) fun n' => onS (((s.frz [s.ev x]).ev x).cellsOf.bind fun cs => allO AV.iv? cs) fun c =>
   a6T (look (s.frz [s.ev x]).hp id) fun sk g n kk => n' = n ∧ c8b ((s.frz [s.ev x]).ev x) = sk.2.2 ∧ K ((s.frz [s.ev x]).add id (.map sk (gset g kk (some c)))) .un := by
 first
 | exact ⟨fun h => h, fun h => h⟩
 | (simp only [stp, b0d, a4V, a5V, a6V, a7V, a8V, a9V, a0W, a1W, a2W, a6W, a7W, a8W, a9W]; repeat' split
    all_goals first | (simp_all; done) | grind)
def onMp (x : AV) (K : Sk → (List Value → Option (List IV)) → Prop) [Tg K] : Prop := match x with | .iv (.mp sk g) => K sk g | _ => False
@[simp] theorem b4j {g} {K : Sk → (List Value → Option (List IV)) → Prop} : onMp (.iv (.mp sk g)) K ↔ K sk g := ⟨fun h => h, fun h => h⟩
@[simp] theorem b5j : stp P d s K (.rng sk x) ↔ onMp (((s.frz [s.ev x]).drop d).ev x) fun sk' g => sk' = sk ∧
   ∀ L : List (List Value), L.Nodup → (∀ k, k ∈ L ↔ g k ≠ none) → (∀ k ∈ L, k.mapM kdOf = some sk.2.1) → K (((s.frz [s.ev x]).drop d).add d (.iter sk g L none)) (.ptr d 0) := by
 first
 | exact ⟨fun h => h, fun h => h⟩
 | (simp only [stp, onMp, a4V, a5V, a6V, a7V, a8V, a9V, a0W, a1W, a2W, a6W, a7W, a8W, a9W]; repeat' split
    all_goals first | (simp_all; done) | grind)
def onP0 (x : AV) (K : Nat → Prop) [Tg K] : Prop := match x with | .ptr id 0 => K id | _ => False
@[simp] theorem b6j {K : Nat → Prop} : onP0 (.ptr id 0) K ↔ K id := ⟨fun h => h, fun h => h⟩
@[simp] theorem b7j : stp P d s K (.nxt x) ↔ onP0 (s.ev x) fun id => a7T (look s.hp id) fun sk g left _ => (left = [] → K s (.tup [.iv (.v (.bool false))])) ∧
         ∀ k c, k ∈ left → g k = some c → k.mapM kdOf = some sk.2.1 → K (s.add id (.iter sk g (rmk k left) (some k))) (.tup [vtrue, c9b sk.1 (k.map fun v => .iv (.v v)), c9b sk.2.2 (c.map .iv)]) := by
 first
 | exact ⟨fun h => h, fun h => h⟩
 | (simp only [stp, onP0, a4V, a5V, a6V, a7V, a8V, a9V, a0W, a1W, a2W, a6W, a7W, a8W, a9W]; repeat' split
    all_goals first | (simp_all; done) | grind)
@[simp] theorem b8j : stp P d s K (.ent x) ↔ onP0 (s.ev x) fun id => a7T (look s.hp id) fun sk g _ last => onS last fun k => ∀ c, g k = some c → K s (.tup [c9b sk.1 (k.map fun v => .iv (.v v)), c9b sk.2.2 (c.map .iv)]) := by
 simp only [stp]
 split
 · rename_i i e
   rw [e]
   simp only [onP0]
   cases hl : look s.hp i with
   | none => simp [a7T]
   | some o => cases o with
     | iter sk g left last => cases last <;> simp [a7T]
     | _ => simp [a7T]
 · rename_i hn
   refine ⟨fun h => h.elim, fun h => ?_⟩
   unfold onP0 at h
   split at h
   · rename_i e; exact (hn _ e).elim
   · exact h
end
end
section
variable {n r : St → Prop} {x g : Nat → St → Prop} {s : St} {i : Nat}
theorem b9j : Outs.n ⟨n, x, r, g⟩ s ↔ n s := ⟨fun h => h, fun h => h⟩
theorem b0k : Outs.x ⟨n, x, r, g⟩ i s ↔ x i s := ⟨fun h => h, fun h => h⟩
theorem b1k : Outs.r ⟨n, x, r, g⟩ s ↔ r s := ⟨fun h => h, fun h => h⟩
theorem b2k : Outs.g ⟨n, x, r, g⟩ i s ↔ g i s := ⟨fun h => h, fun h => h⟩
end
attribute [simp ↓] b9j b0k b1k b2k
attribute [simp ↓] onB_b onG_b a9T onD_t onD_f a0U a1U a2U a3U a4U onV_v onI_i onT_t a5U onS_n a6U a7U a8U a9U a0V a1V a2V a3V a6Z a7Z a8Z a9Z b0a b1a b2a b3a b4a b5a b6a b7a b8a b9a b0b b1b b2b b3b b4b b5b b6b b7b b8b b9b b0c b1c b2c b3c b4c b5c b6c b7c b8c b9c b1d b2d b3d b4d b5d b6d b7d b8d b9d b0e b1e b2e b3e b4e b5e b6e b7e b8e b9e b0f b1f b2f b3f b4f b5f b6f b7f b8f b9f b0g b1g b2g b3g b4g b5g b6g b7g b8g b9g b0h b1h b2h b3h b4h b6h b7h b8h b9h b0i b1i b6i b9i b0j b1j b2j b3j b4j b5j b6j b7j b8j
attribute [simp ↓ low] onD_b onH_t onH_f
end Go.Vm
end
