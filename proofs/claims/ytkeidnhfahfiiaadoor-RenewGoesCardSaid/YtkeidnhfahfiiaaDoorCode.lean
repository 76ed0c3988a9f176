/- Code of functions of the given program in compact form, printed by a program of this repository (wip/tools/gen.py) out of what Lean prints of the loaded functions; each is checked by the kernel. -/
import Derived.Test.YtkeidnhfahfiiaaDoorZ3
import Derived.Test.YtkeidnhfahfiiaaDoorZ3
import Derived.Test.YtkeidnhfahfiiaaDoorProg
import Derived.KernelRfl
namespace Go.Proofs.YtkeidnhfahfiiaaDoor
open Go Go.Shade

/-- linnet/linnetlaw14.RenewTells -/
abbrev r3_0 : List CO := [
  ⟨some 3, .box (.t 0), none⟩,
  ⟨some 4, .box (.t 1), none⟩,
  ⟨some 6, .mv (.c (.p (.s (.bool false)))), none⟩]
abbrev r3_1 : List CO := [
  ⟨some 7, .load true 4 (.t 4), none⟩,
  ⟨some 8, .call (.c (.fn (.func 9) [] [])) [.t 7], none⟩,
  ⟨none, .store 4 (.t 4) (.t 8), none⟩]
abbrev r3_2 : List CO := [
  ⟨some 9, .load true 62 (.t 3), none⟩,
  ⟨some 10, .mv (.t 2), none⟩,
  ⟨some 11, .call (.c (.fn (.func 10) [] [])) [.t 9, .t 10], none⟩,
  ⟨some 12, .load true 62 (.t 3), none⟩,
  ⟨some 13, .mv (.t 2), none⟩,
  ⟨some 14, .call (.c (.fn (.func 11) [] [])) [.t 12, .t 13], none⟩,
  ⟨some 15, .beq false (.t 11) (.t 14), none⟩,
  ⟨some 16, .mv (.t 15), none⟩,
  ⟨some 17, .load true 62 (.t 3), some (16, true)⟩,
  ⟨some 18, .load true 4 (.t 4), some (16, true)⟩,
  ⟨some 19, .call (.c (.fn (.func 13) [] [])) [.t 17, .t 18], some (16, true)⟩,
  ⟨some 20, .load true 62 (.t 3), some (16, true)⟩,
  ⟨some 21, .load true 4 (.t 4), some (16, true)⟩,
  ⟨some 22, .call (.c (.fn (.func 14) [] [])) [.t 20, .t 21], some (16, true)⟩,
  ⟨some 23, .call (.c (.fn (.func 12) [] [])) [.t 19, .t 22], some (16, true)⟩,
  ⟨some 24, .pick (.t 16) (.t 23) (.c (.p (.s (.bool false)))), none⟩,
  ⟨some 25, .mv (.t 24), none⟩,
  ⟨some 26, .call (.c (.fn (.func 15) [] [])) [], some (25, true)⟩,
  ⟨some 27, .pick (.t 25) (.t 26) (.c (.p (.s (.bool false)))), none⟩,
  ⟨some 6, .mv (.t 27), none⟩]
abbrev b3_2 : List (List Nat) := [[], [], [0, 1], [], [], [3, 4, 2], [2, 5], [6, 5], [7], [7], [8, 9, 7, 7], [7], [7], [11, 12, 10, 7], [10, 13, 13, 7], [7, 14], [15, 14], [16, 16], [16, 17], [18, 17, 0, 1, 2, 3, 4, 5, 6, 7, 8, 9, 10, 11, 12, 13, 14, 15, 16, 17, 18]]
abbrev c3 : CC := .seq (.reg r3_0) (.seq (.reg r3_1) (.seq (.regd r3_2 b3_2) (.rest [6] (.ret))))
theorem F3 : Fun Tryd.prog 3 28 c3 [.tmp 6] 3 := ⟨⟨Tryd.f3, _, Tryd.func3, rfl, by kernel_rfl, Tryd.ntmps3, by kernel_rfl, by kernel_rfl⟩, by decide⟩

/-- linnet/linnetlaw14.RenewLong -/
abbrev r4_0 : List CO := [
  ⟨some 2, .box (.t 0), none⟩,
  ⟨some 3, .box (.t 1), none⟩,
  ⟨some 4, .mv (.c (.p (.s (.bool false)))), none⟩]
abbrev r4_1 : List CO := [
  ⟨some 6, .load true 4 (.t 3), none⟩,
  ⟨some 7, .call (.c (.fn (.func 9) [] [])) [.t 6], none⟩,
  ⟨none, .store 4 (.t 3) (.t 7), none⟩]
abbrev r4_2 : List CO := [
  ⟨some 8, .load true 62 (.t 2), none⟩,
  ⟨some 9, .load true 4 (.t 3), none⟩,
  ⟨some 10, .call (.c (.fn (.func 13) [] [])) [.t 8, .t 9], none⟩,
  ⟨some 5, .mv (.t 10), none⟩]
abbrev r4_3 : List CO := [
  ⟨some 11, .load true 4 (.t 3), none⟩,
  ⟨some 12, .call (.c (.fn (.func 16) [] [])) [.t 11], none⟩,
  ⟨some 13, .bin .neq (.t 12) (.c (.p (.s (.int .i64 0)))), none⟩]
abbrev r4_4 : List CO := [
  ⟨some 14, .mv (.t 5), none⟩,
  ⟨some 15, .len (.t 14), none⟩,
  ⟨some 16, .bin .eql (.t 15) (.c (.p (.s (.int .i64 0)))), none⟩,
  ⟨some 17, .mv (.t 16), none⟩,
  ⟨some 18, .call (.c (.fn (.func 15) [] [])) [], some (17, true)⟩,
  ⟨some 19, .pick (.t 17) (.t 18) (.c (.p (.s (.bool false)))), none⟩,
  ⟨some 4, .mv (.t 19), none⟩]
abbrev r4_5 : List CO := [
  ⟨some 20, .mv (.t 5), none⟩,
  ⟨some 21, .len (.t 20), none⟩,
  ⟨some 22, .faddr 0 (.t 3), none⟩,
  ⟨some 23, .faddr 0 (.t 22), none⟩,
  ⟨some 24, .load false 1 (.t 23), none⟩,
  ⟨some 25, .len (.t 24), none⟩,
  ⟨some 26, .bin .mul (.c (.p (.s (.int .i64 3)))) (.t 25), none⟩,
  ⟨some 27, .bin .add (.t 26) (.c (.p (.s (.int .i64 2)))), none⟩,
  ⟨some 28, .bin .leq (.t 21) (.t 27), none⟩,
  ⟨some 29, .mv (.t 28), none⟩,
  ⟨some 30, .mv (.t 5), some (29, true)⟩,
  ⟨some 31, .len (.t 30), some (29, true)⟩,
  ⟨some 32, .faddr 0 (.t 3), some (29, true)⟩,
  ⟨some 33, .faddr 0 (.t 32), some (29, true)⟩,
  ⟨some 34, .load false 1 (.t 33), some (29, true)⟩,
  ⟨some 35, .len (.t 34), some (29, true)⟩,
  ⟨some 36, .bin .geq (.t 31) (.t 35), some (29, true)⟩,
  ⟨some 37, .pick (.t 29) (.t 36) (.c (.p (.s (.bool false)))), none⟩,
  ⟨some 38, .mv (.t 37), none⟩,
  ⟨some 39, .load true 62 (.t 2), some (38, true)⟩,
  ⟨some 40, .build ([.s (.slice none 0 0), .s (.int .i64 0), .s (.bool false), .s (.bool false)]) [], some (38, true)⟩,
  ⟨some 41, .call (.c (.fn (.func 13) [] [])) [.t 39, .t 40], some (38, true)⟩,
  ⟨some 42, .len (.t 41), some (38, true)⟩,
  ⟨some 43, .bin .eql (.t 42) (.c (.p (.s (.int .i64 0)))), some (38, true)⟩,
  ⟨some 44, .pick (.t 38) (.t 43) (.c (.p (.s (.bool false)))), none⟩,
  ⟨some 45, .mv (.t 44), none⟩,
  ⟨some 46, .call (.c (.fn (.func 15) [] [])) [], some (45, true)⟩,
  ⟨some 47, .pick (.t 45) (.t 46) (.c (.p (.s (.bool false)))), none⟩,
  ⟨some 4, .mv (.t 47), none⟩]
abbrev c4 : CC := .seq (.reg r4_0) (.seq (.reg r4_1) (.seq (.reg r4_2) (.rest [2, 3, 5] (.seq (.seq (.reg r4_3) (.cond (.t 13) (.seq (.reg r4_4) (.rest [4] (.ret))) (.skip))) (.rest [2, 3, 5] (.seq (.reg r4_5) (.rest [4] (.ret))))))))
theorem F4 : Fun Tryd.prog 4 48 c4 [.tmp 4] 2 := ⟨⟨Tryd.f4, _, Tryd.func4, rfl, by kernel_rfl, Tryd.ntmps4, by kernel_rfl, by kernel_rfl⟩, by decide⟩

/-- linnet/linnetlaw14.RenewPlain -/
abbrev r5_0 : List CO := [
  ⟨some 2, .box (.t 0), none⟩,
  ⟨some 4, .mv (.c (.p (.s (.bool false)))), none⟩]
abbrev r5_1 : List CO := [
  ⟨some 10, .mv (.t 1), none⟩,
  ⟨some 11, .call (.c (.fn (.func 17) [] [])) [.t 10], none⟩,
  ⟨some 1, .mv (.t 11), none⟩]
abbrev r5_2 : List CO := [
  ⟨some 5, .mv (.c (.p (.s (.bool true)))), none⟩]
abbrev r5_3 : List CO := [
  ⟨some 6, .mv (.c (.p (.s (.int .i64 0)))), none⟩]
abbrev r5_4 : List CO := [
  ⟨some 12, .mv (.t 6), none⟩,
  ⟨some 13, .mv (.t 1), none⟩,
  ⟨some 14, .len (.t 13), none⟩,
  ⟨some 15, .bin .lss (.t 12) (.t 14), none⟩]
abbrev r5_6 : List CO := [
  ⟨some 18, .mv (.t 5), none⟩,
  ⟨some 19, .mv (.t 18), none⟩,
  ⟨some 20, .load true 62 (.t 2), some (19, true)⟩,
  ⟨some 21, .mv (.t 1), some (19, true)⟩,
  ⟨some 22, .mv (.t 6), some (19, true)⟩,
  ⟨some 23, .iaddrS 1 (.t 21) (.t 22), some (19, true)⟩,
  ⟨some 24, .load false 1 (.t 23), some (19, true)⟩,
  ⟨some 25, .call (.c (.fn (.func 10) [] [])) [.t 20, .t 24], some (19, true)⟩,
  ⟨some 26, .pick (.t 19) (.t 25) (.c (.p (.s (.bool false)))), none⟩,
  ⟨some 5, .mv (.t 26), none⟩]
abbrev b5_6 : List (List Nat) := [[], [0], [1], [1], [1], [3, 4, 1], [5, 1], [2, 6, 1, 1], [1, 7], [8, 7, 0, 1, 2, 3, 4, 5, 6, 7, 8]]
abbrev k5_1 : CC := .regd r5_6 b5_6
abbrev r5_5 : List CO := [
  ⟨some 16, .mv (.t 6), none⟩,
  ⟨some 17, .bin .add (.t 16) (.c (.p (.s (.int .i64 1)))), none⟩,
  ⟨some 6, .mv (.t 17), none⟩]
abbrev l5_9 : CC := .seq (.seq (.reg r5_4) (.rest [1, 2, 5, 6, 15] (.cond (.t 15) (.skip) (.exit 0)))) (.rest [1, 2, 5, 6] (.seq (.block 1 k5_1) (.rest [1, 2, 5, 6] (.reg r5_5))))
abbrev k5_0 : CC := .loop l5_9
abbrev r5_7 : List CO := [
  ⟨some 27, .mv (.t 5), none⟩,
  ⟨some 28, .un .not (.t 27), none⟩]
abbrev r5_8 : List CO := [
  ⟨some 29, .call (.c (.fn (.func 15) [] [])) [], none⟩,
  ⟨some 4, .mv (.t 29), none⟩]
abbrev r5_9 : List CO := [
  ⟨some 31, .load true 62 (.t 2), none⟩,
  ⟨some 32, .build ([.s (.slice none 0 0), .s (.int .i64 0), .s (.bool false), .s (.bool false)]) [], none⟩,
  ⟨some 33, .mv (.t 1), none⟩,
  ⟨some 34, .call (.c (.fn (.func 18) [] [])) [.t 31, .c (.p (.s (.int .i64 4096))), .t 32, .t 33], none⟩,
  ⟨some 30, .mv (.t 34), none⟩,
  ⟨some 35, .extract 0 (.t 30), none⟩,
  ⟨some 36, .extract 1 (.t 30), none⟩,
  ⟨some 37, .extract 2 (.t 30), none⟩,
  ⟨some 7, .alloc ([.s (.slice none 0 0), .s (.int .i64 0), .s (.bool false), .s (.bool false)]), none⟩,
  ⟨none, .store 4 (.t 7) (.t 35), none⟩,
  ⟨some 8, .mv (.t 36), none⟩,
  ⟨some 9, .mv (.t 37), none⟩]
abbrev r5_10 : List CO := [
  ⟨some 38, .load true 62 (.t 2), none⟩,
  ⟨some 39, .load true 4 (.t 7), none⟩,
  ⟨some 40, .call (.c (.fn (.func 13) [] [])) [.t 38, .t 39], none⟩,
  ⟨some 41, .mv (.t 1), none⟩,
  ⟨some 42, .call (.c (.fn (.func 12) [] [])) [.t 40, .t 41], none⟩,
  ⟨some 43, .mv (.t 42), none⟩,
  ⟨some 44, .faddr 0 (.t 7), some (43, true)⟩,
  ⟨some 45, .faddr 0 (.t 44), some (43, true)⟩,
  ⟨some 46, .load false 1 (.t 45), some (43, true)⟩,
  ⟨some 47, .mv (.t 1), some (43, true)⟩,
  ⟨some 48, .call (.c (.fn (.func 12) [] [])) [.t 46, .t 47], some (43, true)⟩,
  ⟨some 49, .pick (.t 43) (.t 48) (.c (.p (.s (.bool false)))), none⟩,
  ⟨some 50, .mv (.t 49), none⟩,
  ⟨some 51, .mv (.t 8), some (50, true)⟩,
  ⟨some 52, .len (.t 51), some (50, true)⟩,
  ⟨some 53, .bin .eql (.t 52) (.c (.p (.s (.int .i64 0)))), some (50, true)⟩,
  ⟨some 54, .pick (.t 50) (.t 53) (.c (.p (.s (.bool false)))), none⟩,
  ⟨some 55, .mv (.t 54), none⟩,
  ⟨some 56, .mv (.t 9), some (55, true)⟩,
  ⟨some 57, .bin .eql (.t 56) (.c (.p (.s (.int .i64 0)))), some (55, true)⟩,
  ⟨some 58, .pick (.t 55) (.t 57) (.c (.p (.s (.bool false)))), none⟩,
  ⟨some 59, .mv (.t 58), none⟩,
  ⟨some 60, .call (.c (.fn (.func 15) [] [])) [], some (59, true)⟩,
  ⟨some 61, .pick (.t 59) (.t 60) (.c (.p (.s (.bool false)))), none⟩,
  ⟨some 4, .mv (.t 61), none⟩]
abbrev c5 : CC := .seq (.reg r5_0) (.seq (.reg r5_1) (.seq (.reg r5_2) (.seq (.seq (.reg r5_3) (.block 0 k5_0)) (.rest [1, 2, 5] (.seq (.seq (.reg r5_7) (.cond (.t 28) (.seq (.reg r5_8) (.ret)) (.skip))) (.rest [1, 2] (.seq (.reg r5_9) (.rest [1, 2, 7, 8, 9] (.seq (.reg r5_10) (.rest [4] (.ret)))))))))))
theorem F5 : Fun Tryd.prog 5 62 c5 [.tmp 4] 2 := ⟨⟨Tryd.f5, _, Tryd.func5, rfl, by kernel_rfl, Tryd.ntmps5, by kernel_rfl, by kernel_rfl⟩, by decide⟩

/-- linnet/linnetlaw14.RenewMakes -/
abbrev r6_0 : List CO := [
  ⟨some 1, .box (.t 0), none⟩,
  ⟨some 2, .mv (.c (.p (.s (.bool false)))), none⟩]
abbrev r6_1 : List CO := [
  ⟨some 7, .load true 64 (.t 1), none⟩,
  ⟨some 8, .call (.c (.fn (.func 19) [] [])) [.t 7], none⟩,
  ⟨some 3, .alloc ([.s (.slice none 0 0), .s (.int .i64 0), .s (.bool false), .s (.bool false)]), none⟩,
  ⟨none, .store 4 (.t 3) (.t 8), none⟩]
abbrev r6_2 : List CO := [
  ⟨some 10, .faddr 0 (.t 1), none⟩,
  ⟨some 11, .load true 62 (.t 10), none⟩,
  ⟨some 12, .faddr 62 (.t 1), none⟩,
  ⟨some 13, .load false 1 (.t 12), none⟩,
  ⟨some 14, .build ([.s (.slice none 0 0), .s (.int .i64 0), .s (.bool false), .s (.bool false)]) [], none⟩,
  ⟨some 15, .faddr 0 (.t 1), none⟩,
  ⟨some 16, .load true 62 (.t 15), none⟩,
  ⟨some 17, .load true 4 (.t 3), none⟩,
  ⟨some 18, .call (.c (.fn (.func 13) [] [])) [.t 16, .t 17], none⟩,
  ⟨some 19, .call (.c (.fn (.func 18) [] [])) [.t 11, .t 13, .t 14, .t 18], none⟩,
  ⟨some 9, .mv (.t 19), none⟩,
  ⟨some 20, .extract 0 (.t 9), none⟩,
  ⟨some 21, .extract 1 (.t 9), none⟩,
  ⟨some 22, .extract 2 (.t 9), none⟩,
  ⟨some 4, .alloc ([.s (.slice none 0 0), .s (.int .i64 0), .s (.bool false), .s (.bool false)]), none⟩,
  ⟨none, .store 4 (.t 4) (.t 20), none⟩,
  ⟨some 5, .mv (.t 21), none⟩,
  ⟨some 6, .mv (.t 22), none⟩]
abbrev b6_2 : List (List Nat) := [[], [0], [], [2], [], [], [5], [], [6, 7], [1, 3, 4, 8, 8], [9], [10], [10], [10], [], [14, 11, 9, 0, 1, 2, 3, 4, 5, 6, 7, 8, 9, 10, 11, 14], [12, 15, 0, 1, 2, 3, 4, 5, 6, 7, 8, 9, 10, 11, 12, 14, 15], [13, 16, 0, 1, 2, 3, 4, 5, 6, 7, 8, 9, 10, 11, 12, 13, 14, 15, 16]]
abbrev r6_3 : List CO := [
  ⟨some 23, .load true 4 (.t 4), none⟩,
  ⟨some 24, .load true 4 (.t 3), none⟩,
  ⟨some 25, .call (.c (.fn (.func 20) [] [])) [.t 23, .t 24], none⟩,
  ⟨some 26, .mv (.t 25), none⟩,
  ⟨some 27, .mv (.t 5), some (26, true)⟩,
  ⟨some 28, .len (.t 27), some (26, true)⟩,
  ⟨some 29, .bin .eql (.t 28) (.c (.p (.s (.int .i64 0)))), some (26, true)⟩,
  ⟨some 30, .pick (.t 26) (.t 29) (.c (.p (.s (.bool false)))), none⟩,
  ⟨some 31, .mv (.t 30), none⟩,
  ⟨some 32, .mv (.t 6), some (31, true)⟩,
  ⟨some 33, .bin .eql (.t 32) (.c (.p (.s (.int .i64 0)))), some (31, true)⟩,
  ⟨some 34, .pick (.t 31) (.t 33) (.c (.p (.s (.bool false)))), none⟩,
  ⟨some 35, .mv (.t 34), none⟩,
  ⟨some 36, .call (.c (.fn (.func 15) [] [])) [], some (35, true)⟩,
  ⟨some 37, .pick (.t 35) (.t 36) (.c (.p (.s (.bool false)))), none⟩,
  ⟨some 2, .mv (.t 37), none⟩]
abbrev c6 : CC := .seq (.reg r6_0) (.seq (.reg r6_1) (.rest [1, 3] (.seq (.regd r6_2 b6_2) (.rest [3, 4, 5, 6] (.seq (.reg r6_3) (.rest [2] (.ret)))))))
theorem F6 : Fun Tryd.prog 6 38 c6 [.tmp 2] 1 := ⟨⟨Tryd.f6, _, Tryd.func6, rfl, by kernel_rfl, Tryd.ntmps6, by kernel_rfl, by kernel_rfl⟩, by decide⟩

/-- linnet/linnetlaw14.RenewAgain -/
abbrev r7_0 : List CO := [
  ⟨some 2, .box (.t 0), none⟩,
  ⟨some 4, .mv (.c (.p (.s (.bool false)))), none⟩]
abbrev r7_1 : List CO := [
  ⟨some 12, .load true 64 (.t 2), none⟩,
  ⟨some 13, .call (.c (.fn (.func 19) [] [])) [.t 12], none⟩,
  ⟨some 5, .alloc ([.s (.slice none 0 0), .s (.int .i64 0), .s (.bool false), .s (.bool false)]), none⟩,
  ⟨none, .store 4 (.t 5) (.t 13), none⟩]
abbrev r7_2 : List CO := [
  ⟨some 14, .faddr 0 (.t 2), none⟩,
  ⟨some 15, .load true 62 (.t 14), none⟩,
  ⟨some 16, .faddr 62 (.t 2), none⟩,
  ⟨some 17, .load false 1 (.t 16), none⟩,
  ⟨some 18, .mv (.t 1), none⟩,
  ⟨some 19, .build ([.s (.int .i64 0), .s (.int .u8 0), .s (.int .i64 0), .s (.int .u8 0), .s (.int .i64 0), .s (.int .u8 0), .s (.int .i64 0), .s (.int .u8 0), .s (.int .i64 0), .s (.int .u8 0), .s (.int .i64 0), .s (.int .u8 0), .s (.int .i64 0), .s (.int .u8 0), .s (.int .i64 0), .s (.int .u8 0), .s (.int .i64 0), .s (.int .u8 0), .s (.int .i64 0), .s (.int .u8 0), .s (.int .i64 0), .s (.int .u8 0), .s (.int .i64 0), .s (.int .u8 0), .s (.int .i64 0), .s (.int .u8 0), .s (.int .i64 0), .s (.int .u8 0), .s (.int .i64 0), .s (.int .u8 0), .s (.int .i64 0), .s (.int .u8 0), .s (.int .i64 0), .s (.int .u8 0), .s (.int .i64 0), .s (.int .u8 0), .s (.int .i64 0), .s (.int .u8 0), .s (.int .i64 0), .s (.int .u8 0), .s (.int .i64 0), .s (.int .u8 0), .s (.int .i64 0), .s (.int .u8 0), .s (.int .i64 0), .s (.int .u8 0), .s (.int .i64 0), .s (.int .u8 0), .s (.int .i64 0), .s (.int .u8 0), .s (.int .i64 0), .s (.int .u8 0), .s (.int .i64 0), .s (.int .u8 0), .s (.int .i64 0), .s (.int .u8 0), .s (.int .i64 0), .s (.int .u8 0), .s (.int .i64 0), .s (.int .u8 0), .s (.int .i64 0), .s (.int .u8 0), .s (.int .i64 0), .s (.slice none 0 0)]) [(0, 62, .t 15), (62, 1, .t 17), (63, 1, .t 18)], none⟩,
  ⟨some 20, .call (.c (.fn (.func 19) [] [])) [.t 19], none⟩,
  ⟨some 6, .alloc ([.s (.slice none 0 0), .s (.int .i64 0), .s (.bool false), .s (.bool false)]), none⟩,
  ⟨none, .store 4 (.t 6) (.t 20), none⟩]
abbrev r7_3 : List CO := [
  ⟨some 21, .faddr 0 (.t 2), none⟩,
  ⟨some 22, .load true 62 (.t 21), none⟩,
  ⟨some 23, .load true 4 (.t 5), none⟩,
  ⟨some 24, .call (.c (.fn (.func 13) [] [])) [.t 22, .t 23], none⟩,
  ⟨some 25, .faddr 0 (.t 2), none⟩,
  ⟨some 26, .load true 62 (.t 25), none⟩,
  ⟨some 27, .load true 4 (.t 6), none⟩,
  ⟨some 28, .call (.c (.fn (.func 13) [] [])) [.t 26, .t 27], none⟩,
  ⟨some 7, .mv (.t 24), none⟩,
  ⟨some 8, .mv (.t 28), none⟩]
abbrev b7_3 : List (List Nat) := [[], [0], [], [1, 2], [], [4], [], [5, 6, 3], [3, 7, 0, 1, 2, 3], [7, 8, 0, 1, 2, 3, 4, 5, 6, 7, 8]]
abbrev r7_4 : List CO := [
  ⟨some 30, .faddr 0 (.t 2), none⟩,
  ⟨some 31, .load true 62 (.t 30), none⟩,
  ⟨some 32, .faddr 62 (.t 2), none⟩,
  ⟨some 33, .load false 1 (.t 32), none⟩,
  ⟨some 34, .build ([.s (.slice none 0 0), .s (.int .i64 0), .s (.bool false), .s (.bool false)]) [], none⟩,
  ⟨some 35, .mv (.t 7), none⟩,
  ⟨some 36, .call (.c (.fn (.func 18) [] [])) [.t 31, .t 33, .t 34, .t 35], none⟩,
  ⟨some 29, .mv (.t 36), none⟩,
  ⟨some 37, .extract 0 (.t 29), none⟩,
  ⟨some 38, .extract 1 (.t 29), none⟩,
  ⟨some 39, .extract 2 (.t 29), none⟩,
  ⟨some 9, .alloc ([.s (.slice none 0 0), .s (.int .i64 0), .s (.bool false), .s (.bool false)]), none⟩,
  ⟨none, .store 4 (.t 9) (.t 37), none⟩,
  ⟨some 10, .mv (.t 38), none⟩,
  ⟨some 11, .mv (.t 39), none⟩]
abbrev r7_5 : List CO := [
  ⟨some 40, .faddr 0 (.t 2), none⟩,
  ⟨some 41, .load true 62 (.t 40), none⟩,
  ⟨some 42, .load true 4 (.t 9), none⟩,
  ⟨some 43, .call (.c (.fn (.func 13) [] [])) [.t 41, .t 42], none⟩,
  ⟨some 44, .mv (.t 7), none⟩,
  ⟨some 45, .call (.c (.fn (.func 12) [] [])) [.t 43, .t 44], none⟩,
  ⟨some 46, .mv (.t 45), none⟩,
  ⟨some 47, .mv (.t 7), some (46, true)⟩,
  ⟨some 48, .mv (.t 8), some (46, true)⟩,
  ⟨some 49, .call (.c (.fn (.func 12) [] [])) [.t 47, .t 48], some (46, true)⟩,
  ⟨some 50, .load true 4 (.t 5), some (46, true)⟩,
  ⟨some 51, .load true 4 (.t 6), some (46, true)⟩,
  ⟨some 52, .call (.c (.fn (.func 20) [] [])) [.t 50, .t 51], some (46, true)⟩,
  ⟨some 53, .beq false (.t 49) (.t 52), some (46, true)⟩,
  ⟨some 54, .pick (.t 46) (.t 53) (.c (.p (.s (.bool false)))), none⟩,
  ⟨some 55, .mv (.t 54), none⟩,
  ⟨some 56, .call (.c (.fn (.func 15) [] [])) [], some (55, true)⟩,
  ⟨some 57, .pick (.t 55) (.t 56) (.c (.p (.s (.bool false)))), none⟩,
  ⟨some 4, .mv (.t 57), none⟩]
abbrev b7_5 : List (List Nat) := [[], [0], [], [1, 2], [], [3, 4, 3], [5, 5], [6], [6], [7, 8, 6, 6], [6], [6], [10, 11, 9, 6], [9, 12, 6], [6, 13], [14, 12], [15, 15], [15, 16], [17, 16, 0, 1, 2, 3, 4, 5, 6, 7, 8, 9, 10, 11, 12, 13, 14, 15, 16, 17]]
abbrev c7 : CC := .seq (.reg r7_0) (.seq (.reg r7_1) (.rest [1, 2, 5] (.seq (.reg r7_2) (.rest [2, 5, 6] (.seq (.regd r7_3 b7_3) (.rest [2, 5, 6, 7, 8] (.seq (.reg r7_4) (.rest [2, 5, 6, 7, 8, 9] (.seq (.regd r7_5 b7_5) (.rest [4] (.ret)))))))))))
theorem F7 : Fun Tryd.prog 7 58 c7 [.tmp 4] 2 := ⟨⟨Tryd.f7, _, Tryd.func7, rfl, by kernel_rfl, Tryd.ntmps7, by kernel_rfl, by kernel_rfl⟩, by decide⟩

/-- linnet/linnetlaw14.RenewGoes -/
abbrev r8_0 : List CO := [
  ⟨some 2, .box (.t 0), none⟩,
  ⟨some 4, .mv (.c (.p (.s (.bool false)))), none⟩]
abbrev r8_1 : List CO := [
  ⟨some 12, .mv (.t 1), none⟩,
  ⟨some 13, .call (.c (.fn (.func 17) [] [])) [.t 12], none⟩,
  ⟨some 1, .mv (.t 13), none⟩]
abbrev r8_2 : List CO := [
  ⟨some 14, .load true 64 (.t 2), none⟩,
  ⟨some 15, .call (.c (.fn (.func 19) [] [])) [.t 14], none⟩,
  ⟨some 5, .alloc ([.s (.slice none 0 0), .s (.int .i64 0), .s (.bool false), .s (.bool false)]), none⟩,
  ⟨none, .store 4 (.t 5) (.t 15), none⟩]
abbrev r8_3 : List CO := [
  ⟨some 17, .faddr 0 (.t 2), none⟩,
  ⟨some 18, .load true 62 (.t 17), none⟩,
  ⟨some 19, .faddr 62 (.t 2), none⟩,
  ⟨some 20, .load false 1 (.t 19), none⟩,
  ⟨some 21, .load true 4 (.t 5), none⟩,
  ⟨some 22, .mv (.t 1), none⟩,
  ⟨some 23, .call (.c (.fn (.func 18) [] [])) [.t 18, .t 20, .t 21, .t 22], none⟩,
  ⟨some 16, .mv (.t 23), none⟩,
  ⟨some 24, .extract 0 (.t 16), none⟩,
  ⟨some 25, .extract 1 (.t 16), none⟩,
  ⟨some 26, .extract 2 (.t 16), none⟩,
  ⟨some 6, .alloc ([.s (.slice none 0 0), .s (.int .i64 0), .s (.bool false), .s (.bool false)]), none⟩,
  ⟨none, .store 4 (.t 6) (.t 24), none⟩,
  ⟨some 7, .mv (.t 25), none⟩,
  ⟨some 8, .mv (.t 26), none⟩]
abbrev r8_4 : List CO := [
  ⟨some 28, .faddr 0 (.t 2), none⟩,
  ⟨some 29, .load true 62 (.t 28), none⟩,
  ⟨some 30, .faddr 62 (.t 2), none⟩,
  ⟨some 31, .load false 1 (.t 30), none⟩,
  ⟨some 32, .build ([.s (.slice none 0 0), .s (.int .i64 0), .s (.bool false), .s (.bool false)]) [], none⟩,
  ⟨some 33, .faddr 0 (.t 2), none⟩,
  ⟨some 34, .load true 62 (.t 33), none⟩,
  ⟨some 35, .load true 4 (.t 5), none⟩,
  ⟨some 36, .call (.c (.fn (.func 13) [] [])) [.t 34, .t 35], none⟩,
  ⟨some 37, .mv (.t 1), none⟩,
  ⟨some 38, .append 1 1 ([.s (.int .u8 0)]) (.t 36) (.t 37), none⟩,
  ⟨some 39, .call (.c (.fn (.func 18) [] [])) [.t 29, .t 31, .t 32, .t 38], none⟩,
  ⟨some 27, .mv (.t 39), none⟩,
  ⟨some 40, .extract 0 (.t 27), none⟩,
  ⟨some 41, .extract 1 (.t 27), none⟩,
  ⟨some 42, .extract 2 (.t 27), none⟩,
  ⟨some 9, .alloc ([.s (.slice none 0 0), .s (.int .i64 0), .s (.bool false), .s (.bool false)]), none⟩,
  ⟨none, .store 4 (.t 9) (.t 40), none⟩,
  ⟨some 10, .mv (.t 41), none⟩,
  ⟨some 11, .mv (.t 42), none⟩]
abbrev b8_4 : List (List Nat) := [[], [0], [], [2], [], [], [5], [], [6, 7], [], [8, 9, 8], [1, 3, 4, 10, 10], [11], [12], [12], [12], [], [16, 13, 11, 0, 1, 2, 3, 4, 5, 6, 7, 8, 9, 10, 11, 12, 13, 16], [14, 17, 0, 1, 2, 3, 4, 5, 6, 7, 8, 9, 10, 11, 12, 13, 14, 16, 17], [15, 18, 0, 1, 2, 3, 4, 5, 6, 7, 8, 9, 10, 11, 12, 13, 14, 15, 16, 17, 18]]
abbrev r8_5 : List CO := [
  ⟨some 43, .load true 4 (.t 6), none⟩,
  ⟨some 44, .load true 4 (.t 9), none⟩,
  ⟨some 45, .call (.c (.fn (.func 20) [] [])) [.t 43, .t 44], none⟩,
  ⟨some 46, .mv (.t 45), none⟩,
  ⟨some 47, .mv (.t 7), some (46, true)⟩,
  ⟨some 48, .mv (.t 10), some (46, true)⟩,
  ⟨some 49, .call (.c (.fn (.func 21) [] [])) [.t 47, .t 48], some (46, true)⟩,
  ⟨some 50, .pick (.t 46) (.t 49) (.c (.p (.s (.bool false)))), none⟩,
  ⟨some 51, .mv (.t 50), none⟩,
  ⟨some 52, .mv (.t 8), some (51, true)⟩,
  ⟨some 53, .mv (.t 11), some (51, true)⟩,
  ⟨some 54, .bin .eql (.t 52) (.t 53), some (51, true)⟩,
  ⟨some 55, .pick (.t 51) (.t 54) (.c (.p (.s (.bool false)))), none⟩,
  ⟨some 56, .mv (.t 55), none⟩,
  ⟨some 57, .call (.c (.fn (.func 15) [] [])) [], some (56, true)⟩,
  ⟨some 58, .pick (.t 56) (.t 57) (.c (.p (.s (.bool false)))), none⟩,
  ⟨some 4, .mv (.t 58), none⟩]
abbrev c8 : CC := .seq (.reg r8_0) (.seq (.reg r8_1) (.seq (.reg r8_2) (.rest [1, 2, 5] (.seq (.reg r8_3) (.rest [1, 2, 5, 6, 7, 8] (.seq (.regd r8_4 b8_4) (.rest [6, 7, 8, 9, 10, 11] (.seq (.reg r8_5) (.rest [4] (.ret))))))))))
theorem F8 : Fun Tryd.prog 8 59 c8 [.tmp 4] 2 := ⟨⟨Tryd.f8, _, Tryd.func8, rfl, by kernel_rfl, Tryd.ntmps8, by kernel_rfl, by kernel_rfl⟩, by decide⟩

/-- linnet/linnetlaw13.One -/
abbrev r9_0 : List CO := [
  ⟨some 1, .box (.t 0), none⟩,
  ⟨some 2, .alloc ([.s (.slice none 0 0), .s (.int .i64 0), .s (.bool false), .s (.bool false)]), none⟩]
abbrev r9_1 : List CO := [
  ⟨some 3, .faddr 0 (.t 1), none⟩,
  ⟨some 4, .load true 2 (.t 3), none⟩,
  ⟨some 5, .call (.c (.fn (.func 22) [] [])) [.t 4], none⟩,
  ⟨some 6, .faddr 0 (.t 1), none⟩,
  ⟨none, .store 2 (.t 6) (.t 5), none⟩]
abbrev r9_2 : List CO := [
  ⟨some 7, .load true 4 (.t 1), none⟩,
  ⟨none, .store 4 (.t 2) (.t 7), none⟩]
abbrev c9 : CC := .seq (.reg r9_0) (.seq (.reg r9_1) (.rest [1, 2] (.seq (.reg r9_2) (.ret))))
theorem F9 : Fun Tryd.prog 9 8 c9 [.cell 2 true 4] 1 := ⟨⟨Tryd.f9, _, Tryd.func9, rfl, by kernel_rfl, Tryd.ntmps9, by kernel_rfl, by kernel_rfl⟩, by decide⟩

/-- linnet/renew.Plain -/
abbrev r10_0 : List CO := [
  ⟨some 2, .box (.t 0), none⟩,
  ⟨some 4, .mv (.c (.p (.s (.bool false)))), none⟩]
abbrev r10_1 : List CO := [
  ⟨some 6, .load true 62 (.t 2), none⟩,
  ⟨some 7, .mv (.t 1), none⟩,
  ⟨some 8, .call (.c (.fn (.func 23) [] [])) [.t 6, .t 7], none⟩,
  ⟨some 5, .mv (.t 8), none⟩]
abbrev r10_2 : List CO := [
  ⟨some 9, .mv (.t 5), none⟩,
  ⟨some 10, .bin .eql (.t 9) (.c (.p (.s (.int .i64 0)))), none⟩,
  ⟨some 11, .mv (.t 10), none⟩,
  ⟨some 12, .mv (.t 5), some (11, false)⟩,
  ⟨some 13, .bin .eql (.t 12) (.c (.p (.s (.int .i64 17)))), some (11, false)⟩,
  ⟨some 14, .pick (.t 11) (.c (.p (.s (.bool true)))) (.t 13), none⟩,
  ⟨some 15, .mv (.t 14), none⟩,
  ⟨some 16, .mv (.t 5), some (15, false)⟩,
  ⟨some 17, .bin .eql (.t 16) (.c (.p (.s (.int .i64 18)))), some (15, false)⟩,
  ⟨some 18, .pick (.t 15) (.c (.p (.s (.bool true)))) (.t 17), none⟩,
  ⟨some 4, .mv (.t 18), none⟩]
abbrev c10 : CC := .seq (.reg r10_0) (.seq (.reg r10_1) (.rest [5] (.seq (.reg r10_2) (.rest [4] (.ret)))))
theorem F10 : Fun Tryd.prog 10 19 c10 [.tmp 4] 2 := ⟨⟨Tryd.f10, _, Tryd.func10, rfl, by kernel_rfl, Tryd.ntmps10, by kernel_rfl, by kernel_rfl⟩, by decide⟩

/-- linnet/linnetref14.Plain -/
abbrev r11_0 : List CO := [
  ⟨some 2, .box (.t 0), none⟩,
  ⟨some 4, .mv (.c (.p (.s (.bool false)))), none⟩]
abbrev r11_1 : List CO := [
  ⟨some 6, .load true 62 (.t 2), none⟩,
  ⟨some 7, .mv (.t 1), none⟩,
  ⟨some 8, .call (.c (.fn (.func 24) [] [])) [.t 6, .t 7], none⟩,
  ⟨some 5, .mv (.t 8), none⟩]
abbrev r11_2 : List CO := [
  ⟨some 9, .mv (.t 5), none⟩,
  ⟨some 10, .bin .eql (.t 9) (.c (.p (.s (.int .i64 0)))), none⟩,
  ⟨some 11, .mv (.t 10), none⟩,
  ⟨some 12, .mv (.t 5), some (11, false)⟩,
  ⟨some 13, .bin .eql (.t 12) (.c (.p (.s (.int .i64 17)))), some (11, false)⟩,
  ⟨some 14, .pick (.t 11) (.c (.p (.s (.bool true)))) (.t 13), none⟩,
  ⟨some 15, .mv (.t 14), none⟩,
  ⟨some 16, .mv (.t 5), some (15, false)⟩,
  ⟨some 17, .bin .eql (.t 16) (.c (.p (.s (.int .i64 18)))), some (15, false)⟩,
  ⟨some 18, .pick (.t 15) (.c (.p (.s (.bool true)))) (.t 17), none⟩,
  ⟨some 4, .mv (.t 18), none⟩]
abbrev c11 : CC := .seq (.reg r11_0) (.seq (.reg r11_1) (.rest [5] (.seq (.reg r11_2) (.rest [4] (.ret)))))
theorem F11 : Fun Tryd.prog 11 19 c11 [.tmp 4] 2 := ⟨⟨Tryd.f11, _, Tryd.func11, rfl, by kernel_rfl, Tryd.ntmps11, by kernel_rfl, by kernel_rfl⟩, by decide⟩

/-- linnet/linnetref01.Octets -/
abbrev r12_0 : List CO := [
  ⟨some 4, .mv (.c (.p (.s (.bool false)))), none⟩]
abbrev r12_1 : List CO := [
  ⟨some 5, .mv (.t 0), none⟩,
  ⟨some 6, .toStr (.t 5), none⟩,
  ⟨some 7, .mv (.t 1), none⟩,
  ⟨some 8, .toStr (.t 7), none⟩,
  ⟨some 9, .bin .eql (.t 6) (.t 8), none⟩,
  ⟨some 4, .mv (.t 9), none⟩]
abbrev c12 : CC := .seq (.reg r12_0) (.seq (.reg r12_1) (.rest [4] (.ret)))
theorem F12 : Fun Tryd.prog 12 10 c12 [.tmp 4] 2 := ⟨⟨Tryd.f12, _, Tryd.func12, rfl, by kernel_rfl, Tryd.ntmps12, by kernel_rfl, by kernel_rfl⟩, by decide⟩

/-- linnet/renew.Keys -/
abbrev r13_0 : List CO := [
  ⟨some 2, .box (.t 0), none⟩,
  ⟨some 3, .box (.t 1), none⟩,
  ⟨some 4, .mv (.c (.p (.s (.slice none 0 0)))), none⟩]
abbrev r13_1 : List CO := [
  ⟨some 9, .load true 4 (.t 3), none⟩,
  ⟨some 10, .call (.c (.fn (.func 16) [] [])) [.t 9], none⟩,
  ⟨some 11, .bin .neq (.t 10) (.c (.p (.s (.int .i64 0)))), none⟩]
abbrev r13_2 : List CO := [
  ⟨some 4, .mv (.c (.p (.s (.slice none 0 0)))), none⟩]
abbrev r13_3 : List CO := [
  ⟨some 5, .alloc ([.s (.slice none 0 0)]), none⟩]
abbrev r13_4 : List CO := [
  ⟨some 12, .mkfn (.func 25) [] [.t 2, .t 5], none⟩,
  ⟨some 6, .mv (.t 12), none⟩]
abbrev r13_5 : List CO := [
  ⟨some 13, .faddr 0 (.t 3), none⟩,
  ⟨some 14, .faddr 0 (.t 13), none⟩,
  ⟨some 15, .load false 1 (.t 14), none⟩,
  ⟨some 16, .faddr 0 (.t 3), none⟩,
  ⟨some 17, .faddr 1 (.t 16), none⟩,
  ⟨some 18, .load false 1 (.t 17), none⟩,
  ⟨some 19, .slice 1 (.t 15) (some (.t 18)) none, none⟩,
  ⟨some 7, .mv (.t 19), none⟩]
abbrev r13_6 : List CO := [
  ⟨some 20, .mv (.t 6), none⟩,
  ⟨some 21, .mv (.t 7), none⟩,
  ⟨some 22, .call (.t 20) [.t 21], none⟩]
abbrev r13_7 : List CO := [
  ⟨some 23, .mv (.t 7), none⟩,
  ⟨some 24, .len (.t 23), none⟩,
  ⟨some 8, .mv (.t 24), none⟩]
abbrev r13_8 : List CO := [
  ⟨some 25, .mv (.t 8), none⟩,
  ⟨some 26, .bin .gtr (.t 25) (.c (.p (.s (.int .i64 0)))), none⟩]
abbrev r13_9 : List CO := [
  ⟨some 27, .load false 1 (.t 5), none⟩,
  ⟨some 28, .load true 62 (.t 2), none⟩,
  ⟨some 29, .build ([.s (.int .i64 0), .s (.int .i64 0)]) [(0, 1, .c (.p (.s (.int .i64 23)))), (1, 1, .c (.p (.s (.int .i64 1))))], none⟩,
  ⟨some 30, .mv (.t 8), none⟩,
  ⟨some 31, .build ([.s (.int .i64 0), .s (.int .i64 0)]) [(0, 1, .c (.p (.s (.int .i64 19)))), (1, 1, .t 30)], none⟩,
  ⟨some 32, .mv (.t 8), none⟩,
  ⟨some 33, .build ([.s (.int .i64 0), .s (.int .i64 0)]) [(0, 1, .c (.p (.s (.int .i64 21)))), (1, 1, .t 32)], none⟩,
  ⟨some 34, .bslice 2 3 ([.s (.int .i64 0), .s (.int .i64 0)]) [(0, .t 29), (1, .t 31), (2, .t 33)], none⟩,
  ⟨some 35, .call (.c (.fn (.func 26) [] [])) [.t 28, .t 34], none⟩,
  ⟨some 36, .append 1 1 ([.s (.int .u8 0)]) (.t 27) (.t 35), none⟩,
  ⟨none, .store 1 (.t 5) (.t 36), none⟩]
abbrev b13_9 : List (List Nat) := [[], [], [], [], [3], [], [5], [2, 4, 6], [1, 7], [0, 8, 8], [9, 9, 0, 1, 2, 3, 4, 5, 6, 7, 8, 9]]
abbrev r13_10 : List CO := [
  ⟨some 37, .mv (.t 6), none⟩,
  ⟨some 38, .faddr 0 (.t 3), none⟩,
  ⟨some 39, .faddr 0 (.t 38), none⟩,
  ⟨some 40, .load false 1 (.t 39), none⟩,
  ⟨some 41, .faddr 0 (.t 3), none⟩,
  ⟨some 42, .faddr 1 (.t 41), none⟩,
  ⟨some 43, .load false 1 (.t 42), none⟩,
  ⟨some 44, .slice 1 (.t 40) none (some (.t 43)), none⟩,
  ⟨some 45, .call (.t 37) [.t 44], none⟩]
abbrev r13_11 : List CO := [
  ⟨some 46, .faddr 2 (.t 3), none⟩,
  ⟨some 47, .load false 1 (.t 46), none⟩]
abbrev r13_12 : List CO := [
  ⟨some 48, .load false 1 (.t 5), none⟩,
  ⟨some 49, .load true 62 (.t 2), none⟩,
  ⟨some 50, .build ([.s (.int .i64 0), .s (.int .i64 0)]) [(0, 1, .c (.p (.s (.int .i64 26)))), (1, 1, .c (.p (.s (.int .i64 1))))], none⟩,
  ⟨some 51, .bslice 2 1 ([.s (.int .i64 0), .s (.int .i64 0)]) [(0, .t 50)], none⟩,
  ⟨some 52, .call (.c (.fn (.func 26) [] [])) [.t 49, .t 51], none⟩,
  ⟨some 53, .append 1 1 ([.s (.int .u8 0)]) (.t 48) (.t 52), none⟩,
  ⟨none, .store 1 (.t 5) (.t 53), none⟩]
abbrev b13_12 : List (List Nat) := [[], [], [], [2], [1, 3], [0, 4, 4], [5, 5, 0, 1, 2, 3, 4, 5]]
abbrev r13_13 : List CO := [
  ⟨some 54, .faddr 3 (.t 3), none⟩,
  ⟨some 55, .load false 1 (.t 54), none⟩]
abbrev r13_14 : List CO := [
  ⟨some 56, .load false 1 (.t 5), none⟩,
  ⟨some 57, .load true 62 (.t 2), none⟩,
  ⟨some 58, .build ([.s (.int .i64 0), .s (.int .i64 0)]) [(0, 1, .c (.p (.s (.int .i64 14)))), (1, 1, .c (.p (.s (.int .i64 1))))], none⟩,
  ⟨some 59, .bslice 2 1 ([.s (.int .i64 0), .s (.int .i64 0)]) [(0, .t 58)], none⟩,
  ⟨some 60, .call (.c (.fn (.func 26) [] [])) [.t 57, .t 59], none⟩,
  ⟨some 61, .append 1 1 ([.s (.int .u8 0)]) (.t 56) (.t 60), none⟩,
  ⟨none, .store 1 (.t 5) (.t 61), none⟩]
abbrev b13_14 : List (List Nat) := [[], [], [], [2], [1, 3], [0, 4, 4], [5, 5, 0, 1, 2, 3, 4, 5]]
abbrev r13_15 : List CO := [
  ⟨some 62, .load false 1 (.t 5), none⟩,
  ⟨some 4, .mv (.t 62), none⟩]
abbrev c13 : CC := .seq (.reg r13_0) (.seq (.seq (.reg r13_1) (.cond (.t 11) (.seq (.reg r13_2) (.ret)) (.skip))) (.rest [2, 3] (.seq (.reg r13_3) (.seq (.reg r13_4) (.seq (.reg r13_5) (.rest [2, 3, 5, 6, 7] (.seq (.reg r13_6) (.seq (.seq (.reg r13_7) (.seq (.reg r13_8) (.cond (.t 26) (.regd r13_9 b13_9) (.skip)))) (.rest [2, 3, 5, 6] (.seq (.reg r13_10) (.rest [2, 3, 5] (.seq (.seq (.reg r13_11) (.cond (.t 47) (.regd r13_12 b13_12) (.skip))) (.rest [2, 3, 5] (.seq (.seq (.reg r13_13) (.cond (.t 55) (.regd r13_14 b13_14) (.skip))) (.rest [5] (.seq (.reg r13_15) (.ret)))))))))))))))))
theorem F13 : Fun Tryd.prog 13 63 c13 [.tmp 4] 2 := ⟨⟨Tryd.f13, _, Tryd.func13, rfl, by kernel_rfl, Tryd.ntmps13, by kernel_rfl, by kernel_rfl⟩, by decide⟩

/-- linnet/linnetref14.Keys -/
abbrev r14_0 : List CO := [
  ⟨some 2, .box (.t 0), none⟩,
  ⟨some 3, .box (.t 1), none⟩,
  ⟨some 4, .mv (.c (.p (.s (.slice none 0 0)))), none⟩]
abbrev r14_1 : List CO := [
  ⟨some 9, .load true 4 (.t 3), none⟩,
  ⟨some 10, .call (.c (.fn (.func 27) [] [])) [.t 9], none⟩,
  ⟨some 11, .un .not (.t 10), none⟩]
abbrev r14_2 : List CO := [
  ⟨some 4, .mv (.c (.p (.s (.slice none 0 0)))), none⟩]
abbrev r14_3 : List CO := [
  ⟨some 12, .faddr 0 (.t 3), none⟩,
  ⟨some 13, .faddr 0 (.t 12), none⟩,
  ⟨some 14, .load false 1 (.t 13), none⟩,
  ⟨some 15, .faddr 0 (.t 3), none⟩,
  ⟨some 16, .faddr 1 (.t 15), none⟩,
  ⟨some 17, .load false 1 (.t 16), none⟩,
  ⟨some 18, .slice 1 (.t 14) none (some (.t 17)), none⟩,
  ⟨some 19, .faddr 0 (.t 3), none⟩,
  ⟨some 20, .faddr 0 (.t 19), none⟩,
  ⟨some 21, .load false 1 (.t 20), none⟩,
  ⟨some 22, .faddr 0 (.t 3), none⟩,
  ⟨some 23, .faddr 1 (.t 22), none⟩,
  ⟨some 24, .load false 1 (.t 23), none⟩,
  ⟨some 25, .slice 1 (.t 21) (some (.t 24)) none, none⟩,
  ⟨some 5, .mv (.t 18), none⟩,
  ⟨some 6, .mv (.t 25), none⟩]
abbrev b14_3 : List (List Nat) := [[], [0], [1], [], [3], [4], [2, 5], [], [7], [8], [], [10], [11], [9, 12], [6, 0, 1, 2, 3, 4, 5, 6], [13, 14, 0, 1, 2, 3, 4, 5, 6, 7, 8, 9, 10, 11, 12, 13, 14]]
abbrev r14_4 : List CO := [
  ⟨some 26, .load true 62 (.t 2), none⟩,
  ⟨some 27, .mv (.t 6), none⟩,
  ⟨some 28, .call (.c (.fn (.func 28) [] [])) [.t 26, .t 27], none⟩,
  ⟨some 7, .mv (.t 28), none⟩]
abbrev r14_5 : List CO := [
  ⟨some 29, .load true 62 (.t 2), none⟩,
  ⟨some 30, .call (.c (.fn (.func 29) [] [])) [.t 29, .c (.p (.s (.int .i64 23))), .c (.p (.s (.int .i64 1)))], none⟩,
  ⟨some 8, .mv (.t 30), none⟩]
abbrev r14_6 : List CO := [
  ⟨some 31, .mv (.t 8), none⟩,
  ⟨some 32, .len (.t 31), none⟩,
  ⟨some 33, .bin .eql (.t 32) (.c (.p (.s (.int .i64 0)))), none⟩]
abbrev r14_7 : List CO := [
  ⟨some 34, .load true 62 (.t 2), none⟩,
  ⟨some 35, .mv (.t 6), none⟩,
  ⟨some 36, .len (.t 35), none⟩,
  ⟨some 37, .call (.c (.fn (.func 29) [] [])) [.t 34, .c (.p (.s (.int .i64 19))), .t 36], none⟩,
  ⟨some 8, .mv (.t 37), none⟩]
abbrev r14_8 : List CO := [
  ⟨some 38, .mv (.t 8), none⟩,
  ⟨some 39, .len (.t 38), none⟩,
  ⟨some 40, .bin .eql (.t 39) (.c (.p (.s (.int .i64 0)))), none⟩]
abbrev r14_9 : List CO := [
  ⟨some 41, .load true 62 (.t 2), none⟩,
  ⟨some 42, .mv (.t 6), none⟩,
  ⟨some 43, .len (.t 42), none⟩,
  ⟨some 44, .call (.c (.fn (.func 29) [] [])) [.t 41, .c (.p (.s (.int .i64 21))), .t 43], none⟩,
  ⟨some 8, .mv (.t 44), none⟩]
abbrev r14_10 : List CO := [
  ⟨some 45, .mv (.t 6), none⟩,
  ⟨some 46, .len (.t 45), none⟩,
  ⟨some 47, .bin .gtr (.t 46) (.c (.p (.s (.int .i64 0)))), none⟩]
abbrev r14_11 : List CO := [
  ⟨some 48, .mv (.t 7), none⟩,
  ⟨some 49, .mv (.t 8), none⟩,
  ⟨some 50, .append 1 1 ([.s (.int .u8 0)]) (.t 48) (.t 49), none⟩,
  ⟨some 7, .mv (.t 50), none⟩]
abbrev r14_12 : List CO := [
  ⟨some 51, .mv (.t 7), none⟩,
  ⟨some 52, .load true 62 (.t 2), none⟩,
  ⟨some 53, .mv (.t 5), none⟩,
  ⟨some 54, .call (.c (.fn (.func 28) [] [])) [.t 52, .t 53], none⟩,
  ⟨some 55, .append 1 1 ([.s (.int .u8 0)]) (.t 51) (.t 54), none⟩,
  ⟨some 7, .mv (.t 55), none⟩]
abbrev r14_13 : List CO := [
  ⟨some 56, .faddr 2 (.t 3), none⟩,
  ⟨some 57, .load false 1 (.t 56), none⟩]
abbrev r14_14 : List CO := [
  ⟨some 58, .mv (.t 7), none⟩,
  ⟨some 59, .load true 62 (.t 2), none⟩,
  ⟨some 60, .call (.c (.fn (.func 29) [] [])) [.t 59, .c (.p (.s (.int .i64 26))), .c (.p (.s (.int .i64 1)))], none⟩,
  ⟨some 61, .append 1 1 ([.s (.int .u8 0)]) (.t 58) (.t 60), none⟩,
  ⟨some 7, .mv (.t 61), none⟩]
abbrev r14_15 : List CO := [
  ⟨some 62, .faddr 3 (.t 3), none⟩,
  ⟨some 63, .load false 1 (.t 62), none⟩]
abbrev r14_16 : List CO := [
  ⟨some 64, .mv (.t 7), none⟩,
  ⟨some 65, .load true 62 (.t 2), none⟩,
  ⟨some 66, .call (.c (.fn (.func 29) [] [])) [.t 65, .c (.p (.s (.int .i64 14))), .c (.p (.s (.int .i64 1)))], none⟩,
  ⟨some 67, .append 1 1 ([.s (.int .u8 0)]) (.t 64) (.t 66), none⟩,
  ⟨some 7, .mv (.t 67), none⟩]
abbrev r14_17 : List CO := [
  ⟨some 68, .mv (.t 7), none⟩,
  ⟨some 4, .mv (.t 68), none⟩]
abbrev c14 : CC := .seq (.reg r14_0) (.seq (.seq (.reg r14_1) (.cond (.t 11) (.seq (.reg r14_2) (.ret)) (.skip))) (.rest [2, 3] (.seq (.regd r14_3 b14_3) (.rest [2, 3, 5, 6] (.seq (.reg r14_4) (.rest [2, 3, 5, 6, 7] (.seq (.reg r14_5) (.seq (.seq (.reg r14_6) (.cond (.t 33) (.reg r14_7) (.skip))) (.rest [2, 3, 5, 6, 7, 8] (.seq (.seq (.reg r14_8) (.cond (.t 40) (.reg r14_9) (.skip))) (.rest [2, 3, 5, 6, 7, 8] (.seq (.seq (.reg r14_10) (.cond (.t 47) (.reg r14_11) (.skip))) (.rest [2, 3, 5, 7] (.seq (.reg r14_12) (.rest [2, 3, 7] (.seq (.seq (.reg r14_13) (.cond (.t 57) (.reg r14_14) (.skip))) (.rest [2, 3, 7] (.seq (.seq (.reg r14_15) (.cond (.t 63) (.reg r14_16) (.skip))) (.rest [7] (.seq (.reg r14_17) (.ret)))))))))))))))))))))
theorem F14 : Fun Tryd.prog 14 69 c14 [.tmp 4] 2 := ⟨⟨Tryd.f14, _, Tryd.func14, rfl, by kernel_rfl, Tryd.ntmps14, by kernel_rfl, by kernel_rfl⟩, by decide⟩

/-- linnet/linnetlaw14.awake -/
abbrev r15_0 : List CO := [
  ⟨some 0, .mv (.c (.p (.s (.bool false)))), none⟩]
abbrev r15_1 : List CO := [
  ⟨some 5, .call (.c (.fn (.func 30) [] [])) [], none⟩,
  ⟨some 1, .alloc (tz62), none⟩,
  ⟨none, .store 62 (.t 1) (.t 5), none⟩]
abbrev r15_2 : List CO := [
  ⟨some 6, .load true 62 (.t 1), none⟩,
  ⟨some 7, .bslice 1 2 ([.s (.int .u8 0)]) [(0, .c (.p (.s (.int .u8 97)))), (1, .c (.p (.s (.int .u8 98))))], none⟩,
  ⟨some 8, .ext .bconv [.t 7], none⟩,
  ⟨some 9, .build ([.s (.slice none 0 0), .s (.int .i64 0)]) [(0, 1, .t 8), (1, 1, .c (.p (.s (.int .i64 2))))], none⟩,
  ⟨some 10, .build ([.s (.slice none 0 0), .s (.int .i64 0), .s (.bool false), .s (.bool false)]) [(0, 2, .t 9)], none⟩,
  ⟨some 11, .call (.c (.fn (.func 13) [] [])) [.t 6, .t 10], none⟩,
  ⟨some 2, .mv (.t 11), none⟩]
abbrev r15_3 : List CO := [
  ⟨some 12, .load true 62 (.t 1), none⟩,
  ⟨some 13, .bslice 1 2 ([.s (.int .u8 0)]) [(0, .c (.p (.s (.int .u8 97)))), (1, .c (.p (.s (.int .u8 98))))], none⟩,
  ⟨some 14, .ext .bconv [.t 13], none⟩,
  ⟨some 15, .build ([.s (.slice none 0 0), .s (.int .i64 0)]) [(0, 1, .t 14), (1, 1, .c (.p (.s (.int .i64 1))))], none⟩,
  ⟨some 16, .build ([.s (.slice none 0 0), .s (.int .i64 0), .s (.bool false), .s (.bool false)]) [(0, 2, .t 15)], none⟩,
  ⟨some 17, .call (.c (.fn (.func 13) [] [])) [.t 12, .t 16], none⟩,
  ⟨some 3, .mv (.t 17), none⟩]
abbrev r15_4 : List CO := [
  ⟨some 18, .load true 62 (.t 1), none⟩,
  ⟨some 19, .bslice 1 1 ([.s (.int .u8 0)]) [(0, .c (.p (.s (.int .u8 3))))], none⟩,
  ⟨some 20, .build ([.s (.slice none 0 0), .s (.int .i64 0)]) [(0, 1, .t 19), (1, 1, .c (.p (.s (.int .i64 1))))], none⟩,
  ⟨some 21, .build ([.s (.slice none 0 0), .s (.int .i64 0), .s (.bool false), .s (.bool false)]) [(0, 2, .t 20), (2, 1, .c (.p (.s (.bool true))))], none⟩,
  ⟨some 22, .call (.c (.fn (.func 13) [] [])) [.t 18, .t 21], none⟩,
  ⟨some 4, .mv (.t 22), none⟩]
abbrev r15_5 : List CO := [
  ⟨some 23, .mv (.t 2), none⟩,
  ⟨some 24, .toStr (.t 23), none⟩,
  ⟨some 25, .bin .eql (.t 24) (.c (.p (.s (.string { data := #[97, 98] })))), none⟩,
  ⟨some 26, .mv (.t 25), none⟩,
  ⟨some 27, .mv (.t 3), some (26, true)⟩,
  ⟨some 28, .toStr (.t 27), some (26, true)⟩,
  ⟨some 29, .bin .eql (.t 28) (.c (.p (.s (.string { data := #[98, 1, 97] })))), some (26, true)⟩,
  ⟨some 30, .pick (.t 26) (.t 29) (.c (.p (.s (.bool false)))), none⟩,
  ⟨some 31, .mv (.t 30), none⟩,
  ⟨some 32, .mv (.t 4), some (31, true)⟩,
  ⟨some 33, .toStr (.t 32), some (31, true)⟩,
  ⟨some 34, .bin .eql (.t 33) (.c (.p (.s (.string { data := #[22, 3, 16] })))), some (31, true)⟩,
  ⟨some 35, .pick (.t 31) (.t 34) (.c (.p (.s (.bool false)))), none⟩,
  ⟨some 36, .mv (.t 35), none⟩,
  ⟨some 37, .load true 62 (.t 1), some (36, true)⟩,
  ⟨some 38, .call (.c (.fn (.func 10) [] [])) [.t 37, .c (.p (.s (.int .u8 97)))], some (36, true)⟩,
  ⟨some 39, .pick (.t 36) (.t 38) (.c (.p (.s (.bool false)))), none⟩,
  ⟨some 40, .mv (.t 39), none⟩,
  ⟨some 41, .load true 62 (.t 1), some (40, true)⟩,
  ⟨some 42, .call (.c (.fn (.func 10) [] [])) [.t 41, .c (.p (.s (.int .u8 13)))], some (40, true)⟩,
  ⟨some 43, .un .not (.t 42), some (40, true)⟩,
  ⟨some 44, .pick (.t 40) (.t 43) (.c (.p (.s (.bool false)))), none⟩,
  ⟨some 0, .mv (.t 44), none⟩]
abbrev c15 : CC := .seq (.reg r15_0) (.seq (.reg r15_1) (.seq (.reg r15_2) (.rest [1, 2] (.seq (.reg r15_3) (.rest [1, 2, 3] (.seq (.reg r15_4) (.rest [1, 2, 3, 4] (.seq (.reg r15_5) (.rest [0] (.ret))))))))))
theorem F15 : Fun Tryd.prog 15 45 c15 [.tmp 0] 0 := ⟨⟨Tryd.f15, _, Tryd.func15, rfl, by kernel_rfl, Tryd.ntmps15, by kernel_rfl, by kernel_rfl⟩, by decide⟩

/-- linnet/editor.Check -/
abbrev r16_0 : List CO := [
  ⟨some 1, .box (.t 0), none⟩,
  ⟨some 2, .mv (.c (.p (.s (.int .i64 0)))), none⟩]
abbrev r16_1 : List CO := [
  ⟨some 3, .faddr 0 (.t 1), none⟩,
  ⟨some 4, .load true 2 (.t 3), none⟩,
  ⟨some 5, .call (.c (.fn (.func 31) [] [])) [.t 4], none⟩,
  ⟨some 2, .mv (.t 5), none⟩]
abbrev c16 : CC := .seq (.reg r16_0) (.seq (.reg r16_1) (.rest [2] (.ret)))
theorem F16 : Fun Tryd.prog 16 6 c16 [.tmp 2] 1 := ⟨⟨Tryd.f16, _, Tryd.func16, rfl, by kernel_rfl, Tryd.ntmps16, by kernel_rfl, by kernel_rfl⟩, by decide⟩

/-- linnet/linnetlaw13.Keys -/
abbrev r17_0 : List CO := [
  ⟨some 2, .mv (.c (.p (.s (.slice none 0 0)))), none⟩]
abbrev r17_1 : List CO := [
  ⟨some 3, .mv (.t 0), none⟩,
  ⟨some 4, .call (.c (.fn (.func 32) [] [])) [.t 3], none⟩,
  ⟨some 2, .mv (.t 4), none⟩]
abbrev c17 : CC := .seq (.reg r17_0) (.seq (.reg r17_1) (.ret))
theorem F17 : Fun Tryd.prog 17 5 c17 [.tmp 2] 1 := ⟨⟨Tryd.f17, _, Tryd.func17, rfl, by kernel_rfl, Tryd.ntmps17, by kernel_rfl, by kernel_rfl⟩, by decide⟩

/-- linnet/editor.Play -/
abbrev r18_0 : List CO := [
  ⟨some 4, .box (.t 0), none⟩,
  ⟨some 6, .box (.t 2), none⟩,
  ⟨some 8, .alloc ([.s (.slice none 0 0), .s (.int .i64 0), .s (.bool false), .s (.bool false)]), none⟩,
  ⟨some 9, .mv (.c (.p (.s (.slice none 0 0)))), none⟩,
  ⟨some 10, .mv (.c (.p (.s (.int .i64 0)))), none⟩]
abbrev r18_1 : List CO := [
  ⟨some 11, .mv (.c (.p (.s (.slice none 0 0)))), none⟩]
abbrev r18_2 : List CO := [
  ⟨some 12, .mv (.c (.p (.s (.int .i64 0)))), none⟩]
abbrev r18_3 : List CO := [
  ⟨some 18, .mv (.t 3), none⟩,
  ⟨some 19, .len (.t 18), none⟩,
  ⟨some 20, .mv (.c (.p (.s (.int .i64 0)))), none⟩]
abbrev r18_4 : List CO := [
  ⟨some 21, .bin .lss (.t 20) (.t 19), none⟩]
abbrev r18_5 : List CO := [
  ⟨some 22, .iaddrS 1 (.t 18) (.t 20), none⟩,
  ⟨some 23, .load false 1 (.t 22), none⟩,
  ⟨some 14, .mv (.t 23), none⟩]
abbrev r18_6 : List CO := [
  ⟨some 25, .load true 62 (.t 4), none⟩,
  ⟨some 26, .mv (.t 1), none⟩,
  ⟨some 27, .load true 4 (.t 6), none⟩,
  ⟨some 28, .mv (.t 14), none⟩,
  ⟨some 29, .call (.c (.fn (.func 33) [] [])) [.t 25, .t 26, .t 27, .t 28], none⟩,
  ⟨some 24, .mv (.t 29), none⟩,
  ⟨some 30, .extract 0 (.t 24), none⟩,
  ⟨some 31, .extract 1 (.t 24), none⟩,
  ⟨some 32, .extract 2 (.t 24), none⟩,
  ⟨some 15, .alloc ([.s (.slice none 0 0), .s (.int .i64 0), .s (.bool false), .s (.bool false)]), none⟩,
  ⟨none, .store 4 (.t 15) (.t 30), none⟩,
  ⟨some 16, .mv (.t 31), none⟩,
  ⟨some 17, .mv (.t 32), none⟩]
abbrev r18_7 : List CO := [
  ⟨some 33, .load true 4 (.t 15), none⟩,
  ⟨some 34, .mv (.t 11), none⟩,
  ⟨some 35, .mv (.t 16), none⟩,
  ⟨some 36, .append 3 40 ([.s (.int .i64 0), .s (.int .i64 0), .s (.slice none 0 0)]) (.t 34) (.t 35), none⟩,
  ⟨none, .store 4 (.t 6) (.t 33), none⟩,
  ⟨some 11, .mv (.t 36), none⟩]
abbrev b18_7 : List (List Nat) := [[], [], [], [1, 2], [0, 3, 0], [3, 4, 0, 1, 2, 3, 4]]
abbrev r18_8 : List CO := [
  ⟨some 37, .mv (.t 17), none⟩]
abbrev r18_9 : List CO := [
  ⟨some 38, .mv (.t 12), none⟩,
  ⟨some 39, .bin .add (.t 38) (.c (.p (.s (.int .i64 1)))), none⟩,
  ⟨some 12, .mv (.t 39), none⟩]
abbrev k18_1 : CC := .seq (.reg r18_5) (.seq (.reg r18_6) (.rest [1, 4, 6, 8, 11, 12, 15, 16, 17, 18, 19, 20] (.seq (.regd r18_7 b18_7) (.rest [1, 4, 6, 8, 11, 12, 17, 18, 19, 20] (.seq (.reg r18_8) (.cond (.t 37) (.reg r18_9) (.skip)))))))
abbrev r18_10 : List CO := [
  ⟨some 40, .bin .add (.t 20) (.c (.p (.s (.int .i64 1)))), none⟩,
  ⟨some 20, .mv (.t 40), none⟩]
abbrev l18_13 : CC := .seq (.reg r18_4) (.seq (.cond (.t 21) (.skip) (.exit 0)) (.seq (.block 1 k18_1) (.rest [1, 4, 6, 8, 11, 12, 18, 19, 20] (.reg r18_10))))
abbrev k18_0 : CC := .loop l18_13
abbrev r18_11 : List CO := [
  ⟨some 41, .load true 4 (.t 6), none⟩,
  ⟨some 42, .mv (.t 11), none⟩,
  ⟨some 43, .mv (.t 12), none⟩,
  ⟨none, .store 4 (.t 8) (.t 41), none⟩,
  ⟨some 9, .mv (.t 42), none⟩,
  ⟨some 10, .mv (.t 43), none⟩]
abbrev c18 : CC := .seq (.reg r18_0) (.rest [1, 3, 4, 6, 8] (.seq (.reg r18_1) (.seq (.reg r18_2) (.seq (.seq (.reg r18_3) (.block 0 k18_0)) (.rest [6, 8, 11, 12] (.seq (.reg r18_11) (.rest [8, 9, 10] (.ret))))))))
theorem F18 : Fun Tryd.prog 18 44 c18 [.cell 8 true 4, .tmp 9, .tmp 10] 4 := ⟨⟨Tryd.f18, _, Tryd.func18, rfl, by kernel_rfl, Tryd.ntmps18, by kernel_rfl, by kernel_rfl⟩, by decide⟩

/-- linnet/linnetlaw14.reached -/
abbrev r19_0 : List CO := [
  ⟨some 1, .box (.t 0), none⟩,
  ⟨some 2, .alloc ([.s (.slice none 0 0), .s (.int .i64 0), .s (.bool false), .s (.bool false)]), none⟩]
abbrev r19_1 : List CO := [
  ⟨some 7, .faddr 0 (.t 1), none⟩,
  ⟨some 8, .load true 62 (.t 7), none⟩,
  ⟨some 9, .faddr 62 (.t 1), none⟩,
  ⟨some 10, .load false 1 (.t 9), none⟩,
  ⟨some 11, .build ([.s (.slice none 0 0), .s (.int .i64 0), .s (.bool false), .s (.bool false)]) [], none⟩,
  ⟨some 12, .faddr 63 (.t 1), none⟩,
  ⟨some 13, .load false 1 (.t 12), none⟩,
  ⟨some 14, .call (.c (.fn (.func 17) [] [])) [.t 13], none⟩,
  ⟨some 15, .call (.c (.fn (.func 18) [] [])) [.t 8, .t 10, .t 11, .t 14], none⟩,
  ⟨some 6, .mv (.t 15), none⟩,
  ⟨some 16, .extract 0 (.t 6), none⟩,
  ⟨some 17, .extract 1 (.t 6), none⟩,
  ⟨some 18, .extract 2 (.t 6), none⟩,
  ⟨some 3, .alloc ([.s (.slice none 0 0), .s (.int .i64 0), .s (.bool false), .s (.bool false)]), none⟩,
  ⟨none, .store 4 (.t 3) (.t 16), none⟩,
  ⟨some 4, .mv (.t 17), none⟩,
  ⟨some 5, .mv (.t 18), none⟩]
abbrev b19_1 : List (List Nat) := [[], [0], [], [2], [], [], [5], [6], [1, 3, 4, 7, 7], [8], [9], [9], [9], [], [13, 10, 8, 0, 1, 2, 3, 4, 5, 6, 7, 8, 9, 10, 13], [11, 14, 0, 1, 2, 3, 4, 5, 6, 7, 8, 9, 10, 11, 13, 14], [12, 15, 0, 1, 2, 3, 4, 5, 6, 7, 8, 9, 10, 11, 12, 13, 14, 15]]
abbrev r19_2 : List CO := [
  ⟨some 19, .load true 4 (.t 3), none⟩,
  ⟨none, .store 4 (.t 2) (.t 19), none⟩]
abbrev c19 : CC := .seq (.reg r19_0) (.seq (.regd r19_1 b19_1) (.rest [2, 3] (.seq (.reg r19_2) (.ret))))
theorem F19 : Fun Tryd.prog 19 20 c19 [.cell 2 true 4] 1 := ⟨⟨Tryd.f19, _, Tryd.func19, rfl, by kernel_rfl, Tryd.ntmps19, by kernel_rfl, by kernel_rfl⟩, by decide⟩

/-- linnet/editor.Same -/
abbrev r20_0 : List CO := [
  ⟨some 2, .box (.t 0), none⟩,
  ⟨some 3, .box (.t 1), none⟩,
  ⟨some 4, .mv (.c (.p (.s (.bool false)))), none⟩]
abbrev r20_1 : List CO := [
  ⟨some 5, .faddr 0 (.t 2), none⟩,
  ⟨some 6, .load true 2 (.t 5), none⟩,
  ⟨some 7, .faddr 0 (.t 3), none⟩,
  ⟨some 8, .load true 2 (.t 7), none⟩,
  ⟨some 9, .call (.c (.fn (.func 34) [] [])) [.t 6, .t 8], none⟩,
  ⟨some 10, .mv (.t 9), none⟩,
  ⟨some 11, .faddr 2 (.t 2), some (10, true)⟩,
  ⟨some 12, .load false 1 (.t 11), some (10, true)⟩,
  ⟨some 13, .faddr 2 (.t 3), some (10, true)⟩,
  ⟨some 14, .load false 1 (.t 13), some (10, true)⟩,
  ⟨some 15, .beq false (.t 12) (.t 14), some (10, true)⟩,
  ⟨some 16, .pick (.t 10) (.t 15) (.c (.p (.s (.bool false)))), none⟩,
  ⟨some 17, .mv (.t 16), none⟩,
  ⟨some 18, .faddr 3 (.t 2), some (17, true)⟩,
  ⟨some 19, .load false 1 (.t 18), some (17, true)⟩,
  ⟨some 20, .faddr 3 (.t 3), some (17, true)⟩,
  ⟨some 21, .load false 1 (.t 20), some (17, true)⟩,
  ⟨some 22, .beq false (.t 19) (.t 21), some (17, true)⟩,
  ⟨some 23, .pick (.t 17) (.t 22) (.c (.p (.s (.bool false)))), none⟩,
  ⟨some 4, .mv (.t 23), none⟩]
abbrev c20 : CC := .seq (.reg r20_0) (.seq (.reg r20_1) (.rest [4] (.ret)))
theorem F20 : Fun Tryd.prog 20 24 c20 [.tmp 4] 2 := ⟨⟨Tryd.f20, _, Tryd.func20, rfl, by kernel_rfl, Tryd.ntmps20, by kernel_rfl, by kernel_rfl⟩, by decide⟩

/-- linnet/editor.Alike -/
abbrev r21_0 : List CO := [
  ⟨some 4, .mv (.c (.p (.s (.bool false)))), none⟩]
abbrev r21_1 : List CO := [
  ⟨some 5, .mv (.t 0), none⟩,
  ⟨some 6, .mv (.t 1), none⟩,
  ⟨some 7, .call (.c (.fn (.func 35) [] [])) [.t 5, .t 6, .c (.fn (.func 36) [] [])], none⟩,
  ⟨some 4, .mv (.t 7), none⟩]
abbrev c21 : CC := .seq (.reg r21_0) (.seq (.reg r21_1) (.rest [4] (.ret)))
theorem F21 : Fun Tryd.prog 21 8 c21 [.tmp 4] 2 := ⟨⟨Tryd.f21, _, Tryd.func21, rfl, by kernel_rfl, Tryd.ntmps21, by kernel_rfl, by kernel_rfl⟩, by decide⟩

/-- linnet/linnetlaw12.Few -/
abbrev r22_0 : List CO := [
  ⟨some 1, .box (.t 0), none⟩,
  ⟨some 2, .alloc ([.s (.slice none 0 0), .s (.int .i64 0)]), none⟩]
abbrev r22_1 : List CO := [
  ⟨some 3, .faddr 0 (.t 1), none⟩,
  ⟨some 4, .load false 1 (.t 3), none⟩,
  ⟨some 5, .len (.t 4), none⟩,
  ⟨some 6, .bin .gtr (.t 5) (.c (.p (.s (.int .i64 200)))), none⟩,
  ⟨some 7, .mv (.t 6), none⟩,
  ⟨some 8, .faddr 0 (.t 1), some (7, true)⟩,
  ⟨some 9, .load false 1 (.t 8), some (7, true)⟩,
  ⟨some 10, .len (.t 9), some (7, true)⟩,
  ⟨some 11, .bin .lss (.t 10) (.c (.p (.s (.int .i64 4000)))), some (7, true)⟩,
  ⟨some 12, .pick (.t 7) (.t 11) (.c (.p (.s (.bool false)))), none⟩,
  ⟨some 13, .mv (.t 12), none⟩,
  ⟨some 14, .faddr 0 (.t 1), some (13, false)⟩,
  ⟨some 15, .load false 1 (.t 14), some (13, false)⟩,
  ⟨some 16, .len (.t 15), some (13, false)⟩,
  ⟨some 17, .bin .gtr (.t 16) (.c (.p (.s (.int .i64 4100)))), some (13, false)⟩,
  ⟨some 18, .pick (.t 13) (.c (.p (.s (.bool true)))) (.t 17), none⟩]
abbrev r22_2 : List CO := [
  ⟨some 19, .faddr 0 (.t 1), none⟩,
  ⟨some 20, .load false 1 (.t 19), none⟩,
  ⟨some 21, .slice 1 (.t 20) none (some (.c (.p (.s (.int .i64 200))))), none⟩,
  ⟨some 22, .faddr 0 (.t 1), none⟩,
  ⟨none, .store 1 (.t 22) (.t 21), none⟩]
abbrev r22_3 : List CO := [
  ⟨some 23, .load true 2 (.t 1), none⟩,
  ⟨none, .store 2 (.t 2) (.t 23), none⟩]
abbrev c22 : CC := .seq (.reg r22_0) (.seq (.seq (.reg r22_1) (.rest [1, 2, 18] (.cond (.t 18) (.reg r22_2) (.skip)))) (.rest [1, 2] (.seq (.reg r22_3) (.ret))))
theorem F22 : Fun Tryd.prog 22 24 c22 [.cell 2 true 2] 1 := ⟨⟨Tryd.f22, _, Tryd.func22, rfl, by kernel_rfl, Tryd.ntmps22, by kernel_rfl, by kernel_rfl⟩, by decide⟩

/-- linnet/table.Meaning -/
abbrev r23_0 : List CO := [
  ⟨some 2, .box (.t 0), none⟩,
  ⟨some 4, .mv (.c (.p (.s (.int .i64 0)))), none⟩]
abbrev r23_1 : List CO := [
  ⟨some 6, .mv (.t 1), none⟩,
  ⟨some 7, .bin .eql (.t 6) (.c (.p (.s (.int .u8 13)))), none⟩]
abbrev r23_2 : List CO := [
  ⟨some 4, .mv (.c (.p (.s (.int .i64 31)))), none⟩]
abbrev r23_3 : List CO := [
  ⟨some 5, .mv (.c (.p (.s (.int .i64 1)))), none⟩]
abbrev r23_4 : List CO := [
  ⟨some 8, .mv (.t 5), none⟩,
  ⟨some 9, .bin .lss (.t 8) (.c (.p (.s (.int .i64 31)))), none⟩]
abbrev r23_6 : List CO := [
  ⟨some 12, .mv (.t 5), none⟩,
  ⟨some 13, .iaddrA 2 31 (.t 2) (.t 12), none⟩,
  ⟨some 14, .faddr 0 (.t 13), none⟩,
  ⟨some 15, .load false 1 (.t 14), none⟩,
  ⟨some 16, .bin .neq (.t 15) (.c (.p (.s (.int .i64 0)))), none⟩,
  ⟨some 17, .mv (.t 16), none⟩,
  ⟨some 18, .mv (.t 5), some (17, true)⟩,
  ⟨some 19, .iaddrA 2 31 (.t 2) (.t 18), some (17, true)⟩,
  ⟨some 20, .faddr 1 (.t 19), some (17, true)⟩,
  ⟨some 21, .load false 1 (.t 20), some (17, true)⟩,
  ⟨some 22, .mv (.t 1), some (17, true)⟩,
  ⟨some 23, .bin .eql (.t 21) (.t 22), some (17, true)⟩,
  ⟨some 24, .pick (.t 17) (.t 23) (.c (.p (.s (.bool false)))), none⟩]
abbrev r23_7 : List CO := [
  ⟨some 25, .mv (.t 5), none⟩,
  ⟨some 4, .mv (.t 25), none⟩]
abbrev k23_1 : CC := .seq (.reg r23_6) (.rest [1, 2, 5, 24] (.cond (.t 24) (.seq (.reg r23_7) (.ret)) (.skip)))
abbrev r23_5 : List CO := [
  ⟨some 10, .mv (.t 5), none⟩,
  ⟨some 11, .bin .add (.t 10) (.c (.p (.s (.int .i64 1)))), none⟩,
  ⟨some 5, .mv (.t 11), none⟩]
abbrev l23_9 : CC := .seq (.seq (.reg r23_4) (.cond (.t 9) (.skip) (.exit 0))) (.seq (.block 1 k23_1) (.rest [1, 2, 5] (.reg r23_5)))
abbrev k23_0 : CC := .loop l23_9
abbrev r23_8 : List CO := [
  ⟨some 4, .mv (.c (.p (.s (.int .i64 0)))), none⟩]
abbrev c23 : CC := .seq (.reg r23_0) (.seq (.seq (.reg r23_1) (.cond (.t 7) (.seq (.reg r23_2) (.ret)) (.skip))) (.seq (.seq (.reg r23_3) (.block 0 k23_0)) (.rest [] (.seq (.reg r23_8) (.ret)))))
theorem F23 : Fun Tryd.prog 23 26 c23 [.tmp 4] 2 := ⟨⟨Tryd.f23, _, Tryd.func23, rfl, by kernel_rfl, Tryd.ntmps23, by kernel_rfl, by kernel_rfl⟩, by decide⟩

/-- linnet/linnetref08.Meaning -/
abbrev r24_0 : List CO := [
  ⟨some 2, .box (.t 0), none⟩,
  ⟨some 4, .mv (.c (.p (.s (.int .i64 0)))), none⟩]
abbrev r24_1 : List CO := [
  ⟨some 8, .mv (.t 1), none⟩,
  ⟨some 9, .bin .eql (.t 8) (.c (.p (.s (.int .u8 13)))), none⟩]
abbrev r24_2 : List CO := [
  ⟨some 4, .mv (.c (.p (.s (.int .i64 31)))), none⟩]
abbrev r24_3 : List CO := [
  ⟨some 5, .mv (.c (.p (.s (.int .i64 30)))), none⟩]
abbrev r24_4 : List CO := [
  ⟨some 10, .mv (.t 5), none⟩,
  ⟨some 11, .bin .geq (.t 10) (.c (.p (.s (.int .i64 1)))), none⟩]
abbrev r24_6 : List CO := [
  ⟨some 6, .mv (.c (.p (.s (.bool false)))), none⟩]
abbrev r24_7 : List CO := [
  ⟨some 7, .mv (.c (.p (.s (.int .i64 1)))), none⟩]
abbrev r24_8 : List CO := [
  ⟨some 14, .mv (.t 7), none⟩,
  ⟨some 15, .mv (.t 5), none⟩,
  ⟨some 16, .bin .lss (.t 14) (.t 15), none⟩]
abbrev r24_10 : List CO := [
  ⟨some 19, .mv (.t 6), none⟩,
  ⟨some 20, .mv (.t 19), none⟩,
  ⟨some 21, .mv (.t 7), some (20, false)⟩,
  ⟨some 22, .iaddrA 2 31 (.t 2) (.t 21), some (20, false)⟩,
  ⟨some 23, .faddr 0 (.t 22), some (20, false)⟩,
  ⟨some 24, .load false 1 (.t 23), some (20, false)⟩,
  ⟨some 25, .bin .neq (.t 24) (.c (.p (.s (.int .i64 0)))), some (20, false)⟩,
  ⟨some 26, .mv (.t 25), some (20, false)⟩,
  ⟨some 27, .mv (.t 7), some (26, true)⟩,
  ⟨some 28, .iaddrA 2 31 (.t 2) (.t 27), some (26, true)⟩,
  ⟨some 29, .faddr 1 (.t 28), some (26, true)⟩,
  ⟨some 30, .load false 1 (.t 29), some (26, true)⟩,
  ⟨some 31, .mv (.t 1), some (26, true)⟩,
  ⟨some 32, .bin .eql (.t 30) (.t 31), some (26, true)⟩,
  ⟨some 33, .pick (.t 26) (.t 32) (.c (.p (.s (.bool false)))), some (20, false)⟩,
  ⟨some 34, .pick (.t 20) (.c (.p (.s (.bool true)))) (.t 33), none⟩,
  ⟨some 6, .mv (.t 34), none⟩]
abbrev k24_3 : CC := .reg r24_10
abbrev r24_9 : List CO := [
  ⟨some 17, .mv (.t 7), none⟩,
  ⟨some 18, .bin .add (.t 17) (.c (.p (.s (.int .i64 1)))), none⟩,
  ⟨some 7, .mv (.t 18), none⟩]
abbrev l24_11 : CC := .seq (.seq (.reg r24_8) (.cond (.t 16) (.skip) (.exit 2))) (.seq (.block 3 k24_3) (.rest [1, 2, 5, 6, 7] (.reg r24_9)))
abbrev k24_2 : CC := .loop l24_11
abbrev r24_11 : List CO := [
  ⟨some 35, .mv (.t 5), none⟩,
  ⟨some 36, .iaddrA 2 31 (.t 2) (.t 35), none⟩,
  ⟨some 37, .faddr 0 (.t 36), none⟩,
  ⟨some 38, .load false 1 (.t 37), none⟩,
  ⟨some 39, .bin .neq (.t 38) (.c (.p (.s (.int .i64 0)))), none⟩,
  ⟨some 40, .mv (.t 39), none⟩,
  ⟨some 41, .mv (.t 5), some (40, true)⟩,
  ⟨some 42, .iaddrA 2 31 (.t 2) (.t 41), some (40, true)⟩,
  ⟨some 43, .faddr 1 (.t 42), some (40, true)⟩,
  ⟨some 44, .load false 1 (.t 43), some (40, true)⟩,
  ⟨some 45, .mv (.t 1), some (40, true)⟩,
  ⟨some 46, .bin .eql (.t 44) (.t 45), some (40, true)⟩,
  ⟨some 47, .pick (.t 40) (.t 46) (.c (.p (.s (.bool false)))), none⟩,
  ⟨some 48, .mv (.t 47), none⟩,
  ⟨some 49, .mv (.t 6), some (48, true)⟩,
  ⟨some 50, .un .not (.t 49), some (48, true)⟩,
  ⟨some 51, .pick (.t 48) (.t 50) (.c (.p (.s (.bool false)))), none⟩]
abbrev r24_12 : List CO := [
  ⟨some 52, .mv (.t 5), none⟩,
  ⟨some 4, .mv (.t 52), none⟩]
abbrev k24_1 : CC := .seq (.reg r24_6) (.seq (.seq (.reg r24_7) (.block 2 k24_2)) (.rest [1, 2, 5, 6] (.seq (.reg r24_11) (.rest [1, 2, 5, 51] (.cond (.t 51) (.seq (.reg r24_12) (.ret)) (.skip))))))
abbrev r24_5 : List CO := [
  ⟨some 12, .mv (.t 5), none⟩,
  ⟨some 13, .bin .sub (.t 12) (.c (.p (.s (.int .i64 1)))), none⟩,
  ⟨some 5, .mv (.t 13), none⟩]
abbrev l24_17 : CC := .seq (.seq (.reg r24_4) (.cond (.t 11) (.skip) (.exit 0))) (.seq (.block 1 k24_1) (.rest [1, 2, 5] (.reg r24_5)))
abbrev k24_0 : CC := .loop l24_17
abbrev r24_13 : List CO := [
  ⟨some 4, .mv (.c (.p (.s (.int .i64 0)))), none⟩]
abbrev c24 : CC := .seq (.reg r24_0) (.seq (.seq (.reg r24_1) (.cond (.t 9) (.seq (.reg r24_2) (.ret)) (.skip))) (.seq (.seq (.reg r24_3) (.block 0 k24_0)) (.rest [] (.seq (.reg r24_13) (.ret)))))
theorem F24 : Fun Tryd.prog 24 53 c24 [.tmp 4] 2 := ⟨⟨Tryd.f24, _, Tryd.func24, rfl, by kernel_rfl, Tryd.ntmps24, by kernel_rfl, by kernel_rfl⟩, by decide⟩

/-- linnet/renew.Keys$1 -/
abbrev r25_0 : List CO := [
  ⟨some 6, .mv (.t 0), none⟩,
  ⟨some 7, .len (.t 6), none⟩,
  ⟨some 8, .mv (.c (.p (.s (.int .i64 0)))), none⟩]
abbrev r25_1 : List CO := [
  ⟨some 9, .bin .lss (.t 8) (.t 7), none⟩]
abbrev r25_2 : List CO := [
  ⟨some 10, .iaddrS 1 (.t 6) (.t 8), none⟩,
  ⟨some 11, .load false 1 (.t 10), none⟩,
  ⟨some 5, .mv (.t 11), none⟩]
abbrev r25_3 : List CO := [
  ⟨some 12, .load true 62 (.t 1), none⟩,
  ⟨some 13, .mv (.t 5), none⟩,
  ⟨some 14, .call (.c (.fn (.func 10) [] [])) [.t 12, .t 13], none⟩,
  ⟨some 15, .un .not (.t 14), none⟩]
abbrev r25_4 : List CO := [
  ⟨some 16, .load false 1 (.t 2), none⟩,
  ⟨some 17, .load true 62 (.t 1), none⟩,
  ⟨some 18, .build ([.s (.int .i64 0), .s (.int .i64 0)]) [(0, 1, .c (.p (.s (.int .i64 14)))), (1, 1, .c (.p (.s (.int .i64 1))))], none⟩,
  ⟨some 19, .bslice 2 1 ([.s (.int .i64 0), .s (.int .i64 0)]) [(0, .t 18)], none⟩,
  ⟨some 20, .call (.c (.fn (.func 26) [] [])) [.t 17, .t 19], none⟩,
  ⟨some 21, .append 1 1 ([.s (.int .u8 0)]) (.t 16) (.t 20), none⟩,
  ⟨none, .store 1 (.t 2) (.t 21), none⟩]
abbrev b25_4 : List (List Nat) := [[], [], [], [2], [1, 3], [0, 4, 4], [5, 5, 0, 1, 2, 3, 4, 5]]
abbrev r25_5 : List CO := [
  ⟨some 22, .load false 1 (.t 2), none⟩,
  ⟨some 23, .mv (.t 5), none⟩,
  ⟨some 24, .bslice 1 1 ([.s (.int .u8 0)]) [(0, .t 23)], none⟩,
  ⟨some 25, .append 1 1 ([.s (.int .u8 0)]) (.t 22) (.t 24), none⟩,
  ⟨none, .store 1 (.t 2) (.t 25), none⟩]
abbrev k25_1 : CC := .seq (.reg r25_2) (.seq (.seq (.reg r25_3) (.rest [1, 2, 5, 6, 7, 8, 15] (.cond (.t 15) (.regd r25_4 b25_4) (.skip)))) (.rest [1, 2, 5, 6, 7, 8] (.reg r25_5)))
abbrev r25_6 : List CO := [
  ⟨some 26, .bin .add (.t 8) (.c (.p (.s (.int .i64 1)))), none⟩,
  ⟨some 8, .mv (.t 26), none⟩]
abbrev l25_9 : CC := .seq (.reg r25_1) (.seq (.cond (.t 9) (.skip) (.exit 0)) (.seq (.block 1 k25_1) (.rest [1, 2, 6, 7, 8] (.reg r25_6))))
abbrev k25_0 : CC := .loop l25_9
abbrev c25 : CC := .seq (.reg r25_0) (.block 0 k25_0)
theorem F25 : Fun Tryd.prog 25 27 c25 [] 3 := ⟨⟨Tryd.f25, _, Tryd.func25, rfl, by kernel_rfl, Tryd.ntmps25, by kernel_rfl, by kernel_rfl⟩, by decide⟩

/-- linnet/renew.first -/
abbrev r26_0 : List CO := [
  ⟨some 2, .box (.t 0), none⟩,
  ⟨some 4, .mv (.c (.p (.s (.slice none 0 0)))), none⟩]
abbrev r26_1 : List CO := [
  ⟨some 9, .mv (.t 1), none⟩,
  ⟨some 10, .len (.t 9), none⟩,
  ⟨some 11, .mv (.c (.p (.s (.int .i64 0)))), none⟩]
abbrev r26_2 : List CO := [
  ⟨some 12, .bin .lss (.t 11) (.t 10), none⟩]
abbrev r26_3 : List CO := [
  ⟨some 13, .iaddrS 2 (.t 9) (.t 11), none⟩,
  ⟨some 14, .load true 2 (.t 13), none⟩,
  ⟨some 6, .alloc ([.s (.int .i64 0), .s (.int .i64 0)]), none⟩,
  ⟨none, .store 2 (.t 6) (.t 14), none⟩]
abbrev r26_4 : List CO := [
  ⟨some 16, .load true 62 (.t 2), none⟩,
  ⟨some 17, .faddr 0 (.t 6), none⟩,
  ⟨some 18, .load false 1 (.t 17), none⟩,
  ⟨some 19, .call (.c (.fn (.func 38) [] [])) [.t 16, .t 18], none⟩,
  ⟨some 15, .mv (.t 19), none⟩,
  ⟨some 20, .extract 0 (.t 15), none⟩,
  ⟨some 21, .extract 1 (.t 15), none⟩,
  ⟨some 7, .mv (.t 20), none⟩,
  ⟨some 8, .mv (.t 21), none⟩]
abbrev r26_5 : List CO := [
  ⟨some 22, .mv (.t 8), none⟩]
abbrev r26_6 : List CO := [
  ⟨some 23, .mv (.t 7), none⟩,
  ⟨some 24, .bslice 1 1 ([.s (.int .u8 0)]) [(0, .t 23)], none⟩,
  ⟨some 25, .faddr 1 (.t 6), none⟩,
  ⟨some 26, .load false 1 (.t 25), none⟩,
  ⟨some 27, .call (.c (.fn (.func 39) [] [])) [.t 24, .t 26], none⟩,
  ⟨some 4, .mv (.t 27), none⟩]
abbrev k26_1 : CC := .seq (.reg r26_3) (.rest [2, 6, 9, 10, 11] (.seq (.reg r26_4) (.rest [2, 6, 7, 8, 9, 10, 11] (.seq (.reg r26_5) (.cond (.t 22) (.seq (.reg r26_6) (.rest [4] (.ret))) (.skip))))))
abbrev r26_7 : List CO := [
  ⟨some 28, .bin .add (.t 11) (.c (.p (.s (.int .i64 1)))), none⟩,
  ⟨some 11, .mv (.t 28), none⟩]
abbrev l26_9 : CC := .seq (.reg r26_2) (.seq (.cond (.t 12) (.skip) (.exit 0)) (.seq (.block 1 k26_1) (.rest [2, 9, 10, 11] (.reg r26_7))))
abbrev k26_0 : CC := .loop l26_9
abbrev r26_8 : List CO := [
  ⟨some 4, .mv (.c (.p (.s (.slice none 0 0)))), none⟩]
abbrev c26 : CC := .seq (.reg r26_0) (.seq (.seq (.reg r26_1) (.block 0 k26_0)) (.rest [] (.seq (.reg r26_8) (.ret))))
theorem F26 : Fun Tryd.prog 26 29 c26 [.tmp 4] 2 := ⟨⟨Tryd.f26, _, Tryd.func26, rfl, by kernel_rfl, Tryd.ntmps26, by kernel_rfl, by kernel_rfl⟩, by decide⟩

/-- linnet/linnetref13.May -/
abbrev r27_0 : List CO := [
  ⟨some 1, .box (.t 0), none⟩,
  ⟨some 2, .mv (.c (.p (.s (.bool false)))), none⟩]
abbrev r27_1 : List CO := [
  ⟨some 3, .faddr 0 (.t 1), none⟩,
  ⟨some 4, .load true 2 (.t 3), none⟩,
  ⟨some 5, .call (.c (.fn (.func 40) [] [])) [.t 4], none⟩,
  ⟨some 2, .mv (.t 5), none⟩]
abbrev c27 : CC := .seq (.reg r27_0) (.seq (.reg r27_1) (.rest [2] (.ret)))
theorem F27 : Fun Tryd.prog 27 6 c27 [.tmp 2] 1 := ⟨⟨Tryd.f27, _, Tryd.func27, rfl, by kernel_rfl, Tryd.ntmps27, by kernel_rfl, by kernel_rfl⟩, by decide⟩

/-- linnet/linnetref14.told -/
abbrev r28_0 : List CO := [
  ⟨some 2, .box (.t 0), none⟩,
  ⟨some 4, .mv (.c (.p (.s (.slice none 0 0)))), none⟩]
abbrev r28_1 : List CO := [
  ⟨some 5, .mv (.c (.p (.s (.slice none 0 0)))), none⟩]
abbrev r28_2 : List CO := [
  ⟨some 6, .mv (.c (.p (.s (.int .i64 0)))), none⟩]
abbrev r28_3 : List CO := [
  ⟨some 7, .mv (.t 6), none⟩,
  ⟨some 8, .mv (.t 1), none⟩,
  ⟨some 9, .len (.t 8), none⟩,
  ⟨some 10, .bin .lss (.t 7) (.t 9), none⟩]
abbrev r28_5 : List CO := [
  ⟨some 13, .load true 62 (.t 2), none⟩,
  ⟨some 14, .mv (.t 1), none⟩,
  ⟨some 15, .mv (.t 6), none⟩,
  ⟨some 16, .iaddrS 1 (.t 14) (.t 15), none⟩,
  ⟨some 17, .load false 1 (.t 16), none⟩,
  ⟨some 18, .call (.c (.fn (.func 11) [] [])) [.t 13, .t 17], none⟩,
  ⟨some 19, .un .not (.t 18), none⟩]
abbrev b28_5 : List (List Nat) := [[], [], [], [1, 2], [3], [0, 4], [5]]
abbrev r28_6 : List CO := [
  ⟨some 20, .mv (.t 5), none⟩,
  ⟨some 21, .load true 62 (.t 2), none⟩,
  ⟨some 22, .call (.c (.fn (.func 29) [] [])) [.t 21, .c (.p (.s (.int .i64 14))), .c (.p (.s (.int .i64 1)))], none⟩,
  ⟨some 23, .append 1 1 ([.s (.int .u8 0)]) (.t 20) (.t 22), none⟩,
  ⟨some 5, .mv (.t 23), none⟩]
abbrev r28_7 : List CO := [
  ⟨some 24, .mv (.t 5), none⟩,
  ⟨some 25, .mv (.t 1), none⟩,
  ⟨some 26, .mv (.t 6), none⟩,
  ⟨some 27, .iaddrS 1 (.t 25) (.t 26), none⟩,
  ⟨some 28, .load false 1 (.t 27), none⟩,
  ⟨some 29, .bslice 1 1 ([.s (.int .u8 0)]) [(0, .t 28)], none⟩,
  ⟨some 30, .append 1 1 ([.s (.int .u8 0)]) (.t 24) (.t 29), none⟩,
  ⟨some 5, .mv (.t 30), none⟩]
abbrev k28_1 : CC := .seq (.seq (.regd r28_5 b28_5) (.rest [1, 2, 5, 6, 19] (.cond (.t 19) (.reg r28_6) (.skip)))) (.rest [1, 2, 5, 6] (.reg r28_7))
abbrev r28_4 : List CO := [
  ⟨some 11, .mv (.t 6), none⟩,
  ⟨some 12, .bin .add (.t 11) (.c (.p (.s (.int .i64 1)))), none⟩,
  ⟨some 6, .mv (.t 12), none⟩]
abbrev l28_10 : CC := .seq (.seq (.reg r28_3) (.rest [1, 2, 5, 6, 10] (.cond (.t 10) (.skip) (.exit 0)))) (.rest [1, 2, 5, 6] (.seq (.block 1 k28_1) (.rest [1, 2, 5, 6] (.reg r28_4))))
abbrev k28_0 : CC := .loop l28_10
abbrev r28_8 : List CO := [
  ⟨some 31, .mv (.t 5), none⟩,
  ⟨some 4, .mv (.t 31), none⟩]
abbrev c28 : CC := .seq (.reg r28_0) (.seq (.reg r28_1) (.seq (.seq (.reg r28_2) (.block 0 k28_0)) (.rest [5] (.seq (.reg r28_8) (.ret)))))
theorem F28 : Fun Tryd.prog 28 32 c28 [.tmp 4] 2 := ⟨⟨Tryd.f28, _, Tryd.func28, rfl, by kernel_rfl, Tryd.ntmps28, by kernel_rfl, by kernel_rfl⟩, by decide⟩

/-- linnet/linnetref14.key -/
abbrev r29_0 : List CO := [
  ⟨some 3, .box (.t 0), none⟩,
  ⟨some 6, .mv (.c (.p (.s (.slice none 0 0)))), none⟩]
abbrev r29_1 : List CO := [
  ⟨some 10, .load true 62 (.t 3), none⟩,
  ⟨some 11, .mv (.t 1), none⟩,
  ⟨some 12, .call (.c (.fn (.func 41) [] [])) [.t 10, .t 11], none⟩,
  ⟨some 7, .mv (.t 12), none⟩]
abbrev r29_2 : List CO := [
  ⟨some 8, .mv (.c (.p (.s (.slice none 0 0)))), none⟩]
abbrev r29_3 : List CO := [
  ⟨some 9, .mv (.c (.p (.s (.int .i64 0)))), none⟩]
abbrev r29_4 : List CO := [
  ⟨some 13, .mv (.t 9), none⟩,
  ⟨some 14, .mv (.t 2), none⟩,
  ⟨some 15, .bin .lss (.t 13) (.t 14), none⟩,
  ⟨some 16, .mv (.t 15), none⟩,
  ⟨some 17, .mv (.t 7), some (16, true)⟩,
  ⟨some 18, .bin .lss (.t 17) (.c (.p (.s (.int .i64 256)))), some (16, true)⟩,
  ⟨some 19, .pick (.t 16) (.t 18) (.c (.p (.s (.bool false)))), none⟩]
abbrev r29_6 : List CO := [
  ⟨some 22, .mv (.t 8), none⟩,
  ⟨some 23, .mv (.t 7), none⟩,
  ⟨some 24, .toInt .u8 (.t 23), none⟩,
  ⟨some 25, .bslice 1 1 ([.s (.int .u8 0)]) [(0, .t 24)], none⟩,
  ⟨some 26, .append 1 1 ([.s (.int .u8 0)]) (.t 22) (.t 25), none⟩,
  ⟨some 8, .mv (.t 26), none⟩]
abbrev k29_1 : CC := .reg r29_6
abbrev r29_5 : List CO := [
  ⟨some 20, .mv (.t 9), none⟩,
  ⟨some 21, .bin .add (.t 20) (.c (.p (.s (.int .i64 1)))), none⟩,
  ⟨some 9, .mv (.t 21), none⟩]
abbrev l29_8 : CC := .seq (.seq (.reg r29_4) (.rest [2, 7, 8, 9, 19] (.cond (.t 19) (.skip) (.exit 0)))) (.rest [2, 7, 8, 9] (.seq (.block 1 k29_1) (.rest [2, 7, 8, 9] (.reg r29_5))))
abbrev k29_0 : CC := .loop l29_8
abbrev r29_7 : List CO := [
  ⟨some 27, .mv (.t 8), none⟩,
  ⟨some 6, .mv (.t 27), none⟩]
abbrev c29 : CC := .seq (.reg r29_0) (.seq (.reg r29_1) (.rest [2, 7] (.seq (.reg r29_2) (.seq (.seq (.reg r29_3) (.block 0 k29_0)) (.rest [8] (.seq (.reg r29_7) (.ret)))))))
theorem F29 : Fun Tryd.prog 29 28 c29 [.tmp 6] 3 := ⟨⟨Tryd.f29, _, Tryd.func29, rfl, by kernel_rfl, Tryd.ntmps29, by kernel_rfl, by kernel_rfl⟩, by decide⟩

/-- linnet/table.Standard -/
abbrev r30_0 : List CO := [
  ⟨some 0, .alloc (tz62), none⟩]
abbrev r30_1 : List CO := [
  ⟨some 1, .alloc (tz62), none⟩]
abbrev r30_2 : List CO := [
  ⟨some 4, .mv (.c (.p (.s (.int .i64 0)))), none⟩]
abbrev r30_3 : List CO := [
  ⟨some 5, .bin .lss (.t 4) (.c (.p (.s (.int .i64 31)))), none⟩]
abbrev r30_4 : List CO := [
  ⟨some 6, .mv (.t 4), none⟩,
  ⟨some 2, .mv (.t 6), none⟩]
abbrev r30_5 : List CO := [
  ⟨some 7, .mv (.t 2), none⟩,
  ⟨some 8, .iaddrA 1 31 (.g 0) (.t 7), none⟩,
  ⟨some 9, .load false 1 (.t 8), none⟩,
  ⟨some 3, .mv (.t 9), none⟩]
abbrev r30_6 : List CO := [
  ⟨some 10, .mv (.t 3), none⟩,
  ⟨some 11, .bin .gtr (.t 10) (.c (.p (.s (.int .u8 0)))), none⟩]
abbrev r30_7 : List CO := [
  ⟨some 12, .mv (.t 2), none⟩,
  ⟨some 13, .mv (.t 3), none⟩,
  ⟨some 14, .build ([.s (.int .i64 0), .s (.int .u8 0)]) [(0, 1, .c (.p (.s (.int .i64 2)))), (1, 1, .t 13)], none⟩,
  ⟨some 15, .iaddrA 2 31 (.t 1) (.t 12), none⟩,
  ⟨none, .store 2 (.t 15) (.t 14), none⟩]
abbrev k30_1 : CC := .seq (.reg r30_4) (.seq (.reg r30_5) (.rest [0, 1, 2, 3, 4] (.seq (.reg r30_6) (.cond (.t 11) (.reg r30_7) (.skip)))))
abbrev r30_8 : List CO := [
  ⟨some 16, .bin .add (.t 4) (.c (.p (.s (.int .i64 1)))), none⟩,
  ⟨some 4, .mv (.t 16), none⟩]
abbrev l30_10 : CC := .seq (.reg r30_3) (.seq (.cond (.t 5) (.skip) (.exit 0)) (.seq (.block 1 k30_1) (.rest [0, 1, 4] (.reg r30_8))))
abbrev k30_0 : CC := .loop l30_10
abbrev r30_9 : List CO := [
  ⟨some 17, .load true 62 (.t 1), none⟩,
  ⟨none, .store 62 (.t 0) (.t 17), none⟩]
abbrev c30 : CC := .seq (.reg r30_0) (.seq (.reg r30_1) (.seq (.seq (.reg r30_2) (.block 0 k30_0)) (.rest [0, 1] (.seq (.reg r30_9) (.ret)))))
theorem F30 : Fun Tryd.prog 30 18 c30 [.cell 0 true 62] 0 := ⟨⟨Tryd.f30, _, Tryd.func30, rfl, by kernel_rfl, Tryd.ntmps30, by kernel_rfl, by kernel_rfl⟩, by decide⟩

/-- linnet/line.Check -/
abbrev r31_0 : List CO := [
  ⟨some 1, .box (.t 0), none⟩,
  ⟨some 2, .mv (.c (.p (.s (.int .i64 0)))), none⟩]
abbrev r31_1 : List CO := [
  ⟨some 3, .faddr 0 (.t 1), none⟩,
  ⟨some 4, .load false 1 (.t 3), none⟩,
  ⟨some 5, .len (.t 4), none⟩,
  ⟨some 6, .bin .gtr (.t 5) (.c (.p (.s (.int .i64 4096)))), none⟩,
  ⟨some 7, .mv (.t 6), none⟩,
  ⟨some 8, .faddr 1 (.t 1), some (7, false)⟩,
  ⟨some 9, .load false 1 (.t 8), some (7, false)⟩,
  ⟨some 10, .bin .lss (.t 9) (.c (.p (.s (.int .i64 0)))), some (7, false)⟩,
  ⟨some 11, .pick (.t 7) (.c (.p (.s (.bool true)))) (.t 10), none⟩,
  ⟨some 12, .mv (.t 11), none⟩,
  ⟨some 13, .faddr 1 (.t 1), some (12, false)⟩,
  ⟨some 14, .load false 1 (.t 13), some (12, false)⟩,
  ⟨some 15, .faddr 0 (.t 1), some (12, false)⟩,
  ⟨some 16, .load false 1 (.t 15), some (12, false)⟩,
  ⟨some 17, .len (.t 16), some (12, false)⟩,
  ⟨some 18, .bin .gtr (.t 14) (.t 17), some (12, false)⟩,
  ⟨some 19, .pick (.t 12) (.c (.p (.s (.bool true)))) (.t 18), none⟩]
abbrev r31_2 : List CO := [
  ⟨some 2, .mv (.c (.p (.s (.int .i64 1)))), none⟩]
abbrev r31_3 : List CO := [
  ⟨some 2, .mv (.c (.p (.s (.int .i64 0)))), none⟩]
abbrev c31 : CC := .seq (.reg r31_0) (.seq (.seq (.reg r31_1) (.rest [19] (.cond (.t 19) (.seq (.reg r31_2) (.ret)) (.skip)))) (.rest [] (.seq (.reg r31_3) (.ret))))
theorem F31 : Fun Tryd.prog 31 20 c31 [.tmp 2] 1 := ⟨⟨Tryd.f31, _, Tryd.func31, rfl, by kernel_rfl, Tryd.ntmps31, by kernel_rfl, by kernel_rfl⟩, by decide⟩

/-- linnet/linnetlaw01.Few -/
abbrev r32_0 : List CO := [
  ⟨some 2, .mv (.c (.p (.s (.slice none 0 0)))), none⟩]
abbrev r32_1 : List CO := [
  ⟨some 3, .mv (.t 0), none⟩,
  ⟨some 4, .len (.t 3), none⟩,
  ⟨some 5, .bin .gtr (.t 4) (.c (.p (.s (.int .i64 200)))), none⟩]
abbrev r32_2 : List CO := [
  ⟨some 6, .mv (.t 0), none⟩,
  ⟨some 7, .slice 1 (.t 6) none (some (.c (.p (.s (.int .i64 200))))), none⟩,
  ⟨some 2, .mv (.t 7), none⟩]
abbrev r32_3 : List CO := [
  ⟨some 8, .mv (.t 0), none⟩,
  ⟨some 2, .mv (.t 8), none⟩]
abbrev c32 : CC := .seq (.reg r32_0) (.seq (.seq (.reg r32_1) (.cond (.t 5) (.seq (.reg r32_2) (.ret)) (.skip))) (.rest [0] (.seq (.reg r32_3) (.ret))))
theorem F32 : Fun Tryd.prog 32 9 c32 [.tmp 2] 1 := ⟨⟨Tryd.f32, _, Tryd.func32, rfl, by kernel_rfl, Tryd.ntmps32, by kernel_rfl, by kernel_rfl⟩, by decide⟩

/-- linnet/editor.Key -/
abbrev r33_0 : List CO := [
  ⟨some 4, .box (.t 0), none⟩,
  ⟨some 6, .box (.t 2), none⟩,
  ⟨some 8, .alloc ([.s (.slice none 0 0), .s (.int .i64 0), .s (.bool false), .s (.bool false)]), none⟩,
  ⟨some 9, .mv (.c (.p (.s (.slice none 0 0)))), none⟩,
  ⟨some 10, .mv (.c (.p (.s (.bool false)))), none⟩]
abbrev r33_1 : List CO := [
  ⟨some 12, .load true 4 (.t 6), none⟩,
  ⟨some 13, .call (.c (.fn (.func 16) [] [])) [.t 12], none⟩,
  ⟨some 14, .bin .neq (.t 13) (.c (.p (.s (.int .i64 0)))), none⟩]
abbrev r33_2 : List CO := [
  ⟨some 15, .load true 4 (.t 6), none⟩,
  ⟨none, .store 4 (.t 8) (.t 15), none⟩,
  ⟨some 9, .mv (.c (.p (.s (.slice none 0 0)))), none⟩,
  ⟨some 10, .mv (.c (.p (.s (.bool false)))), none⟩]
abbrev r33_3 : List CO := [
  ⟨some 16, .load true 4 (.t 6), none⟩,
  ⟨some 17, .mv (.t 1), none⟩,
  ⟨some 18, .build ([.s (.slice none 0 0), .s (.int .i64 0), .s (.bool false), .s (.bool false), .s (.int .i64 0), .s (.slice none 0 0), .s (.bool false)]) [(0, 4, .t 16), (4, 1, .t 17)], none⟩,
  ⟨some 19, .box (.t 18), none⟩,
  ⟨some 11, .mv (.t 19), none⟩]
abbrev r33_4 : List CO := [
  ⟨some 20, .mv (.t 11), none⟩,
  ⟨some 21, .nilchk (.t 20), none⟩,
  ⟨some 22, .faddr 0 (.t 21), none⟩,
  ⟨some 23, .faddr 3 (.t 22), none⟩,
  ⟨some 24, .load false 1 (.t 23), none⟩]
abbrev r33_5 : List CO := [
  ⟨some 25, .mv (.t 11), none⟩,
  ⟨some 26, .nilchk (.t 25), none⟩,
  ⟨some 27, .faddr 0 (.t 26), none⟩,
  ⟨some 28, .faddr 3 (.t 27), none⟩,
  ⟨none, .store 1 (.t 28) (.c (.p (.s (.bool false)))), none⟩]
abbrev r33_6 : List CO := [
  ⟨some 29, .mv (.t 11), none⟩,
  ⟨some 30, .mv (.t 3), none⟩,
  ⟨some 31, .call (.c (.fn (.func 42) [] [])) [.t 29, .t 30], none⟩]
abbrev r33_7 : List CO := [
  ⟨some 32, .mv (.t 11), none⟩,
  ⟨some 33, .load true 62 (.t 4), none⟩,
  ⟨some 34, .mv (.t 3), none⟩,
  ⟨some 35, .call (.c (.fn (.func 23) [] [])) [.t 33, .t 34], none⟩,
  ⟨some 36, .mv (.t 3), none⟩,
  ⟨some 37, .call (.c (.fn (.func 43) [] [])) [.t 32, .t 35, .t 36], none⟩]
abbrev r33_8 : List CO := [
  ⟨some 38, .mv (.t 11), none⟩,
  ⟨some 39, .nilchk (.t 38), none⟩,
  ⟨some 40, .faddr 0 (.t 39), none⟩,
  ⟨some 41, .load true 4 (.t 40), none⟩,
  ⟨some 42, .mv (.t 11), none⟩,
  ⟨some 43, .nilchk (.t 42), none⟩,
  ⟨some 44, .faddr 5 (.t 43), none⟩,
  ⟨some 45, .load false 1 (.t 44), none⟩,
  ⟨some 46, .mv (.t 11), none⟩,
  ⟨some 47, .nilchk (.t 46), none⟩,
  ⟨some 48, .faddr 6 (.t 47), none⟩,
  ⟨some 49, .load false 1 (.t 48), none⟩,
  ⟨none, .store 4 (.t 8) (.t 41), none⟩,
  ⟨some 9, .mv (.t 45), none⟩,
  ⟨some 10, .mv (.t 49), none⟩]
abbrev b33_8 : List (List Nat) := [[], [0], [1], [2], [], [4], [5], [6], [], [8], [9], [10], [3, 0, 1, 2, 3], [7, 12, 0, 1, 2, 3, 4, 5, 6, 7, 12], [11, 13, 0, 1, 2, 3, 4, 5, 6, 7, 8, 9, 10, 11, 12, 13]]
abbrev c33 : CC := .seq (.reg r33_0) (.rest [1, 3, 4, 6, 8] (.seq (.seq (.reg r33_1) (.cond (.t 14) (.seq (.reg r33_2) (.rest [8, 9, 10] (.ret))) (.skip))) (.rest [1, 3, 4, 6, 8] (.seq (.reg r33_3) (.rest [3, 4, 8, 11] (.seq (.seq (.reg r33_4) (.rest [3, 4, 8, 11, 24] (.cond (.t 24) (.seq (.reg r33_5) (.rest [3, 8, 11] (.reg r33_6))) (.reg r33_7)))) (.rest [8, 11] (.seq (.regd r33_8 b33_8) (.rest [8, 9, 10] (.ret))))))))))
theorem F33 : Fun Tryd.prog 33 50 c33 [.cell 8 true 4, .tmp 9, .tmp 10] 4 := ⟨⟨Tryd.f33, _, Tryd.func33, rfl, by kernel_rfl, Tryd.ntmps33, by kernel_rfl, by kernel_rfl⟩, by decide⟩

/-- linnet/line.Same -/
abbrev r34_0 : List CO := [
  ⟨some 2, .box (.t 0), none⟩,
  ⟨some 3, .box (.t 1), none⟩,
  ⟨some 4, .mv (.c (.p (.s (.bool false)))), none⟩]
abbrev r34_1 : List CO := [
  ⟨some 5, .faddr 1 (.t 2), none⟩,
  ⟨some 6, .load false 1 (.t 5), none⟩,
  ⟨some 7, .faddr 1 (.t 3), none⟩,
  ⟨some 8, .load false 1 (.t 7), none⟩,
  ⟨some 9, .bin .eql (.t 6) (.t 8), none⟩,
  ⟨some 10, .mv (.t 9), none⟩,
  ⟨some 11, .faddr 0 (.t 2), some (10, true)⟩,
  ⟨some 12, .load false 1 (.t 11), some (10, true)⟩,
  ⟨some 13, .faddr 0 (.t 3), some (10, true)⟩,
  ⟨some 14, .load false 1 (.t 13), some (10, true)⟩,
  ⟨some 15, .call (.c (.fn (.func 37) [] [])) [.t 12, .t 14], some (10, true)⟩,
  ⟨some 16, .pick (.t 10) (.t 15) (.c (.p (.s (.bool false)))), none⟩,
  ⟨some 4, .mv (.t 16), none⟩]
abbrev c34 : CC := .seq (.reg r34_0) (.seq (.reg r34_1) (.rest [4] (.ret)))
theorem F34 : Fun Tryd.prog 34 17 c34 [.tmp 4] 2 := ⟨⟨Tryd.f34, _, Tryd.func34, rfl, by kernel_rfl, Tryd.ntmps34, by kernel_rfl, by kernel_rfl⟩, by decide⟩

/-- slices.EqualFunc[[]linnet/api.Event,[]linnet/api.Event,linnet/api.Event,linnet/api.Event] -/
abbrev r35_0 : List CO := [
  ⟨some 6, .mv (.c (.p (.s (.bool false)))), none⟩]
abbrev r35_1 : List CO := [
  ⟨some 10, .mv (.t 0), none⟩,
  ⟨some 11, .len (.t 10), none⟩,
  ⟨some 12, .mv (.t 1), none⟩,
  ⟨some 13, .len (.t 12), none⟩,
  ⟨some 14, .bin .neq (.t 11) (.t 13), none⟩]
abbrev r35_2 : List CO := [
  ⟨some 6, .mv (.c (.p (.s (.bool false)))), none⟩]
abbrev r35_3 : List CO := [
  ⟨some 15, .mv (.t 0), none⟩,
  ⟨some 16, .len (.t 15), none⟩,
  ⟨some 17, .mv (.c (.p (.s (.int .i64 0)))), none⟩]
abbrev r35_4 : List CO := [
  ⟨some 18, .bin .lss (.t 17) (.t 16), none⟩]
abbrev r35_5 : List CO := [
  ⟨some 19, .mv (.t 17), none⟩,
  ⟨some 20, .iaddrS 3 (.t 15) (.t 17), none⟩,
  ⟨some 21, .load true 3 (.t 20), none⟩,
  ⟨some 8, .alloc ([.s (.int .i64 0), .s (.int .i64 0), .s (.slice none 0 0)]), none⟩,
  ⟨some 7, .mv (.t 19), none⟩,
  ⟨none, .store 3 (.t 8) (.t 21), none⟩]
abbrev r35_6 : List CO := [
  ⟨some 22, .mv (.t 1), none⟩,
  ⟨some 23, .mv (.t 7), none⟩,
  ⟨some 24, .iaddrS 3 (.t 22) (.t 23), none⟩,
  ⟨some 25, .load true 3 (.t 24), none⟩,
  ⟨some 9, .alloc ([.s (.int .i64 0), .s (.int .i64 0), .s (.slice none 0 0)]), none⟩,
  ⟨none, .store 3 (.t 9) (.t 25), none⟩]
abbrev r35_7 : List CO := [
  ⟨some 26, .mv (.t 2), none⟩,
  ⟨some 27, .load true 3 (.t 8), none⟩,
  ⟨some 28, .load true 3 (.t 9), none⟩,
  ⟨some 29, .call (.t 26) [.t 27, .t 28], none⟩,
  ⟨some 30, .un .not (.t 29), none⟩]
abbrev r35_8 : List CO := [
  ⟨some 6, .mv (.c (.p (.s (.bool false)))), none⟩]
abbrev k35_1 : CC := .seq (.reg r35_5) (.rest [1, 2, 7, 8, 15, 16, 17] (.seq (.reg r35_6) (.rest [1, 2, 8, 9, 15, 16, 17] (.seq (.reg r35_7) (.rest [1, 2, 15, 16, 17, 30] (.cond (.t 30) (.seq (.reg r35_8) (.ret)) (.skip)))))))
abbrev r35_9 : List CO := [
  ⟨some 31, .bin .add (.t 17) (.c (.p (.s (.int .i64 1)))), none⟩,
  ⟨some 17, .mv (.t 31), none⟩]
abbrev l35_11 : CC := .seq (.reg r35_4) (.seq (.cond (.t 18) (.skip) (.exit 0)) (.seq (.block 1 k35_1) (.rest [1, 2, 15, 16, 17] (.reg r35_9))))
abbrev k35_0 : CC := .loop l35_11
abbrev r35_10 : List CO := [
  ⟨some 6, .mv (.c (.p (.s (.bool true)))), none⟩]
abbrev c35 : CC := .seq (.reg r35_0) (.seq (.seq (.reg r35_1) (.rest [0, 1, 2, 14] (.cond (.t 14) (.seq (.reg r35_2) (.ret)) (.skip)))) (.rest [0, 1, 2] (.seq (.seq (.reg r35_3) (.block 0 k35_0)) (.rest [] (.seq (.reg r35_10) (.ret))))))
theorem F35 : Fun Tryd.prog 35 32 c35 [.tmp 6] 3 := ⟨⟨Tryd.f35, _, Tryd.func35, rfl, by kernel_rfl, Tryd.ntmps35, by kernel_rfl, by kernel_rfl⟩, by decide⟩

/-- linnet/editor.Alike$1 -/
abbrev r36_0 : List CO := [
  ⟨some 2, .box (.t 0), none⟩,
  ⟨some 3, .box (.t 1), none⟩,
  ⟨some 4, .mv (.c (.p (.s (.bool false)))), none⟩]
abbrev r36_1 : List CO := [
  ⟨some 5, .faddr 0 (.t 2), none⟩,
  ⟨some 6, .load false 1 (.t 5), none⟩,
  ⟨some 7, .faddr 0 (.t 3), none⟩,
  ⟨some 8, .load false 1 (.t 7), none⟩,
  ⟨some 9, .bin .eql (.t 6) (.t 8), none⟩,
  ⟨some 10, .mv (.t 9), none⟩,
  ⟨some 11, .faddr 1 (.t 2), some (10, true)⟩,
  ⟨some 12, .load false 1 (.t 11), some (10, true)⟩,
  ⟨some 13, .faddr 1 (.t 3), some (10, true)⟩,
  ⟨some 14, .load false 1 (.t 13), some (10, true)⟩,
  ⟨some 15, .bin .eql (.t 12) (.t 14), some (10, true)⟩,
  ⟨some 16, .pick (.t 10) (.t 15) (.c (.p (.s (.bool false)))), none⟩,
  ⟨some 17, .mv (.t 16), none⟩,
  ⟨some 18, .faddr 2 (.t 2), some (17, true)⟩,
  ⟨some 19, .load false 1 (.t 18), some (17, true)⟩,
  ⟨some 20, .faddr 2 (.t 3), some (17, true)⟩,
  ⟨some 21, .load false 1 (.t 20), some (17, true)⟩,
  ⟨some 22, .call (.c (.fn (.func 37) [] [])) [.t 19, .t 21], some (17, true)⟩,
  ⟨some 23, .pick (.t 17) (.t 22) (.c (.p (.s (.bool false)))), none⟩,
  ⟨some 4, .mv (.t 23), none⟩]
abbrev c36 : CC := .seq (.reg r36_0) (.seq (.reg r36_1) (.rest [4] (.ret)))
theorem F36 : Fun Tryd.prog 36 24 c36 [.tmp 4] 2 := ⟨⟨Tryd.f36, _, Tryd.func36, rfl, by kernel_rfl, Tryd.ntmps36, by kernel_rfl, by kernel_rfl⟩, by decide⟩

/-- bytes.Equal -/
abbrev r37_0 : List CO := [
  ⟨some 4, .mv (.c (.p (.s (.bool false)))), none⟩]
abbrev r37_1 : List CO := [
  ⟨some 5, .mv (.t 0), none⟩,
  ⟨some 6, .toStr (.t 5), none⟩,
  ⟨some 7, .mv (.t 1), none⟩,
  ⟨some 8, .toStr (.t 7), none⟩,
  ⟨some 9, .bin .eql (.t 6) (.t 8), none⟩,
  ⟨some 4, .mv (.t 9), none⟩]
abbrev c37 : CC := .seq (.reg r37_0) (.seq (.reg r37_1) (.rest [4] (.ret)))
theorem F37 : Fun Tryd.prog 37 10 c37 [.tmp 4] 2 := ⟨⟨Tryd.f37, _, Tryd.func37, rfl, by kernel_rfl, Tryd.ntmps37, by kernel_rfl, by kernel_rfl⟩, by decide⟩

/-- linnet/table.Key -/
abbrev r38_0 : List CO := [
  ⟨some 2, .box (.t 0), none⟩,
  ⟨some 4, .mv (.c (.p (.s (.int .u8 0)))), none⟩,
  ⟨some 5, .mv (.c (.p (.s (.bool false)))), none⟩]
abbrev r38_1 : List CO := [
  ⟨some 7, .mv (.t 1), none⟩,
  ⟨some 8, .bin .eql (.t 7) (.c (.p (.s (.int .i64 31)))), none⟩,
  ⟨some 6, .mv (.t 8), none⟩]
abbrev r38_2 : List CO := [
  ⟨some 4, .mv (.c (.p (.s (.int .u8 13)))), none⟩,
  ⟨some 5, .mv (.c (.p (.s (.bool true)))), none⟩]
abbrev r38_3 : List CO := [
  ⟨some 10, .mv (.t 1), none⟩,
  ⟨some 11, .bin .lss (.t 10) (.c (.p (.s (.int .i64 1)))), none⟩,
  ⟨some 12, .mv (.t 11), none⟩,
  ⟨some 13, .mv (.t 1), some (12, false)⟩,
  ⟨some 14, .bin .geq (.t 13) (.c (.p (.s (.int .i64 31)))), some (12, false)⟩,
  ⟨some 15, .pick (.t 12) (.c (.p (.s (.bool true)))) (.t 14), none⟩,
  ⟨some 16, .mv (.t 15), none⟩,
  ⟨some 17, .mv (.t 1), some (16, false)⟩,
  ⟨some 18, .iaddrA 2 31 (.t 2) (.t 17), some (16, false)⟩,
  ⟨some 19, .faddr 0 (.t 18), some (16, false)⟩,
  ⟨some 20, .load false 1 (.t 19), some (16, false)⟩,
  ⟨some 21, .bin .eql (.t 20) (.c (.p (.s (.int .i64 0)))), some (16, false)⟩,
  ⟨some 22, .pick (.t 16) (.c (.p (.s (.bool true)))) (.t 21), none⟩,
  ⟨some 23, .mv (.t 22), none⟩,
  ⟨some 24, .load true 62 (.t 2), some (23, false)⟩,
  ⟨some 25, .mv (.t 1), some (23, false)⟩,
  ⟨some 26, .iaddrA 2 31 (.t 2) (.t 25), some (23, false)⟩,
  ⟨some 27, .faddr 1 (.t 26), some (23, false)⟩,
  ⟨some 28, .load false 1 (.t 27), some (23, false)⟩,
  ⟨some 29, .call (.c (.fn (.func 23) [] [])) [.t 24, .t 28], some (23, false)⟩,
  ⟨some 30, .mv (.t 1), some (23, false)⟩,
  ⟨some 31, .bin .neq (.t 29) (.t 30), some (23, false)⟩,
  ⟨some 32, .pick (.t 23) (.c (.p (.s (.bool true)))) (.t 31), none⟩,
  ⟨some 9, .mv (.t 32), none⟩]
abbrev b38_3 : List (List Nat) := [[], [0], [1], [2], [3, 2], [2, 4], [5, 2], [6], [7, 6], [8, 6], [9, 6], [10, 6], [6, 11], [12, 6], [13], [13], [15, 13], [16, 13], [17, 13], [14, 18, 13, 13], [13], [19, 20, 13], [13, 21], [22, 19]]
abbrev r38_4 : List CO := [
  ⟨some 4, .mv (.c (.p (.s (.int .u8 0)))), none⟩,
  ⟨some 5, .mv (.c (.p (.s (.bool false)))), none⟩]
abbrev k38_0 : CC := .seq (.reg r38_1) (.cond (.t 6) (.seq (.reg r38_2) (.ret)) (.seq (.regd r38_3 b38_3) (.rest [1, 2, 9] (.cond (.t 9) (.seq (.reg r38_4) (.ret)) (.skip)))))
abbrev r38_5 : List CO := [
  ⟨some 33, .mv (.t 1), none⟩,
  ⟨some 34, .iaddrA 2 31 (.t 2) (.t 33), none⟩,
  ⟨some 35, .faddr 1 (.t 34), none⟩,
  ⟨some 36, .load false 1 (.t 35), none⟩,
  ⟨some 4, .mv (.t 36), none⟩,
  ⟨some 5, .mv (.c (.p (.s (.bool true)))), none⟩]
abbrev c38 : CC := .seq (.reg r38_0) (.seq (.block 0 k38_0) (.rest [1, 2] (.seq (.reg r38_5) (.rest [4, 5] (.ret)))))
theorem F38 : Fun Tryd.prog 38 37 c38 [.tmp 4, .tmp 5] 2 := ⟨⟨Tryd.f38, _, Tryd.func38, rfl, by kernel_rfl, Tryd.ntmps38, by kernel_rfl, by kernel_rfl⟩, by decide⟩

/-- bytes.Repeat -/
abbrev r39_0 : List CO := [
  ⟨some 4, .mv (.c (.p (.s (.slice none 0 0)))), none⟩]
abbrev r39_1 : List CO := [
  ⟨some 12, .mv (.t 1), none⟩,
  ⟨some 13, .bin .eql (.t 12) (.c (.p (.s (.int .i64 0)))), none⟩]
abbrev r39_2 : List CO := [
  ⟨some 14, .bslice 1 0 ([.s (.int .u8 0)]) [], none⟩,
  ⟨some 4, .mv (.t 14), none⟩]
abbrev r39_3 : List CO := [
  ⟨some 15, .mv (.t 1), none⟩,
  ⟨some 16, .bin .lss (.t 15) (.c (.p (.s (.int .i64 0)))), none⟩]
abbrev r39_4 : List CO := [
  ⟨some 17, .mkif 9 (.c (.p (.s (.string { data := #[98, 121, 116, 101, 115, 58, 32, 110, 101, 103, 97, 116, 105, 118, 101, 32, 82, 101, 112, 101, 97, 116, 32, 99, 111, 117, 110, 116] })))), none⟩,
  ⟨none, .panic (.t 17), none⟩]
abbrev r39_5 : List CO := [
  ⟨some 19, .mv (.t 0), none⟩,
  ⟨some 20, .len (.t 19), none⟩,
  ⟨some 21, .toInt .u64 (.t 20), none⟩,
  ⟨some 22, .mv (.t 1), none⟩,
  ⟨some 23, .toInt .u64 (.t 22), none⟩,
  ⟨some 24, .call (.c (.fn (.func 44) [] [])) [.t 21, .t 23], none⟩,
  ⟨some 18, .mv (.t 24), none⟩,
  ⟨some 25, .extract 0 (.t 18), none⟩,
  ⟨some 26, .extract 1 (.t 18), none⟩,
  ⟨some 5, .mv (.t 25), none⟩,
  ⟨some 6, .mv (.t 26), none⟩]
abbrev r39_6 : List CO := [
  ⟨some 27, .mv (.t 5), none⟩,
  ⟨some 28, .bin .gtr (.t 27) (.c (.p (.s (.int .u64 0)))), none⟩,
  ⟨some 29, .mv (.t 28), none⟩,
  ⟨some 30, .mv (.t 6), some (29, false)⟩,
  ⟨some 31, .bin .gtr (.t 30) (.c (.p (.s (.int .u64 9223372036854775807)))), some (29, false)⟩,
  ⟨some 32, .pick (.t 29) (.c (.p (.s (.bool true)))) (.t 31), none⟩]
abbrev r39_7 : List CO := [
  ⟨some 33, .mkif 9 (.c (.p (.s (.string { data := #[98, 121, 116, 101, 115, 58, 32, 82, 101, 112, 101, 97, 116, 32, 111, 117, 116, 112, 117, 116, 32, 108, 101, 110, 103, 116, 104, 32, 111, 118, 101, 114, 102, 108, 111, 119] })))), none⟩,
  ⟨none, .panic (.t 33), none⟩]
abbrev r39_8 : List CO := [
  ⟨some 34, .mv (.t 6), none⟩,
  ⟨some 35, .toInt .i64 (.t 34), none⟩,
  ⟨some 7, .mv (.t 35), none⟩]
abbrev r39_9 : List CO := [
  ⟨some 36, .mv (.t 0), none⟩,
  ⟨some 37, .len (.t 36), none⟩,
  ⟨some 38, .bin .eql (.t 37) (.c (.p (.s (.int .i64 0)))), none⟩]
abbrev r39_10 : List CO := [
  ⟨some 39, .bslice 1 0 ([.s (.int .u8 0)]) [], none⟩,
  ⟨some 4, .mv (.t 39), none⟩]
abbrev r39_11 : List CO := [
  ⟨some 40, .mv (.t 7), none⟩,
  ⟨some 8, .mv (.t 40), none⟩]
abbrev r39_12 : List CO := [
  ⟨some 41, .mv (.t 8), none⟩,
  ⟨some 42, .bin .gtr (.t 41) (.c (.p (.s (.int .i64 8192)))), none⟩]
abbrev r39_13 : List CO := [
  ⟨some 43, .mv (.t 0), none⟩,
  ⟨some 44, .len (.t 43), none⟩,
  ⟨some 45, .bin .quo (.c (.p (.s (.int .i64 8192)))) (.t 44), none⟩,
  ⟨some 46, .mv (.t 0), none⟩,
  ⟨some 47, .len (.t 46), none⟩,
  ⟨some 48, .bin .mul (.t 45) (.t 47), none⟩,
  ⟨some 8, .mv (.t 48), none⟩]
abbrev r39_14 : List CO := [
  ⟨some 49, .mv (.t 8), none⟩,
  ⟨some 50, .bin .eql (.t 49) (.c (.p (.s (.int .i64 0)))), none⟩]
abbrev r39_15 : List CO := [
  ⟨some 51, .mv (.t 0), none⟩,
  ⟨some 52, .len (.t 51), none⟩,
  ⟨some 8, .mv (.t 52), none⟩]
abbrev r39_16 : List CO := [
  ⟨some 53, .mv (.t 7), none⟩,
  ⟨some 54, .ext .mkz [.t 53], none⟩,
  ⟨some 55, .mv (.t 7), none⟩,
  ⟨some 56, .mv (.t 7), none⟩,
  ⟨some 57, .ext (.slice3 1 false) [.t 54, .t 55, .t 56], none⟩,
  ⟨some 9, .mv (.t 57), none⟩]
abbrev r39_17 : List CO := [
  ⟨some 58, .mv (.t 9), none⟩,
  ⟨some 59, .mv (.t 0), none⟩,
  ⟨some 60, .ext (.copy 1) [.t 58, .t 59], none⟩,
  ⟨some 10, .mv (.t 60), none⟩]
abbrev r39_18 : List CO := [
  ⟨some 61, .mv (.t 10), none⟩,
  ⟨some 62, .mv (.t 7), none⟩,
  ⟨some 63, .bin .lss (.t 61) (.t 62), none⟩]
abbrev r39_19 : List CO := [
  ⟨some 64, .mv (.t 10), none⟩,
  ⟨some 65, .mv (.t 8), none⟩,
  ⟨some 66, .minmax false (.t 64) (.t 65), none⟩,
  ⟨some 11, .mv (.t 66), none⟩]
abbrev r39_20 : List CO := [
  ⟨some 67, .mv (.t 10), none⟩,
  ⟨some 68, .mv (.t 9), none⟩,
  ⟨some 69, .mv (.t 10), none⟩,
  ⟨some 70, .slice 1 (.t 68) (some (.t 69)) none, none⟩,
  ⟨some 71, .mv (.t 9), none⟩,
  ⟨some 72, .mv (.t 11), none⟩,
  ⟨some 73, .slice 1 (.t 71) none (some (.t 72)), none⟩,
  ⟨some 74, .ext (.copy 1) [.t 70, .t 73], none⟩,
  ⟨some 75, .bin .add (.t 67) (.t 74), none⟩,
  ⟨some 10, .mv (.t 75), none⟩]
abbrev b39_20 : List (List Nat) := [[], [], [], [1, 2], [], [], [4, 5], [3, 6], [0, 7], [8, 7, 0, 1, 2, 3, 4, 5, 6, 7, 8]]
abbrev k39_1 : CC := .seq (.reg r39_19) (.rest [7, 8, 9, 10, 11] (.regd r39_20 b39_20))
abbrev l39_23 : CC := .seq (.seq (.reg r39_18) (.cond (.t 63) (.skip) (.exit 0))) (.block 1 k39_1)
abbrev k39_0 : CC := .loop l39_23
abbrev r39_21 : List CO := [
  ⟨some 76, .mv (.t 9), none⟩,
  ⟨some 4, .mv (.t 76), none⟩]
abbrev c39 : CC := .seq (.reg r39_0) (.seq (.seq (.reg r39_1) (.cond (.t 13) (.seq (.reg r39_2) (.ret)) (.skip))) (.rest [0, 1] (.seq (.seq (.reg r39_3) (.cond (.t 16) (.reg r39_4) (.skip))) (.rest [0, 1] (.seq (.reg r39_5) (.rest [0, 5, 6] (.seq (.seq (.reg r39_6) (.rest [0, 6, 32] (.cond (.t 32) (.reg r39_7) (.skip)))) (.rest [0, 6] (.seq (.reg r39_8) (.seq (.seq (.reg r39_9) (.cond (.t 38) (.seq (.reg r39_10) (.ret)) (.skip))) (.rest [0, 7] (.seq (.reg r39_11) (.seq (.seq (.reg r39_12) (.cond (.t 42) (.seq (.reg r39_13) (.rest [0, 7, 8] (.seq (.reg r39_14) (.cond (.t 50) (.reg r39_15) (.skip))))) (.skip))) (.rest [0, 7, 8] (.seq (.reg r39_16) (.rest [0, 7, 8, 9] (.seq (.reg r39_17) (.rest [7, 8, 9, 10] (.seq (.block 0 k39_0) (.rest [9] (.seq (.reg r39_21) (.ret))))))))))))))))))))))
theorem F39 : Fun Tryd.prog 39 77 c39 [.tmp 4] 2 := ⟨⟨Tryd.f39, _, Tryd.func39, rfl, by kernel_rfl, Tryd.ntmps39, by kernel_rfl, by kernel_rfl⟩, by decide⟩

/-- linnet/linnetref12.May -/
abbrev r40_0 : List CO := [
  ⟨some 1, .box (.t 0), none⟩,
  ⟨some 2, .mv (.c (.p (.s (.bool false)))), none⟩]
abbrev r40_1 : List CO := [
  ⟨some 3, .faddr 0 (.t 1), none⟩,
  ⟨some 4, .load false 1 (.t 3), none⟩,
  ⟨some 5, .len (.t 4), none⟩,
  ⟨some 6, .bin .leq (.t 5) (.c (.p (.s (.int .i64 4096)))), none⟩,
  ⟨some 7, .mv (.t 6), none⟩,
  ⟨some 8, .faddr 1 (.t 1), some (7, true)⟩,
  ⟨some 9, .load false 1 (.t 8), some (7, true)⟩,
  ⟨some 10, .bin .geq (.t 9) (.c (.p (.s (.int .i64 0)))), some (7, true)⟩,
  ⟨some 11, .pick (.t 7) (.t 10) (.c (.p (.s (.bool false)))), none⟩,
  ⟨some 12, .mv (.t 11), none⟩,
  ⟨some 13, .faddr 1 (.t 1), some (12, true)⟩,
  ⟨some 14, .load false 1 (.t 13), some (12, true)⟩,
  ⟨some 15, .faddr 0 (.t 1), some (12, true)⟩,
  ⟨some 16, .load false 1 (.t 15), some (12, true)⟩,
  ⟨some 17, .len (.t 16), some (12, true)⟩,
  ⟨some 18, .bin .leq (.t 14) (.t 17), some (12, true)⟩,
  ⟨some 19, .pick (.t 12) (.t 18) (.c (.p (.s (.bool false)))), none⟩,
  ⟨some 2, .mv (.t 19), none⟩]
abbrev c40 : CC := .seq (.reg r40_0) (.seq (.reg r40_1) (.rest [2] (.ret)))
theorem F40 : Fun Tryd.prog 40 20 c40 [.tmp 2] 1 := ⟨⟨Tryd.f40, _, Tryd.func40, rfl, by kernel_rfl, Tryd.ntmps40, by kernel_rfl, by kernel_rfl⟩, by decide⟩

/-- linnet/linnetref08.Key -/
abbrev r41_0 : List CO := [
  ⟨some 2, .box (.t 0), none⟩,
  ⟨some 4, .mv (.c (.p (.s (.int .i64 0)))), none⟩]
abbrev r41_1 : List CO := [
  ⟨some 5, .mv (.c (.p (.s (.int .i64 0)))), none⟩]
abbrev r41_2 : List CO := [
  ⟨some 6, .mv (.t 5), none⟩,
  ⟨some 7, .bin .lss (.t 6) (.c (.p (.s (.int .i64 256)))), none⟩]
abbrev r41_4 : List CO := [
  ⟨some 10, .mv (.t 1), none⟩,
  ⟨some 11, .bin .geq (.t 10) (.c (.p (.s (.int .i64 1)))), none⟩,
  ⟨some 12, .mv (.t 11), none⟩,
  ⟨some 13, .load true 62 (.t 2), some (12, true)⟩,
  ⟨some 14, .mv (.t 5), some (12, true)⟩,
  ⟨some 15, .toInt .u8 (.t 14), some (12, true)⟩,
  ⟨some 16, .call (.c (.fn (.func 24) [] [])) [.t 13, .t 15], some (12, true)⟩,
  ⟨some 17, .mv (.t 1), some (12, true)⟩,
  ⟨some 18, .bin .eql (.t 16) (.t 17), some (12, true)⟩,
  ⟨some 19, .pick (.t 12) (.t 18) (.c (.p (.s (.bool false)))), none⟩]
abbrev r41_5 : List CO := [
  ⟨some 20, .mv (.t 5), none⟩,
  ⟨some 4, .mv (.t 20), none⟩]
abbrev k41_1 : CC := .seq (.reg r41_4) (.rest [1, 2, 5, 19] (.cond (.t 19) (.seq (.reg r41_5) (.ret)) (.skip)))
abbrev r41_3 : List CO := [
  ⟨some 8, .mv (.t 5), none⟩,
  ⟨some 9, .bin .add (.t 8) (.c (.p (.s (.int .i64 1)))), none⟩,
  ⟨some 5, .mv (.t 9), none⟩]
abbrev l41_7 : CC := .seq (.seq (.reg r41_2) (.cond (.t 7) (.skip) (.exit 0))) (.seq (.block 1 k41_1) (.rest [1, 2, 5] (.reg r41_3)))
abbrev k41_0 : CC := .loop l41_7
abbrev r41_6 : List CO := [
  ⟨some 4, .mv (.c (.p (.s (.int .i64 256)))), none⟩]
abbrev c41 : CC := .seq (.reg r41_0) (.seq (.seq (.reg r41_1) (.block 0 k41_0)) (.rest [] (.seq (.reg r41_6) (.ret))))
theorem F41 : Fun Tryd.prog 41 21 c41 [.tmp 4] 2 := ⟨⟨Tryd.f41, _, Tryd.func41, rfl, by kernel_rfl, Tryd.ntmps41, by kernel_rfl, by kernel_rfl⟩, by decide⟩

/-- (*linnet/editor.work).typed -/
abbrev r42_0 : List CO := [
  ⟨some 7, .mv (.t 0), none⟩,
  ⟨some 8, .nilchk (.t 7), none⟩,
  ⟨some 9, .faddr 0 (.t 8), none⟩,
  ⟨some 10, .faddr 0 (.t 9), none⟩,
  ⟨some 11, .load true 2 (.t 10), none⟩,
  ⟨some 12, .mv (.t 0), none⟩,
  ⟨some 13, .nilchk (.t 12), none⟩,
  ⟨some 14, .faddr 4 (.t 13), none⟩,
  ⟨some 15, .load false 1 (.t 14), none⟩,
  ⟨some 16, .mv (.t 0), none⟩,
  ⟨some 17, .nilchk (.t 16), none⟩,
  ⟨some 18, .faddr 0 (.t 17), none⟩,
  ⟨some 19, .faddr 2 (.t 18), none⟩,
  ⟨some 20, .load false 1 (.t 19), none⟩,
  ⟨some 21, .mv (.t 1), none⟩,
  ⟨some 22, .call (.c (.fn (.func 46) [] [])) [.t 11, .t 15, .t 20, .t 21], none⟩,
  ⟨some 6, .mv (.t 22), none⟩,
  ⟨some 23, .extract 0 (.t 6), none⟩,
  ⟨some 24, .extract 1 (.t 6), none⟩,
  ⟨some 4, .alloc ([.s (.slice none 0 0), .s (.int .i64 0)]), none⟩,
  ⟨none, .store 2 (.t 4) (.t 23), none⟩,
  ⟨some 5, .mv (.t 24), none⟩]
abbrev b42_0 : List (List Nat) := [[], [0], [1], [2], [3], [], [5], [6], [7], [], [9], [10], [11], [12], [], [4, 8, 13, 14], [15], [16], [16], [], [19, 17, 15, 0, 1, 2, 3, 4, 5, 6, 7, 8, 9, 10, 11, 12, 13, 14, 15, 16, 17, 19], [18, 20, 0, 1, 2, 3, 4, 5, 6, 7, 8, 9, 10, 11, 12, 13, 14, 15, 16, 17, 18, 19, 20]]
abbrev r42_1 : List CO := [
  ⟨some 25, .mv (.t 0), none⟩,
  ⟨some 26, .mv (.t 0), none⟩,
  ⟨some 27, .load true 2 (.t 4), none⟩,
  ⟨some 28, .mv (.t 5), none⟩,
  ⟨some 29, .un .not (.t 28), none⟩,
  ⟨some 30, .nilchk (.t 25), none⟩,
  ⟨some 31, .faddr 0 (.t 30), none⟩,
  ⟨some 32, .faddr 0 (.t 31), none⟩,
  ⟨none, .store 2 (.t 32) (.t 27), none⟩,
  ⟨some 33, .nilchk (.t 26), none⟩,
  ⟨some 34, .faddr 6 (.t 33), none⟩,
  ⟨none, .store 1 (.t 34) (.t 29), none⟩]
abbrev c42 : CC := .seq (.regd r42_0 b42_0) (.rest [0, 4, 5] (.reg r42_1))
theorem F42 : Fun Tryd.prog 42 35 c42 [] 2 := ⟨⟨Tryd.f42, _, Tryd.func42, rfl, by kernel_rfl, Tryd.ntmps42, by kernel_rfl, by kernel_rfl⟩, by decide⟩

/-- (*linnet/editor.work).means -/
abbrev r43_1 : List CO := [
  ⟨some 21, .mv (.t 1), none⟩,
  ⟨some 22, .bin .eql (.t 21) (.c (.p (.s (.int .i64 0)))), none⟩,
  ⟨some 23, .mv (.t 22), none⟩,
  ⟨some 24, .mv (.t 1), some (23, false)⟩,
  ⟨some 25, .bin .eql (.t 24) (.c (.p (.s (.int .i64 17)))), some (23, false)⟩,
  ⟨some 26, .pick (.t 23) (.c (.p (.s (.bool true)))) (.t 25), none⟩,
  ⟨some 27, .mv (.t 26), none⟩,
  ⟨some 28, .mv (.t 1), some (27, false)⟩,
  ⟨some 29, .bin .eql (.t 28) (.c (.p (.s (.int .i64 18)))), some (27, false)⟩,
  ⟨some 30, .pick (.t 27) (.c (.p (.s (.bool true)))) (.t 29), none⟩,
  ⟨some 20, .mv (.t 30), none⟩]
abbrev r43_2 : List CO := [
  ⟨some 31, .mv (.t 0), none⟩,
  ⟨some 32, .mv (.t 2), none⟩,
  ⟨some 33, .call (.c (.fn (.func 42) [] [])) [.t 31, .t 32], none⟩]
abbrev r43_3 : List CO := [
  ⟨some 35, .mv (.t 1), none⟩,
  ⟨some 36, .bin .eql (.t 35) (.c (.p (.s (.int .i64 31)))), none⟩,
  ⟨some 34, .mv (.t 36), none⟩]
abbrev r43_4 : List CO := [
  ⟨some 37, .mv (.t 0), none⟩,
  ⟨some 38, .mv (.t 0), none⟩,
  ⟨some 39, .nilchk (.t 38), none⟩,
  ⟨some 40, .faddr 0 (.t 39), none⟩,
  ⟨some 41, .faddr 0 (.t 40), none⟩,
  ⟨some 42, .faddr 0 (.t 41), none⟩,
  ⟨some 43, .load false 1 (.t 42), none⟩,
  ⟨some 44, .build ([.s (.int .i64 0), .s (.int .i64 0), .s (.slice none 0 0)]) [(0, 1, .c (.p (.s (.int .i64 1)))), (2, 1, .t 43)], none⟩,
  ⟨some 45, .call (.c (.fn (.func 47) [] [])) [.t 37, .t 44], none⟩]
abbrev r43_5 : List CO := [
  ⟨some 47, .mv (.t 1), none⟩,
  ⟨some 48, .bin .leq (.t 47) (.c (.p (.s (.int .i64 9)))), none⟩,
  ⟨some 46, .mv (.t 48), none⟩]
abbrev r43_6 : List CO := [
  ⟨some 49, .mv (.t 0), none⟩,
  ⟨some 50, .mv (.t 1), none⟩,
  ⟨some 51, .call (.c (.fn (.func 48) [] [])) [.t 49, .t 50], none⟩]
abbrev r43_7 : List CO := [
  ⟨some 53, .mv (.t 1), none⟩,
  ⟨some 54, .bin .eql (.t 53) (.c (.p (.s (.int .i64 14)))), none⟩,
  ⟨some 52, .mv (.t 54), none⟩]
abbrev r43_8 : List CO := [
  ⟨some 55, .mv (.t 0), none⟩,
  ⟨some 56, .nilchk (.t 55), none⟩,
  ⟨some 57, .faddr 0 (.t 56), none⟩,
  ⟨some 58, .faddr 3 (.t 57), none⟩,
  ⟨none, .store 1 (.t 58) (.c (.p (.s (.bool true)))), none⟩]
abbrev r43_9 : List CO := [
  ⟨some 60, .mv (.t 1), none⟩,
  ⟨some 61, .bin .eql (.t 60) (.c (.p (.s (.int .i64 25)))), none⟩,
  ⟨some 62, .mv (.t 61), none⟩,
  ⟨some 63, .mv (.t 1), some (62, false)⟩,
  ⟨some 64, .bin .eql (.t 63) (.c (.p (.s (.int .i64 26)))), some (62, false)⟩,
  ⟨some 65, .pick (.t 62) (.c (.p (.s (.bool true)))) (.t 64), none⟩,
  ⟨some 59, .mv (.t 65), none⟩]
abbrev r43_10 : List CO := [
  ⟨some 66, .mv (.t 0), none⟩,
  ⟨some 67, .mv (.t 1), none⟩,
  ⟨some 68, .bin .eql (.t 67) (.c (.p (.s (.int .i64 26)))), none⟩,
  ⟨some 69, .nilchk (.t 66), none⟩,
  ⟨some 70, .faddr 0 (.t 69), none⟩,
  ⟨some 71, .faddr 2 (.t 70), none⟩,
  ⟨none, .store 1 (.t 71) (.t 68), none⟩]
abbrev r43_0 : List CO := [
  ⟨some 7, .mv (.t 0), none⟩,
  ⟨some 8, .mv (.t 0), none⟩,
  ⟨some 9, .nilchk (.t 8), none⟩,
  ⟨some 10, .faddr 0 (.t 9), none⟩,
  ⟨some 11, .faddr 0 (.t 10), none⟩,
  ⟨some 12, .load true 2 (.t 11), none⟩,
  ⟨some 13, .mv (.t 1), none⟩,
  ⟨some 14, .call (.c (.fn (.func 49) [] [])) [.t 12, .t 13], none⟩,
  ⟨some 6, .mv (.t 14), none⟩,
  ⟨some 15, .extract 0 (.t 6), none⟩,
  ⟨some 16, .extract 1 (.t 6), none⟩,
  ⟨some 17, .nilchk (.t 7), none⟩,
  ⟨some 18, .faddr 0 (.t 17), none⟩,
  ⟨some 19, .faddr 0 (.t 18), none⟩,
  ⟨none, .store 2 (.t 19) (.t 15), none⟩]
abbrev k43_0 : CC := .seq (.reg r43_1) (.rest [0, 1, 2, 20] (.cond (.t 20) (.reg r43_2) (.seq (.reg r43_3) (.cond (.t 34) (.reg r43_4) (.seq (.reg r43_5) (.cond (.t 46) (.reg r43_6) (.seq (.reg r43_7) (.cond (.t 52) (.reg r43_8) (.seq (.reg r43_9) (.rest [0, 1, 59] (.cond (.t 59) (.reg r43_10) (.reg r43_0))))))))))))
abbrev c43 : CC := .block 0 k43_0
theorem F43 : Fun Tryd.prog 43 72 c43 [] 3 := ⟨⟨Tryd.f43, _, Tryd.func43, rfl, by kernel_rfl, Tryd.ntmps43, by kernel_rfl, by kernel_rfl⟩, by decide⟩

/-- math/bits.Mul -/
abbrev r44_0 : List CO := [
  ⟨some 4, .mv (.c (.p (.s (.int .u64 0)))), none⟩,
  ⟨some 5, .mv (.c (.p (.s (.int .u64 0)))), none⟩]
abbrev r44_1 : List CO := [
  ⟨some 11, .mv (.t 0), none⟩,
  ⟨some 12, .toInt .u32 (.t 11), none⟩,
  ⟨some 13, .mv (.t 1), none⟩,
  ⟨some 14, .toInt .u32 (.t 13), none⟩,
  ⟨some 15, .call (.c (.fn (.func 50) [] [])) [.t 12, .t 14], none⟩,
  ⟨some 10, .mv (.t 15), none⟩,
  ⟨some 16, .extract 0 (.t 10), none⟩,
  ⟨some 17, .extract 1 (.t 10), none⟩,
  ⟨some 6, .mv (.t 16), none⟩,
  ⟨some 7, .mv (.t 17), none⟩]
abbrev r44_2 : List CO := [
  ⟨some 18, .mv (.t 6), none⟩,
  ⟨some 19, .toInt .u64 (.t 18), none⟩,
  ⟨some 20, .mv (.t 7), none⟩,
  ⟨some 21, .toInt .u64 (.t 20), none⟩,
  ⟨some 4, .mv (.t 19), none⟩,
  ⟨some 5, .mv (.t 21), none⟩]
abbrev r44_3 : List CO := [
  ⟨some 23, .mv (.t 0), none⟩,
  ⟨some 24, .mv (.t 1), none⟩,
  ⟨some 25, .call (.c (.fn (.func 51) [] [])) [.t 23, .t 24], none⟩,
  ⟨some 22, .mv (.t 25), none⟩,
  ⟨some 26, .extract 0 (.t 22), none⟩,
  ⟨some 27, .extract 1 (.t 22), none⟩,
  ⟨some 8, .mv (.t 26), none⟩,
  ⟨some 9, .mv (.t 27), none⟩]
abbrev r44_4 : List CO := [
  ⟨some 28, .mv (.t 8), none⟩,
  ⟨some 29, .mv (.t 9), none⟩,
  ⟨some 4, .mv (.t 28), none⟩,
  ⟨some 5, .mv (.t 29), none⟩]
abbrev c44 : CC := .seq (.reg r44_0) (.seq (.cond (.c (.p (.s (.bool false)))) (.seq (.reg r44_1) (.rest [6, 7] (.seq (.reg r44_2) (.rest [4, 5] (.ret))))) (.skip)) (.rest [0, 1] (.seq (.reg r44_3) (.rest [8, 9] (.seq (.reg r44_4) (.rest [4, 5] (.ret)))))))
theorem F44 : Fun Tryd.prog 44 30 c44 [.tmp 4, .tmp 5] 2 := ⟨⟨Tryd.f44, _, Tryd.func44, rfl, by kernel_rfl, Tryd.ntmps44, by kernel_rfl, by kernel_rfl⟩, by decide⟩

/-- linnet/line.Type -/
abbrev r46_0 : List CO := [
  ⟨some 4, .box (.t 0), none⟩,
  ⟨some 8, .alloc ([.s (.slice none 0 0), .s (.int .i64 0)]), none⟩,
  ⟨some 9, .mv (.c (.p (.s (.bool false)))), none⟩]
abbrev r46_1 : List CO := [
  ⟨some 12, .load true 2 (.t 4), none⟩,
  ⟨some 13, .call (.c (.fn (.func 31) [] [])) [.t 12], none⟩,
  ⟨some 14, .bin .neq (.t 13) (.c (.p (.s (.int .i64 0)))), none⟩]
abbrev r46_2 : List CO := [
  ⟨some 15, .load true 2 (.t 4), none⟩,
  ⟨none, .store 2 (.t 8) (.t 15), none⟩,
  ⟨some 9, .mv (.c (.p (.s (.bool false)))), none⟩]
abbrev r46_3 : List CO := [
  ⟨some 10, .mv (.c (.p (.s (.int .i64 0)))), none⟩]
abbrev r46_4 : List CO := [
  ⟨some 16, .mv (.t 2), none⟩,
  ⟨some 17, .mv (.t 16), none⟩,
  ⟨some 18, .faddr 1 (.t 4), some (17, true)⟩,
  ⟨some 19, .load false 1 (.t 18), some (17, true)⟩,
  ⟨some 20, .faddr 0 (.t 4), some (17, true)⟩,
  ⟨some 21, .load false 1 (.t 20), some (17, true)⟩,
  ⟨some 22, .len (.t 21), some (17, true)⟩,
  ⟨some 23, .bin .lss (.t 19) (.t 22), some (17, true)⟩,
  ⟨some 24, .pick (.t 17) (.t 23) (.c (.p (.s (.bool false)))), none⟩]
abbrev r46_5 : List CO := [
  ⟨some 10, .mv (.c (.p (.s (.int .i64 1)))), none⟩]
abbrev r46_6 : List CO := [
  ⟨some 25, .faddr 0 (.t 4), none⟩,
  ⟨some 26, .load false 1 (.t 25), none⟩,
  ⟨some 27, .len (.t 26), none⟩,
  ⟨some 28, .mv (.t 1), none⟩,
  ⟨some 29, .minmax false (.t 28) (.c (.p (.s (.int .i64 4096)))), none⟩,
  ⟨some 30, .bin .geq (.t 27) (.t 29), none⟩]
abbrev r46_7 : List CO := [
  ⟨some 31, .load true 2 (.t 4), none⟩,
  ⟨none, .store 2 (.t 8) (.t 31), none⟩,
  ⟨some 9, .mv (.c (.p (.s (.bool false)))), none⟩]
abbrev r46_8 : List CO := [
  ⟨some 32, .faddr 0 (.t 4), none⟩,
  ⟨some 33, .load false 1 (.t 32), none⟩,
  ⟨some 34, .faddr 1 (.t 4), none⟩,
  ⟨some 35, .load false 1 (.t 34), none⟩,
  ⟨some 36, .slice 1 (.t 33) none (some (.t 35)), none⟩,
  ⟨some 37, .call (.c (.fn (.func 52) [] [])) [.t 36], none⟩,
  ⟨some 38, .mv (.t 3), none⟩,
  ⟨some 39, .bslice 1 1 ([.s (.int .u8 0)]) [(0, .t 38)], none⟩,
  ⟨some 40, .append 1 1 ([.s (.int .u8 0)]) (.t 37) (.t 39), none⟩,
  ⟨some 11, .mv (.t 40), none⟩]
abbrev r46_9 : List CO := [
  ⟨some 41, .mv (.t 11), none⟩,
  ⟨some 42, .faddr 0 (.t 4), none⟩,
  ⟨some 43, .load false 1 (.t 42), none⟩,
  ⟨some 44, .faddr 1 (.t 4), none⟩,
  ⟨some 45, .load false 1 (.t 44), none⟩,
  ⟨some 46, .mv (.t 10), none⟩,
  ⟨some 47, .bin .add (.t 45) (.t 46), none⟩,
  ⟨some 48, .slice 1 (.t 43) (some (.t 47)) none, none⟩,
  ⟨some 49, .append 1 1 ([.s (.int .u8 0)]) (.t 41) (.t 48), none⟩,
  ⟨some 50, .faddr 1 (.t 4), none⟩,
  ⟨some 51, .load false 1 (.t 50), none⟩,
  ⟨some 52, .bin .add (.t 51) (.c (.p (.s (.int .i64 1)))), none⟩,
  ⟨some 53, .build ([.s (.slice none 0 0), .s (.int .i64 0)]) [(0, 1, .t 49), (1, 1, .t 52)], none⟩,
  ⟨none, .store 2 (.t 8) (.t 53), none⟩,
  ⟨some 9, .mv (.c (.p (.s (.bool true)))), none⟩]
abbrev b46_9 : List (List Nat) := [[], [], [1], [], [3], [], [4, 5], [2, 6], [0, 7], [], [9], [10], [8, 11], [12, 8, 0, 1, 2, 3, 4, 5, 6, 7, 8, 9, 10, 11, 12], [13, 0, 1, 2, 3, 4, 5, 6, 7, 8, 9, 10, 11, 12, 13]]
abbrev c46 : CC := .seq (.reg r46_0) (.seq (.seq (.reg r46_1) (.cond (.t 14) (.seq (.reg r46_2) (.ret)) (.skip))) (.rest [1, 2, 3, 4, 8] (.seq (.reg r46_3) (.seq (.seq (.reg r46_4) (.rest [1, 3, 4, 8, 10, 24] (.cond (.t 24) (.reg r46_5) (.seq (.reg r46_6) (.rest [3, 4, 8, 10, 30] (.cond (.t 30) (.seq (.reg r46_7) (.ret)) (.skip))))))) (.rest [3, 4, 8, 10] (.seq (.reg r46_8) (.rest [4, 8, 10, 11] (.seq (.regd r46_9 b46_9) (.rest [8, 9] (.ret))))))))))
theorem F46 : Fun Tryd.prog 46 54 c46 [.cell 8 true 2, .tmp 9] 4 := ⟨⟨Tryd.f46, _, Tryd.func46, rfl, by kernel_rfl, Tryd.ntmps46, by kernel_rfl, by kernel_rfl⟩, by decide⟩

/-- (*linnet/editor.work).tell -/
abbrev r47_0 : List CO := [
  ⟨some 3, .box (.t 1), none⟩]
abbrev r47_1 : List CO := [
  ⟨some 4, .mv (.t 0), none⟩,
  ⟨some 5, .mv (.t 0), none⟩,
  ⟨some 6, .nilchk (.t 5), none⟩,
  ⟨some 7, .faddr 5 (.t 6), none⟩,
  ⟨some 8, .load false 1 (.t 7), none⟩,
  ⟨some 9, .load true 3 (.t 3), none⟩,
  ⟨some 10, .bslice 3 1 ([.s (.int .i64 0), .s (.int .i64 0), .s (.slice none 0 0)]) [(0, .t 9)], none⟩,
  ⟨some 11, .append 3 40 ([.s (.int .i64 0), .s (.int .i64 0), .s (.slice none 0 0)]) (.t 8) (.t 10), none⟩,
  ⟨some 12, .nilchk (.t 4), none⟩,
  ⟨some 13, .faddr 5 (.t 12), none⟩,
  ⟨none, .store 1 (.t 13) (.t 11), none⟩]
abbrev b47_1 : List (List Nat) := [[], [], [1], [2], [3], [], [5], [4, 6], [0, 0, 1, 2, 3, 4, 5, 6, 7], [8, 0, 1, 2, 3, 4, 5, 6, 7], [9, 7, 7, 0, 1, 2, 3, 4, 5, 6, 7]]
abbrev r47_2 : List CO := [
  ⟨some 14, .mv (.t 0), none⟩,
  ⟨some 15, .build ([.s (.slice none 0 0), .s (.int .i64 0), .s (.bool false), .s (.bool false)]) [], none⟩,
  ⟨some 16, .nilchk (.t 14), none⟩,
  ⟨some 17, .faddr 0 (.t 16), none⟩,
  ⟨none, .store 4 (.t 17) (.t 15), none⟩]
abbrev c47 : CC := .seq (.reg r47_0) (.seq (.regd r47_1 b47_1) (.rest [0] (.reg r47_2)))
theorem F47 : Fun Tryd.prog 47 18 c47 [] 2 := ⟨⟨Tryd.f47, _, Tryd.func47, rfl, by kernel_rfl, Tryd.ntmps47, by kernel_rfl, by kernel_rfl⟩, by decide⟩

/-- (*linnet/editor.work).signal -/
abbrev r48_0 : List CO := [
  ⟨some 6, .mv (.t 0), none⟩,
  ⟨some 7, .mkfn (.func 47) [.t 6] [], none⟩,
  ⟨some 4, .mv (.t 7), none⟩]
abbrev r48_1 : List CO := [
  ⟨some 8, .mv (.t 1), none⟩,
  ⟨some 9, .build ([.s (.int .i64 0), .s (.int .i64 0), .s (.slice none 0 0)]) [(0, 1, .c (.p (.s (.int .i64 3)))), (1, 1, .t 8)], none⟩,
  ⟨some 5, .alloc ([.s (.int .i64 0), .s (.int .i64 0), .s (.slice none 0 0)]), none⟩,
  ⟨none, .store 3 (.t 5) (.t 9), none⟩]
abbrev r48_2 : List CO := [
  ⟨some 10, .mv (.t 1), none⟩]
abbrev r48_3 : List CO := [
  ⟨some 12, .bin .eql (.t 10) (.c (.p (.s (.int .i64 4)))), none⟩,
  ⟨some 11, .mv (.t 12), none⟩]
abbrev r48_4 : List CO := [
  ⟨some 13, .bin .eql (.t 10) (.c (.p (.s (.int .i64 5)))), none⟩,
  ⟨some 11, .mv (.t 13), none⟩]
abbrev r48_5 : List CO := [
  ⟨some 14, .bin .eql (.t 10) (.c (.p (.s (.int .i64 6)))), none⟩,
  ⟨some 11, .mv (.t 14), none⟩]
abbrev r48_6 : List CO := [
  ⟨some 15, .mv (.t 0), none⟩,
  ⟨some 16, .mkfn (.func 53) [.t 15] [], none⟩,
  ⟨some 4, .mv (.t 16), none⟩]
abbrev r48_7 : List CO := [
  ⟨some 18, .bin .eql (.t 10) (.c (.p (.s (.int .i64 8)))), none⟩,
  ⟨some 17, .mv (.t 18), none⟩]
abbrev r48_8 : List CO := [
  ⟨some 19, .mv (.t 0), none⟩,
  ⟨some 20, .nilchk (.t 19), none⟩,
  ⟨some 21, .faddr 0 (.t 20), none⟩,
  ⟨some 22, .faddr 0 (.t 21), none⟩,
  ⟨some 23, .faddr 0 (.t 22), none⟩,
  ⟨some 24, .load false 1 (.t 23), none⟩,
  ⟨some 25, .len (.t 24), none⟩,
  ⟨some 26, .bin .gtr (.t 25) (.c (.p (.s (.int .i64 0)))), none⟩]
abbrev r48_9 : List CO := [
  ⟨some 27, .mv (.t 0), none⟩,
  ⟨some 28, .nilchk (.t 27), none⟩,
  ⟨some 29, .faddr 0 (.t 28), none⟩,
  ⟨some 30, .faddr 0 (.t 29), none⟩,
  ⟨some 31, .faddr 0 (.t 30), none⟩,
  ⟨some 32, .load false 1 (.t 31), none⟩,
  ⟨some 33, .build ([.s (.int .i64 0), .s (.int .i64 0), .s (.slice none 0 0)]) [(0, 1, .c (.p (.s (.int .i64 2)))), (2, 1, .t 32)], none⟩,
  ⟨none, .store 3 (.t 5) (.t 33), none⟩]
abbrev k48_0 : CC := .seq (.seq (.reg r48_3) (.cond (.t 11) (.skip) (.seq (.reg r48_4) (.cond (.t 11) (.skip) (.reg r48_5))))) (.rest [0, 4, 5, 10, 11] (.cond (.t 11) (.reg r48_6) (.seq (.reg r48_7) (.cond (.t 17) (.seq (.reg r48_8) (.rest [0, 4, 5, 26] (.cond (.t 26) (.reg r48_9) (.skip)))) (.skip)))))
abbrev r48_10 : List CO := [
  ⟨some 34, .mv (.t 4), none⟩,
  ⟨some 35, .load true 3 (.t 5), none⟩,
  ⟨some 36, .call (.t 34) [.t 35], none⟩]
abbrev c48 : CC := .seq (.reg r48_0) (.seq (.reg r48_1) (.rest [0, 1, 4, 5] (.seq (.seq (.reg r48_2) (.block 0 k48_0)) (.rest [4, 5] (.reg r48_10)))))
theorem F48 : Fun Tryd.prog 48 37 c48 [] 2 := ⟨⟨Tryd.f48, _, Tryd.func48, rfl, by kernel_rfl, Tryd.ntmps48, by kernel_rfl, by kernel_rfl⟩, by decide⟩

/-- linnet/line.Do -/
abbrev r49_0 : List CO := [
  ⟨some 2, .box (.t 0), none⟩,
  ⟨some 4, .alloc ([.s (.slice none 0 0), .s (.int .i64 0)]), none⟩,
  ⟨some 5, .mv (.c (.p (.s (.bool false)))), none⟩]
abbrev r49_1 : List CO := [
  ⟨some 7, .call (.c (.fn (.func 54) [] [])) [], none⟩,
  ⟨some 8, .mv (.t 1), none⟩,
  ⟨some 9, .ext (.look (.nilFunc)) [.t 7, .t 8], none⟩,
  ⟨some 6, .mv (.t 9), none⟩]
abbrev r49_2 : List CO := [
  ⟨some 10, .load true 2 (.t 2), none⟩,
  ⟨some 11, .call (.c (.fn (.func 31) [] [])) [.t 10], none⟩,
  ⟨some 12, .bin .neq (.t 11) (.c (.p (.s (.int .i64 0)))), none⟩,
  ⟨some 13, .mv (.t 12), none⟩,
  ⟨some 14, .mv (.t 6), some (13, false)⟩,
  ⟨some 15, .ext (.fnil false) [.t 14], some (13, false)⟩,
  ⟨some 16, .pick (.t 13) (.c (.p (.s (.bool true)))) (.t 15), none⟩]
abbrev r49_3 : List CO := [
  ⟨some 17, .load true 2 (.t 2), none⟩,
  ⟨none, .store 2 (.t 4) (.t 17), none⟩,
  ⟨some 5, .mv (.c (.p (.s (.bool false)))), none⟩]
abbrev r49_4 : List CO := [
  ⟨some 18, .faddr 0 (.t 2), none⟩,
  ⟨some 19, .load false 1 (.t 18), none⟩,
  ⟨some 20, .call (.c (.fn (.func 52) [] [])) [.t 19], none⟩,
  ⟨some 21, .faddr 0 (.t 2), none⟩,
  ⟨none, .store 1 (.t 21) (.t 20), none⟩]
abbrev r49_5 : List CO := [
  ⟨some 22, .mv (.t 6), none⟩,
  ⟨some 23, .load true 2 (.t 2), none⟩,
  ⟨some 24, .call (.t 22) [.t 23], none⟩,
  ⟨none, .store 2 (.t 4) (.t 24), none⟩,
  ⟨some 5, .mv (.c (.p (.s (.bool true)))), none⟩]
abbrev c49 : CC := .seq (.reg r49_0) (.seq (.reg r49_1) (.rest [2, 4, 6] (.seq (.seq (.reg r49_2) (.rest [2, 4, 6, 16] (.cond (.t 16) (.seq (.reg r49_3) (.ret)) (.skip)))) (.rest [2, 4, 6] (.seq (.reg r49_4) (.rest [2, 4, 6] (.seq (.reg r49_5) (.rest [4, 5] (.ret)))))))))
theorem F49 : Fun Tryd.prog 49 25 c49 [.cell 4 true 2, .tmp 5] 2 := ⟨⟨Tryd.f49, _, Tryd.func49, rfl, by kernel_rfl, Tryd.ntmps49, by kernel_rfl, by kernel_rfl⟩, by decide⟩

/-- math/bits.Mul32 -/
abbrev r50_0 : List CO := [
  ⟨some 4, .mv (.c (.p (.s (.int .u32 0)))), none⟩,
  ⟨some 5, .mv (.c (.p (.s (.int .u32 0)))), none⟩]
abbrev r50_1 : List CO := [
  ⟨some 7, .mv (.t 0), none⟩,
  ⟨some 8, .toInt .u64 (.t 7), none⟩,
  ⟨some 9, .mv (.t 1), none⟩,
  ⟨some 10, .toInt .u64 (.t 9), none⟩,
  ⟨some 11, .bin .mul (.t 8) (.t 10), none⟩,
  ⟨some 6, .mv (.t 11), none⟩]
abbrev r50_2 : List CO := [
  ⟨some 12, .mv (.t 6), none⟩,
  ⟨some 13, .bin .shr (.t 12) (.c (.p (.s (.int .u64 32)))), none⟩,
  ⟨some 14, .toInt .u32 (.t 13), none⟩,
  ⟨some 15, .mv (.t 6), none⟩,
  ⟨some 16, .toInt .u32 (.t 15), none⟩,
  ⟨some 4, .mv (.t 14), none⟩,
  ⟨some 5, .mv (.t 16), none⟩]
abbrev c50 : CC := .seq (.reg r50_0) (.seq (.reg r50_1) (.rest [6] (.seq (.reg r50_2) (.rest [4, 5] (.ret)))))
theorem F50 : Fun Tryd.prog 50 17 c50 [.tmp 4, .tmp 5] 2 := ⟨⟨Tryd.f50, _, Tryd.func50, rfl, by kernel_rfl, Tryd.ntmps50, by kernel_rfl, by kernel_rfl⟩, by decide⟩

/-- math/bits.Mul64 -/
abbrev r51_0 : List CO := [
  ⟨some 4, .mv (.c (.p (.s (.int .u64 0)))), none⟩,
  ⟨some 5, .mv (.c (.p (.s (.int .u64 0)))), none⟩]
abbrev r51_1 : List CO := [
  ⟨some 14, .mv (.t 0), none⟩,
  ⟨some 15, .bin .and (.t 14) (.c (.p (.s (.int .u64 4294967295)))), none⟩,
  ⟨some 6, .mv (.t 15), none⟩]
abbrev r51_2 : List CO := [
  ⟨some 16, .mv (.t 0), none⟩,
  ⟨some 17, .bin .shr (.t 16) (.c (.p (.s (.int .u64 32)))), none⟩,
  ⟨some 7, .mv (.t 17), none⟩]
abbrev r51_3 : List CO := [
  ⟨some 18, .mv (.t 1), none⟩,
  ⟨some 19, .bin .and (.t 18) (.c (.p (.s (.int .u64 4294967295)))), none⟩,
  ⟨some 8, .mv (.t 19), none⟩]
abbrev r51_4 : List CO := [
  ⟨some 20, .mv (.t 1), none⟩,
  ⟨some 21, .bin .shr (.t 20) (.c (.p (.s (.int .u64 32)))), none⟩,
  ⟨some 9, .mv (.t 21), none⟩]
abbrev r51_5 : List CO := [
  ⟨some 22, .mv (.t 6), none⟩,
  ⟨some 23, .mv (.t 8), none⟩,
  ⟨some 24, .bin .mul (.t 22) (.t 23), none⟩,
  ⟨some 10, .mv (.t 24), none⟩]
abbrev r51_6 : List CO := [
  ⟨some 25, .mv (.t 7), none⟩,
  ⟨some 26, .mv (.t 8), none⟩,
  ⟨some 27, .bin .mul (.t 25) (.t 26), none⟩,
  ⟨some 28, .mv (.t 10), none⟩,
  ⟨some 29, .bin .shr (.t 28) (.c (.p (.s (.int .u64 32)))), none⟩,
  ⟨some 30, .bin .add (.t 27) (.t 29), none⟩,
  ⟨some 11, .mv (.t 30), none⟩]
abbrev r51_7 : List CO := [
  ⟨some 31, .mv (.t 11), none⟩,
  ⟨some 32, .bin .and (.t 31) (.c (.p (.s (.int .u64 4294967295)))), none⟩,
  ⟨some 12, .mv (.t 32), none⟩]
abbrev r51_8 : List CO := [
  ⟨some 33, .mv (.t 11), none⟩,
  ⟨some 34, .bin .shr (.t 33) (.c (.p (.s (.int .u64 32)))), none⟩,
  ⟨some 13, .mv (.t 34), none⟩]
abbrev r51_9 : List CO := [
  ⟨some 35, .mv (.t 12), none⟩,
  ⟨some 36, .mv (.t 6), none⟩,
  ⟨some 37, .mv (.t 9), none⟩,
  ⟨some 38, .bin .mul (.t 36) (.t 37), none⟩,
  ⟨some 39, .bin .add (.t 35) (.t 38), none⟩,
  ⟨some 12, .mv (.t 39), none⟩]
abbrev r51_10 : List CO := [
  ⟨some 40, .mv (.t 7), none⟩,
  ⟨some 41, .mv (.t 9), none⟩,
  ⟨some 42, .bin .mul (.t 40) (.t 41), none⟩,
  ⟨some 43, .mv (.t 13), none⟩,
  ⟨some 44, .bin .add (.t 42) (.t 43), none⟩,
  ⟨some 45, .mv (.t 12), none⟩,
  ⟨some 46, .bin .shr (.t 45) (.c (.p (.s (.int .u64 32)))), none⟩,
  ⟨some 47, .bin .add (.t 44) (.t 46), none⟩,
  ⟨some 4, .mv (.t 47), none⟩]
abbrev r51_11 : List CO := [
  ⟨some 48, .mv (.t 0), none⟩,
  ⟨some 49, .mv (.t 1), none⟩,
  ⟨some 50, .bin .mul (.t 48) (.t 49), none⟩,
  ⟨some 5, .mv (.t 50), none⟩]
abbrev c51 : CC := .seq (.reg r51_0) (.seq (.reg r51_1) (.seq (.reg r51_2) (.seq (.reg r51_3) (.seq (.reg r51_4) (.seq (.reg r51_5) (.rest [0, 1, 6, 7, 8, 9, 10] (.seq (.reg r51_6) (.rest [0, 1, 6, 7, 9, 11] (.seq (.reg r51_7) (.seq (.reg r51_8) (.seq (.reg r51_9) (.rest [0, 1, 7, 9, 12, 13] (.seq (.reg r51_10) (.rest [0, 1, 4] (.seq (.reg r51_11) (.rest [4, 5] (.ret)))))))))))))))))
theorem F51 : Fun Tryd.prog 51 51 c51 [.tmp 4, .tmp 5] 2 := ⟨⟨Tryd.f51, _, Tryd.func51, rfl, by kernel_rfl, Tryd.ntmps51, by kernel_rfl, by kernel_rfl⟩, by decide⟩

/-- bytes.Clone -/
abbrev r52_0 : List CO := [
  ⟨some 2, .mv (.c (.p (.s (.slice none 0 0)))), none⟩]
abbrev r52_1 : List CO := [
  ⟨some 3, .mv (.t 0), none⟩,
  ⟨some 4, .isnil false (.t 3), none⟩]
abbrev r52_2 : List CO := [
  ⟨some 2, .mv (.c (.p (.s (.slice none 0 0)))), none⟩]
abbrev r52_3 : List CO := [
  ⟨some 5, .bslice 1 0 ([.s (.int .u8 0)]) [], none⟩,
  ⟨some 6, .mv (.t 0), none⟩,
  ⟨some 7, .append 1 1 ([.s (.int .u8 0)]) (.t 5) (.t 6), none⟩,
  ⟨some 2, .mv (.t 7), none⟩]
abbrev c52 : CC := .seq (.reg r52_0) (.seq (.seq (.reg r52_1) (.cond (.t 4) (.seq (.reg r52_2) (.ret)) (.skip))) (.seq (.reg r52_3) (.rest [2] (.ret))))
theorem F52 : Fun Tryd.prog 52 8 c52 [.tmp 2] 1 := ⟨⟨Tryd.f52, _, Tryd.func52, rfl, by kernel_rfl, Tryd.ntmps52, by kernel_rfl, by kernel_rfl⟩, by decide⟩

/-- (*linnet/editor.work).keep -/
abbrev r53_0 : List CO := [
  ⟨some 3, .box (.t 1), none⟩]
abbrev r53_1 : List CO := [
  ⟨some 4, .mv (.t 0), none⟩,
  ⟨some 5, .mv (.t 0), none⟩,
  ⟨some 6, .nilchk (.t 5), none⟩,
  ⟨some 7, .faddr 5 (.t 6), none⟩,
  ⟨some 8, .load false 1 (.t 7), none⟩,
  ⟨some 9, .load true 3 (.t 3), none⟩,
  ⟨some 10, .bslice 3 1 ([.s (.int .i64 0), .s (.int .i64 0), .s (.slice none 0 0)]) [(0, .t 9)], none⟩,
  ⟨some 11, .append 3 40 ([.s (.int .i64 0), .s (.int .i64 0), .s (.slice none 0 0)]) (.t 8) (.t 10), none⟩,
  ⟨some 12, .nilchk (.t 4), none⟩,
  ⟨some 13, .faddr 5 (.t 12), none⟩,
  ⟨none, .store 1 (.t 13) (.t 11), none⟩]
abbrev b53_1 : List (List Nat) := [[], [], [1], [2], [3], [], [5], [4, 6], [0, 0, 1, 2, 3, 4, 5, 6, 7], [8, 0, 1, 2, 3, 4, 5, 6, 7], [9, 7, 7, 0, 1, 2, 3, 4, 5, 6, 7]]
abbrev r53_2 : List CO := [
  ⟨some 14, .mv (.t 0), none⟩,
  ⟨some 15, .nilchk (.t 14), none⟩,
  ⟨some 16, .faddr 0 (.t 15), none⟩,
  ⟨some 17, .faddr 3 (.t 16), none⟩,
  ⟨none, .store 1 (.t 17) (.c (.p (.s (.bool false)))), none⟩]
abbrev c53 : CC := .seq (.reg r53_0) (.seq (.regd r53_1 b53_1) (.rest [0] (.reg r53_2)))
theorem F53 : Fun Tryd.prog 53 18 c53 [] 2 := ⟨⟨Tryd.f53, _, Tryd.func53, rfl, by kernel_rfl, Tryd.ntmps53, by kernel_rfl, by kernel_rfl⟩, by decide⟩

/-- linnet/line.does$1 -/
abbrev r55_0 : List CO := [
  ⟨some 1, .box (.t 0), none⟩,
  ⟨some 2, .alloc ([.s (.slice none 0 0), .s (.int .i64 0)]), none⟩]
abbrev r55_1 : List CO := [
  ⟨some 3, .load true 2 (.t 1), none⟩,
  ⟨some 4, .faddr 1 (.t 1), none⟩,
  ⟨some 5, .load false 1 (.t 4), none⟩,
  ⟨some 6, .bin .sub (.t 5) (.c (.p (.s (.int .i64 1)))), none⟩,
  ⟨some 7, .minmax true (.t 6) (.c (.p (.s (.int .i64 0)))), none⟩,
  ⟨some 8, .faddr 1 (.t 1), none⟩,
  ⟨some 9, .load false 1 (.t 8), none⟩,
  ⟨some 10, .call (.c (.fn (.func 56) [] [])) [.t 3, .t 7, .t 9], none⟩,
  ⟨none, .store 2 (.t 2) (.t 10), none⟩]
abbrev c55 : CC := .seq (.reg r55_0) (.seq (.reg r55_1) (.rest [2] (.ret)))
theorem F55 : Fun Tryd.prog 55 11 c55 [.cell 2 true 2] 1 := ⟨⟨Tryd.f55, _, Tryd.func55, rfl, by kernel_rfl, Tryd.ntmps55, by kernel_rfl, by kernel_rfl⟩, by decide⟩

/-- linnet/line.cut -/
abbrev r56_0 : List CO := [
  ⟨some 3, .box (.t 0), none⟩,
  ⟨some 6, .alloc ([.s (.slice none 0 0), .s (.int .i64 0)]), none⟩]
abbrev r56_1 : List CO := [
  ⟨some 7, .faddr 0 (.t 3), none⟩,
  ⟨some 8, .load false 1 (.t 7), none⟩,
  ⟨some 9, .mv (.t 1), none⟩,
  ⟨some 10, .slice 1 (.t 8) none (some (.t 9)), none⟩,
  ⟨some 11, .call (.c (.fn (.func 52) [] [])) [.t 10], none⟩,
  ⟨some 12, .faddr 0 (.t 3), none⟩,
  ⟨some 13, .load false 1 (.t 12), none⟩,
  ⟨some 14, .mv (.t 2), none⟩,
  ⟨some 15, .slice 1 (.t 13) (some (.t 14)) none, none⟩,
  ⟨some 16, .append 1 1 ([.s (.int .u8 0)]) (.t 11) (.t 15), none⟩,
  ⟨some 17, .mv (.t 1), none⟩,
  ⟨some 18, .build ([.s (.slice none 0 0), .s (.int .i64 0)]) [(0, 1, .t 16), (1, 1, .t 17)], none⟩,
  ⟨none, .store 2 (.t 6) (.t 18), none⟩]
abbrev b56_1 : List (List Nat) := [[], [0], [], [1, 2], [3], [], [5], [], [6, 7], [4, 8, 4], [], [9, 10], [11, 9, 0, 1, 2, 3, 4, 5, 6, 7, 8, 9, 10, 11]]
abbrev c56 : CC := .seq (.reg r56_0) (.seq (.regd r56_1 b56_1) (.rest [6] (.ret)))
theorem F56 : Fun Tryd.prog 56 19 c56 [.cell 6 true 2] 3 := ⟨⟨Tryd.f56, _, Tryd.func56, rfl, by kernel_rfl, Tryd.ntmps56, by kernel_rfl, by kernel_rfl⟩, by decide⟩

/-- linnet/line.does$2 -/
abbrev r57_0 : List CO := [
  ⟨some 1, .box (.t 0), none⟩,
  ⟨some 2, .alloc ([.s (.slice none 0 0), .s (.int .i64 0)]), none⟩]
abbrev r57_1 : List CO := [
  ⟨some 3, .load true 2 (.t 1), none⟩,
  ⟨some 4, .faddr 1 (.t 1), none⟩,
  ⟨some 5, .load false 1 (.t 4), none⟩,
  ⟨some 6, .faddr 1 (.t 1), none⟩,
  ⟨some 7, .load false 1 (.t 6), none⟩,
  ⟨some 8, .bin .add (.t 7) (.c (.p (.s (.int .i64 1)))), none⟩,
  ⟨some 9, .faddr 0 (.t 1), none⟩,
  ⟨some 10, .load false 1 (.t 9), none⟩,
  ⟨some 11, .len (.t 10), none⟩,
  ⟨some 12, .minmax false (.t 8) (.t 11), none⟩,
  ⟨some 13, .call (.c (.fn (.func 56) [] [])) [.t 3, .t 5, .t 12], none⟩,
  ⟨none, .store 2 (.t 2) (.t 13), none⟩]
abbrev c57 : CC := .seq (.reg r57_0) (.seq (.reg r57_1) (.rest [2] (.ret)))
theorem F57 : Fun Tryd.prog 57 14 c57 [.cell 2 true 2] 1 := ⟨⟨Tryd.f57, _, Tryd.func57, rfl, by kernel_rfl, Tryd.ntmps57, by kernel_rfl, by kernel_rfl⟩, by decide⟩

/-- linnet/line.does$3 -/
abbrev r58_0 : List CO := [
  ⟨some 1, .box (.t 0), none⟩,
  ⟨some 2, .alloc ([.s (.slice none 0 0), .s (.int .i64 0)]), none⟩]
abbrev r58_1 : List CO := [
  ⟨some 3, .load true 2 (.t 1), none⟩,
  ⟨some 4, .load true 2 (.t 1), none⟩,
  ⟨some 5, .call (.c (.fn (.func 59) [] [])) [.t 4], none⟩,
  ⟨some 6, .faddr 1 (.t 1), none⟩,
  ⟨some 7, .load false 1 (.t 6), none⟩,
  ⟨some 8, .call (.c (.fn (.func 56) [] [])) [.t 3, .t 5, .t 7], none⟩,
  ⟨none, .store 2 (.t 2) (.t 8), none⟩]
abbrev b58_1 : List (List Nat) := [[], [], [1], [], [3], [0, 2, 4, 2], [5, 5, 0, 1, 2, 3, 4, 5]]
abbrev c58 : CC := .seq (.reg r58_0) (.seq (.regd r58_1 b58_1) (.rest [2] (.ret)))
theorem F58 : Fun Tryd.prog 58 9 c58 [.cell 2 true 2] 1 := ⟨⟨Tryd.f58, _, Tryd.func58, rfl, by kernel_rfl, Tryd.ntmps58, by kernel_rfl, by kernel_rfl⟩, by decide⟩

/-- linnet/line.Back -/
abbrev r59_0 : List CO := [
  ⟨some 1, .box (.t 0), none⟩,
  ⟨some 2, .mv (.c (.p (.s (.int .i64 0)))), none⟩]
abbrev r59_1 : List CO := [
  ⟨some 4, .load true 2 (.t 1), none⟩,
  ⟨some 5, .call (.c (.fn (.func 31) [] [])) [.t 4], none⟩,
  ⟨some 6, .bin .neq (.t 5) (.c (.p (.s (.int .i64 0)))), none⟩]
abbrev r59_2 : List CO := [
  ⟨some 2, .mv (.c (.p (.s (.int .i64 0)))), none⟩]
abbrev r59_3 : List CO := [
  ⟨some 7, .faddr 0 (.t 1), none⟩,
  ⟨some 8, .load false 1 (.t 7), none⟩,
  ⟨some 9, .faddr 1 (.t 1), none⟩,
  ⟨some 10, .load false 1 (.t 9), none⟩,
  ⟨some 11, .slice 1 (.t 8) none (some (.t 10)), none⟩,
  ⟨some 12, .call (.c (.fn (.func 72) [] [])) [.t 11, .c (.p (.s (.string { data := #[32, 9] })))], none⟩,
  ⟨some 13, .len (.t 12), none⟩,
  ⟨some 3, .mv (.t 13), none⟩]
abbrev r59_4 : List CO := [
  ⟨some 14, .mv (.t 3), none⟩,
  ⟨some 15, .bin .gtr (.t 14) (.c (.p (.s (.int .i64 0)))), none⟩,
  ⟨some 16, .mv (.t 15), none⟩,
  ⟨some 17, .faddr 0 (.t 1), some (16, true)⟩,
  ⟨some 18, .load false 1 (.t 17), some (16, true)⟩,
  ⟨some 19, .mv (.t 3), some (16, true)⟩,
  ⟨some 20, .bin .sub (.t 19) (.c (.p (.s (.int .i64 1)))), some (16, true)⟩,
  ⟨some 21, .iaddrS 1 (.t 18) (.t 20), some (16, true)⟩,
  ⟨some 22, .load false 1 (.t 21), some (16, true)⟩,
  ⟨some 23, .call (.c (.fn (.func 73) [] [])) [.t 22], some (16, true)⟩,
  ⟨some 24, .un .not (.t 23), some (16, true)⟩,
  ⟨some 25, .pick (.t 16) (.t 24) (.c (.p (.s (.bool false)))), none⟩]
abbrev r59_5 : List CO := [
  ⟨some 26, .mv (.t 3), none⟩,
  ⟨some 27, .bin .sub (.t 26) (.c (.p (.s (.int .i64 1)))), none⟩,
  ⟨some 3, .mv (.t 27), none⟩]
abbrev k59_1 : CC := .reg r59_5
abbrev l59_7 : CC := .seq (.seq (.reg r59_4) (.rest [1, 3, 25] (.cond (.t 25) (.skip) (.exit 0)))) (.rest [1, 3] (.block 1 k59_1))
abbrev k59_0 : CC := .loop l59_7
abbrev r59_6 : List CO := [
  ⟨some 28, .mv (.t 3), none⟩,
  ⟨some 2, .mv (.t 28), none⟩]
abbrev c59 : CC := .seq (.reg r59_0) (.seq (.seq (.reg r59_1) (.cond (.t 6) (.seq (.reg r59_2) (.ret)) (.skip))) (.rest [1] (.seq (.reg r59_3) (.rest [1, 3] (.seq (.block 0 k59_0) (.rest [3] (.seq (.reg r59_6) (.ret))))))))
theorem F59 : Fun Tryd.prog 59 29 c59 [.tmp 2] 1 := ⟨⟨Tryd.f59, _, Tryd.func59, rfl, by kernel_rfl, Tryd.ntmps59, by kernel_rfl, by kernel_rfl⟩, by decide⟩

/-- linnet/line.does$4 -/
abbrev r60_0 : List CO := [
  ⟨some 1, .box (.t 0), none⟩,
  ⟨some 2, .alloc ([.s (.slice none 0 0), .s (.int .i64 0)]), none⟩]
abbrev r60_1 : List CO := [
  ⟨some 3, .load true 2 (.t 1), none⟩,
  ⟨some 4, .faddr 1 (.t 1), none⟩,
  ⟨some 5, .load false 1 (.t 4), none⟩,
  ⟨some 6, .load true 2 (.t 1), none⟩,
  ⟨some 7, .call (.c (.fn (.func 61) [] [])) [.t 6], none⟩,
  ⟨some 8, .call (.c (.fn (.func 56) [] [])) [.t 3, .t 5, .t 7], none⟩,
  ⟨none, .store 2 (.t 2) (.t 8), none⟩]
abbrev b60_1 : List (List Nat) := [[], [], [1], [], [3], [0, 2, 4, 4], [5, 5, 0, 1, 2, 3, 4, 5]]
abbrev c60 : CC := .seq (.reg r60_0) (.seq (.regd r60_1 b60_1) (.rest [2] (.ret)))
theorem F60 : Fun Tryd.prog 60 9 c60 [.cell 2 true 2] 1 := ⟨⟨Tryd.f60, _, Tryd.func60, rfl, by kernel_rfl, Tryd.ntmps60, by kernel_rfl, by kernel_rfl⟩, by decide⟩

/-- linnet/line.On -/
abbrev r61_0 : List CO := [
  ⟨some 1, .box (.t 0), none⟩,
  ⟨some 2, .mv (.c (.p (.s (.int .i64 0)))), none⟩]
abbrev r61_1 : List CO := [
  ⟨some 4, .load true 2 (.t 1), none⟩,
  ⟨some 5, .call (.c (.fn (.func 31) [] [])) [.t 4], none⟩,
  ⟨some 6, .bin .neq (.t 5) (.c (.p (.s (.int .i64 0)))), none⟩]
abbrev r61_2 : List CO := [
  ⟨some 2, .mv (.c (.p (.s (.int .i64 0)))), none⟩]
abbrev r61_3 : List CO := [
  ⟨some 7, .faddr 1 (.t 1), none⟩,
  ⟨some 8, .load false 1 (.t 7), none⟩,
  ⟨some 3, .mv (.t 8), none⟩]
abbrev r61_4 : List CO := [
  ⟨some 9, .mv (.t 3), none⟩,
  ⟨some 10, .faddr 0 (.t 1), none⟩,
  ⟨some 11, .load false 1 (.t 10), none⟩,
  ⟨some 12, .len (.t 11), none⟩,
  ⟨some 13, .bin .lss (.t 9) (.t 12), none⟩,
  ⟨some 14, .mv (.t 13), none⟩,
  ⟨some 15, .faddr 0 (.t 1), some (14, true)⟩,
  ⟨some 16, .load false 1 (.t 15), some (14, true)⟩,
  ⟨some 17, .mv (.t 3), some (14, true)⟩,
  ⟨some 18, .iaddrS 1 (.t 16) (.t 17), some (14, true)⟩,
  ⟨some 19, .load false 1 (.t 18), some (14, true)⟩,
  ⟨some 20, .call (.c (.fn (.func 73) [] [])) [.t 19], some (14, true)⟩,
  ⟨some 21, .un .not (.t 20), some (14, true)⟩,
  ⟨some 22, .pick (.t 14) (.t 21) (.c (.p (.s (.bool false)))), none⟩]
abbrev r61_5 : List CO := [
  ⟨some 23, .mv (.t 3), none⟩,
  ⟨some 24, .bin .add (.t 23) (.c (.p (.s (.int .i64 1)))), none⟩,
  ⟨some 3, .mv (.t 24), none⟩]
abbrev k61_1 : CC := .reg r61_5
abbrev l61_7 : CC := .seq (.seq (.reg r61_4) (.rest [1, 3, 22] (.cond (.t 22) (.skip) (.exit 0)))) (.rest [1, 3] (.block 1 k61_1))
abbrev k61_0 : CC := .loop l61_7
abbrev r61_6 : List CO := [
  ⟨some 25, .mv (.t 3), none⟩,
  ⟨some 26, .faddr 0 (.t 1), none⟩,
  ⟨some 27, .load false 1 (.t 26), none⟩,
  ⟨some 28, .len (.t 27), none⟩,
  ⟨some 29, .bin .lss (.t 25) (.t 28), none⟩,
  ⟨some 30, .mv (.t 29), none⟩,
  ⟨some 31, .faddr 0 (.t 1), some (30, true)⟩,
  ⟨some 32, .load false 1 (.t 31), some (30, true)⟩,
  ⟨some 33, .mv (.t 3), some (30, true)⟩,
  ⟨some 34, .iaddrS 1 (.t 32) (.t 33), some (30, true)⟩,
  ⟨some 35, .load false 1 (.t 34), some (30, true)⟩,
  ⟨some 36, .call (.c (.fn (.func 73) [] [])) [.t 35], some (30, true)⟩,
  ⟨some 37, .pick (.t 30) (.t 36) (.c (.p (.s (.bool false)))), none⟩]
abbrev r61_7 : List CO := [
  ⟨some 38, .mv (.t 3), none⟩,
  ⟨some 39, .bin .add (.t 38) (.c (.p (.s (.int .i64 1)))), none⟩,
  ⟨some 3, .mv (.t 39), none⟩]
abbrev k61_3 : CC := .reg r61_7
abbrev l61_12 : CC := .seq (.seq (.reg r61_6) (.rest [1, 3, 37] (.cond (.t 37) (.skip) (.exit 2)))) (.rest [1, 3] (.block 3 k61_3))
abbrev k61_2 : CC := .loop l61_12
abbrev r61_8 : List CO := [
  ⟨some 40, .mv (.t 3), none⟩,
  ⟨some 2, .mv (.t 40), none⟩]
abbrev c61 : CC := .seq (.reg r61_0) (.seq (.seq (.reg r61_1) (.cond (.t 6) (.seq (.reg r61_2) (.ret)) (.skip))) (.rest [1] (.seq (.reg r61_3) (.seq (.block 0 k61_0) (.rest [1, 3] (.seq (.block 2 k61_2) (.rest [3] (.seq (.reg r61_8) (.ret)))))))))
theorem F61 : Fun Tryd.prog 61 41 c61 [.tmp 2] 1 := ⟨⟨Tryd.f61, _, Tryd.func61, rfl, by kernel_rfl, Tryd.ntmps61, by kernel_rfl, by kernel_rfl⟩, by decide⟩

/-- linnet/line.does$5 -/
abbrev r62_0 : List CO := [
  ⟨some 1, .box (.t 0), none⟩,
  ⟨some 2, .alloc ([.s (.slice none 0 0), .s (.int .i64 0)]), none⟩]
abbrev r62_1 : List CO := [
  ⟨some 3, .load true 2 (.t 1), none⟩,
  ⟨some 4, .faddr 1 (.t 1), none⟩,
  ⟨some 5, .load false 1 (.t 4), none⟩,
  ⟨some 6, .call (.c (.fn (.func 56) [] [])) [.t 3, .c (.p (.s (.int .i64 0))), .t 5], none⟩,
  ⟨none, .store 2 (.t 2) (.t 6), none⟩]
abbrev c62 : CC := .seq (.reg r62_0) (.seq (.reg r62_1) (.rest [2] (.ret)))
theorem F62 : Fun Tryd.prog 62 7 c62 [.cell 2 true 2] 1 := ⟨⟨Tryd.f62, _, Tryd.func62, rfl, by kernel_rfl, Tryd.ntmps62, by kernel_rfl, by kernel_rfl⟩, by decide⟩

/-- linnet/line.does$6 -/
abbrev r63_0 : List CO := [
  ⟨some 1, .box (.t 0), none⟩,
  ⟨some 2, .alloc ([.s (.slice none 0 0), .s (.int .i64 0)]), none⟩]
abbrev r63_1 : List CO := [
  ⟨some 3, .load true 2 (.t 1), none⟩,
  ⟨some 4, .faddr 1 (.t 1), none⟩,
  ⟨some 5, .load false 1 (.t 4), none⟩,
  ⟨some 6, .faddr 0 (.t 1), none⟩,
  ⟨some 7, .load false 1 (.t 6), none⟩,
  ⟨some 8, .len (.t 7), none⟩,
  ⟨some 9, .call (.c (.fn (.func 56) [] [])) [.t 3, .t 5, .t 8], none⟩,
  ⟨none, .store 2 (.t 2) (.t 9), none⟩]
abbrev c63 : CC := .seq (.reg r63_0) (.seq (.reg r63_1) (.rest [2] (.ret)))
theorem F63 : Fun Tryd.prog 63 10 c63 [.cell 2 true 2] 1 := ⟨⟨Tryd.f63, _, Tryd.func63, rfl, by kernel_rfl, Tryd.ntmps63, by kernel_rfl, by kernel_rfl⟩, by decide⟩

/-- linnet/line.does$7 -/
abbrev r64_0 : List CO := [
  ⟨some 1, .box (.t 0), none⟩,
  ⟨some 2, .alloc ([.s (.slice none 0 0), .s (.int .i64 0)]), none⟩]
abbrev r64_1 : List CO := [
  ⟨some 3, .build ([.s (.slice none 0 0), .s (.int .i64 0)]) [], none⟩,
  ⟨none, .store 2 (.t 2) (.t 3), none⟩]
abbrev c64 : CC := .seq (.reg r64_0) (.seq (.reg r64_1) (.ret))
theorem F64 : Fun Tryd.prog 64 4 c64 [.cell 2 true 2] 1 := ⟨⟨Tryd.f64, _, Tryd.func64, rfl, by kernel_rfl, Tryd.ntmps64, by kernel_rfl, by kernel_rfl⟩, by decide⟩

/-- linnet/line.does$8 -/
abbrev r65_0 : List CO := [
  ⟨some 1, .box (.t 0), none⟩,
  ⟨some 2, .alloc ([.s (.slice none 0 0), .s (.int .i64 0)]), none⟩]
abbrev r65_1 : List CO := [
  ⟨some 3, .load true 2 (.t 1), none⟩,
  ⟨some 4, .faddr 1 (.t 1), none⟩,
  ⟨some 5, .load false 1 (.t 4), none⟩,
  ⟨some 6, .bin .sub (.t 5) (.c (.p (.s (.int .i64 1)))), none⟩,
  ⟨some 7, .call (.c (.fn (.func 66) [] [])) [.t 3, .t 6], none⟩,
  ⟨none, .store 2 (.t 2) (.t 7), none⟩]
abbrev c65 : CC := .seq (.reg r65_0) (.seq (.reg r65_1) (.rest [2] (.ret)))
theorem F65 : Fun Tryd.prog 65 8 c65 [.cell 2 true 2] 1 := ⟨⟨Tryd.f65, _, Tryd.func65, rfl, by kernel_rfl, Tryd.ntmps65, by kernel_rfl, by kernel_rfl⟩, by decide⟩

/-- linnet/line.to -/
abbrev r66_0 : List CO := [
  ⟨some 2, .box (.t 0), none⟩,
  ⟨some 4, .alloc ([.s (.slice none 0 0), .s (.int .i64 0)]), none⟩]
abbrev r66_1 : List CO := [
  ⟨some 5, .faddr 0 (.t 2), none⟩,
  ⟨some 6, .load false 1 (.t 5), none⟩,
  ⟨some 7, .mv (.t 1), none⟩,
  ⟨some 8, .faddr 0 (.t 2), none⟩,
  ⟨some 9, .load false 1 (.t 8), none⟩,
  ⟨some 10, .len (.t 9), none⟩,
  ⟨some 11, .minmax false (.t 7) (.t 10), none⟩,
  ⟨some 12, .minmax true (.c (.p (.s (.int .i64 0)))) (.t 11), none⟩,
  ⟨some 13, .build ([.s (.slice none 0 0), .s (.int .i64 0)]) [(0, 1, .t 6), (1, 1, .t 12)], none⟩,
  ⟨none, .store 2 (.t 4) (.t 13), none⟩]
abbrev c66 : CC := .seq (.reg r66_0) (.seq (.reg r66_1) (.rest [4] (.ret)))
theorem F66 : Fun Tryd.prog 66 14 c66 [.cell 4 true 2] 2 := ⟨⟨Tryd.f66, _, Tryd.func66, rfl, by kernel_rfl, Tryd.ntmps66, by kernel_rfl, by kernel_rfl⟩, by decide⟩

/-- linnet/line.does$9 -/
abbrev r67_0 : List CO := [
  ⟨some 1, .box (.t 0), none⟩,
  ⟨some 2, .alloc ([.s (.slice none 0 0), .s (.int .i64 0)]), none⟩]
abbrev r67_1 : List CO := [
  ⟨some 3, .load true 2 (.t 1), none⟩,
  ⟨some 4, .faddr 1 (.t 1), none⟩,
  ⟨some 5, .load false 1 (.t 4), none⟩,
  ⟨some 6, .bin .add (.t 5) (.c (.p (.s (.int .i64 1)))), none⟩,
  ⟨some 7, .call (.c (.fn (.func 66) [] [])) [.t 3, .t 6], none⟩,
  ⟨none, .store 2 (.t 2) (.t 7), none⟩]
abbrev c67 : CC := .seq (.reg r67_0) (.seq (.reg r67_1) (.rest [2] (.ret)))
theorem F67 : Fun Tryd.prog 67 8 c67 [.cell 2 true 2] 1 := ⟨⟨Tryd.f67, _, Tryd.func67, rfl, by kernel_rfl, Tryd.ntmps67, by kernel_rfl, by kernel_rfl⟩, by decide⟩

/-- linnet/line.does$10 -/
abbrev r68_0 : List CO := [
  ⟨some 1, .box (.t 0), none⟩,
  ⟨some 2, .alloc ([.s (.slice none 0 0), .s (.int .i64 0)]), none⟩]
abbrev r68_1 : List CO := [
  ⟨some 3, .load true 2 (.t 1), none⟩,
  ⟨some 4, .load true 2 (.t 1), none⟩,
  ⟨some 5, .call (.c (.fn (.func 59) [] [])) [.t 4], none⟩,
  ⟨some 6, .call (.c (.fn (.func 66) [] [])) [.t 3, .t 5], none⟩,
  ⟨none, .store 2 (.t 2) (.t 6), none⟩]
abbrev b68_1 : List (List Nat) := [[], [], [1], [0, 2, 2], [3, 3, 0, 1, 2, 3]]
abbrev c68 : CC := .seq (.reg r68_0) (.seq (.regd r68_1 b68_1) (.rest [2] (.ret)))
theorem F68 : Fun Tryd.prog 68 7 c68 [.cell 2 true 2] 1 := ⟨⟨Tryd.f68, _, Tryd.func68, rfl, by kernel_rfl, Tryd.ntmps68, by kernel_rfl, by kernel_rfl⟩, by decide⟩

/-- linnet/line.does$11 -/
abbrev r69_0 : List CO := [
  ⟨some 1, .box (.t 0), none⟩,
  ⟨some 2, .alloc ([.s (.slice none 0 0), .s (.int .i64 0)]), none⟩]
abbrev r69_1 : List CO := [
  ⟨some 3, .load true 2 (.t 1), none⟩,
  ⟨some 4, .load true 2 (.t 1), none⟩,
  ⟨some 5, .call (.c (.fn (.func 61) [] [])) [.t 4], none⟩,
  ⟨some 6, .call (.c (.fn (.func 66) [] [])) [.t 3, .t 5], none⟩,
  ⟨none, .store 2 (.t 2) (.t 6), none⟩]
abbrev b69_1 : List (List Nat) := [[], [], [1], [0, 2, 2], [3, 3, 0, 1, 2, 3]]
abbrev c69 : CC := .seq (.reg r69_0) (.seq (.regd r69_1 b69_1) (.rest [2] (.ret)))
theorem F69 : Fun Tryd.prog 69 7 c69 [.cell 2 true 2] 1 := ⟨⟨Tryd.f69, _, Tryd.func69, rfl, by kernel_rfl, Tryd.ntmps69, by kernel_rfl, by kernel_rfl⟩, by decide⟩

/-- linnet/line.does$12 -/
abbrev r70_0 : List CO := [
  ⟨some 1, .box (.t 0), none⟩,
  ⟨some 2, .alloc ([.s (.slice none 0 0), .s (.int .i64 0)]), none⟩]
abbrev r70_1 : List CO := [
  ⟨some 3, .load true 2 (.t 1), none⟩,
  ⟨some 4, .call (.c (.fn (.func 66) [] [])) [.t 3, .c (.p (.s (.int .i64 0)))], none⟩,
  ⟨none, .store 2 (.t 2) (.t 4), none⟩]
abbrev c70 : CC := .seq (.reg r70_0) (.seq (.reg r70_1) (.ret))
theorem F70 : Fun Tryd.prog 70 5 c70 [.cell 2 true 2] 1 := ⟨⟨Tryd.f70, _, Tryd.func70, rfl, by kernel_rfl, Tryd.ntmps70, by kernel_rfl, by kernel_rfl⟩, by decide⟩

/-- linnet/line.does$13 -/
abbrev r71_0 : List CO := [
  ⟨some 1, .box (.t 0), none⟩,
  ⟨some 2, .alloc ([.s (.slice none 0 0), .s (.int .i64 0)]), none⟩]
abbrev r71_1 : List CO := [
  ⟨some 3, .load true 2 (.t 1), none⟩,
  ⟨some 4, .faddr 0 (.t 1), none⟩,
  ⟨some 5, .load false 1 (.t 4), none⟩,
  ⟨some 6, .len (.t 5), none⟩,
  ⟨some 7, .call (.c (.fn (.func 66) [] [])) [.t 3, .t 6], none⟩,
  ⟨none, .store 2 (.t 2) (.t 7), none⟩]
abbrev c71 : CC := .seq (.reg r71_0) (.seq (.reg r71_1) (.rest [2] (.ret)))
theorem F71 : Fun Tryd.prog 71 8 c71 [.cell 2 true 2] 1 := ⟨⟨Tryd.f71, _, Tryd.func71, rfl, by kernel_rfl, Tryd.ntmps71, by kernel_rfl, by kernel_rfl⟩, by decide⟩

/-- bytes.TrimRight -/
abbrev r72_0 : List CO := [
  ⟨some 4, .mv (.c (.p (.s (.slice none 0 0)))), none⟩]
abbrev r72_1 : List CO := [
  ⟨some 7, .mv (.t 0), none⟩,
  ⟨some 8, .len (.t 7), none⟩,
  ⟨some 9, .bin .eql (.t 8) (.c (.p (.s (.int .i64 0)))), none⟩,
  ⟨some 10, .mv (.t 9), none⟩,
  ⟨some 11, .mv (.t 1), some (10, false)⟩,
  ⟨some 12, .bin .eql (.t 11) (.c (.p (.s (.string { data := #[] })))), some (10, false)⟩,
  ⟨some 13, .pick (.t 10) (.c (.p (.s (.bool true)))) (.t 12), none⟩]
abbrev r72_2 : List CO := [
  ⟨some 14, .mv (.t 0), none⟩,
  ⟨some 4, .mv (.t 14), none⟩]
abbrev r72_3 : List CO := [
  ⟨some 15, .mv (.t 1), none⟩,
  ⟨some 16, .slen (.t 15), none⟩,
  ⟨some 17, .bin .eql (.t 16) (.c (.p (.s (.int .i64 1)))), none⟩,
  ⟨some 18, .mv (.t 17), none⟩,
  ⟨some 19, .mv (.t 1), some (18, true)⟩,
  ⟨some 20, .sindex (.t 19) (.c (.p (.s (.int .i64 0)))), some (18, true)⟩,
  ⟨some 21, .bin .lss (.t 20) (.c (.p (.s (.int .u8 128)))), some (18, true)⟩,
  ⟨some 22, .pick (.t 18) (.t 21) (.c (.p (.s (.bool false)))), none⟩]
abbrev r72_4 : List CO := [
  ⟨some 23, .mv (.t 0), none⟩,
  ⟨some 24, .mv (.t 1), none⟩,
  ⟨some 25, .sindex (.t 24) (.c (.p (.s (.int .i64 0)))), none⟩,
  ⟨some 26, .call (.c (.fn (.func 74) [] [])) [.t 23, .t 25], none⟩,
  ⟨some 4, .mv (.t 26), none⟩]
abbrev r72_5 : List CO := [
  ⟨some 28, .mv (.t 1), none⟩,
  ⟨some 29, .call (.c (.fn (.func 75) [] [])) [.t 28], none⟩,
  ⟨some 27, .mv (.t 29), none⟩,
  ⟨some 30, .extract 0 (.t 27), none⟩,
  ⟨some 31, .extract 1 (.t 27), none⟩,
  ⟨some 5, .alloc (List.replicate 256 (.s (.bool false))), none⟩,
  ⟨none, .store 256 (.t 5) (.t 30), none⟩,
  ⟨some 6, .mv (.t 31), none⟩]
abbrev r72_6 : List CO := [
  ⟨some 32, .mv (.t 6), none⟩]
abbrev r72_7 : List CO := [
  ⟨some 33, .mv (.t 0), none⟩,
  ⟨some 34, .call (.c (.fn (.func 76) [] [])) [.t 33, .t 5], none⟩,
  ⟨some 4, .mv (.t 34), none⟩]
abbrev r72_8 : List CO := [
  ⟨some 35, .mv (.t 0), none⟩,
  ⟨some 36, .mv (.t 1), none⟩,
  ⟨some 37, .call (.c (.fn (.func 77) [] [])) [.t 35, .t 36], none⟩,
  ⟨some 4, .mv (.t 37), none⟩]
abbrev c72 : CC := .seq (.reg r72_0) (.seq (.seq (.reg r72_1) (.rest [0, 1, 13] (.cond (.t 13) (.seq (.reg r72_2) (.ret)) (.skip)))) (.rest [0, 1] (.seq (.seq (.reg r72_3) (.rest [0, 1, 22] (.cond (.t 22) (.seq (.reg r72_4) (.rest [4] (.ret))) (.skip)))) (.rest [0, 1] (.seq (.seq (.reg r72_5) (.rest [0, 1, 5, 6] (.seq (.reg r72_6) (.cond (.t 32) (.seq (.reg r72_7) (.ret)) (.skip))))) (.rest [0, 1] (.seq (.reg r72_8) (.rest [4] (.ret)))))))))
theorem F72 : Fun Tryd.prog 72 38 c72 [.tmp 4] 2 := ⟨⟨Tryd.f72, _, Tryd.func72, rfl, by kernel_rfl, Tryd.ntmps72, by kernel_rfl, by kernel_rfl⟩, by decide⟩

/-- linnet/line.blank -/
abbrev r73_0 : List CO := [
  ⟨some 2, .mv (.c (.p (.s (.bool false)))), none⟩]
abbrev r73_1 : List CO := [
  ⟨some 3, .mv (.t 0), none⟩,
  ⟨some 4, .bin .eql (.t 3) (.c (.p (.s (.int .u8 32)))), none⟩,
  ⟨some 5, .mv (.t 4), none⟩,
  ⟨some 6, .mv (.t 0), some (5, false)⟩,
  ⟨some 7, .bin .eql (.t 6) (.c (.p (.s (.int .u8 9)))), some (5, false)⟩,
  ⟨some 8, .pick (.t 5) (.c (.p (.s (.bool true)))) (.t 7), none⟩,
  ⟨some 2, .mv (.t 8), none⟩]
abbrev c73 : CC := .seq (.reg r73_0) (.seq (.reg r73_1) (.rest [2] (.ret)))
theorem F73 : Fun Tryd.prog 73 9 c73 [.tmp 2] 1 := ⟨⟨Tryd.f73, _, Tryd.func73, rfl, by kernel_rfl, Tryd.ntmps73, by kernel_rfl, by kernel_rfl⟩, by decide⟩

/-- bytes.trimRightByte -/
abbrev r74_0 : List CO := [
  ⟨some 4, .mv (.c (.p (.s (.slice none 0 0)))), none⟩]
abbrev r74_1 : List CO := [
  ⟨some 5, .mv (.t 0), none⟩,
  ⟨some 6, .len (.t 5), none⟩,
  ⟨some 7, .bin .gtr (.t 6) (.c (.p (.s (.int .i64 0)))), none⟩,
  ⟨some 8, .mv (.t 7), none⟩,
  ⟨some 9, .mv (.t 0), some (8, true)⟩,
  ⟨some 10, .mv (.t 0), some (8, true)⟩,
  ⟨some 11, .len (.t 10), some (8, true)⟩,
  ⟨some 12, .bin .sub (.t 11) (.c (.p (.s (.int .i64 1)))), some (8, true)⟩,
  ⟨some 13, .iaddrS 1 (.t 9) (.t 12), some (8, true)⟩,
  ⟨some 14, .load false 1 (.t 13), some (8, true)⟩,
  ⟨some 15, .mv (.t 1), some (8, true)⟩,
  ⟨some 16, .bin .eql (.t 14) (.t 15), some (8, true)⟩,
  ⟨some 17, .pick (.t 8) (.t 16) (.c (.p (.s (.bool false)))), none⟩]
abbrev r74_2 : List CO := [
  ⟨some 18, .mv (.t 0), none⟩,
  ⟨some 19, .mv (.t 0), none⟩,
  ⟨some 20, .len (.t 19), none⟩,
  ⟨some 21, .bin .sub (.t 20) (.c (.p (.s (.int .i64 1)))), none⟩,
  ⟨some 22, .slice 1 (.t 18) none (some (.t 21)), none⟩,
  ⟨some 0, .mv (.t 22), none⟩]
abbrev k74_1 : CC := .reg r74_2
abbrev l74_4 : CC := .seq (.seq (.reg r74_1) (.rest [0, 1, 17] (.cond (.t 17) (.skip) (.exit 0)))) (.rest [0, 1] (.block 1 k74_1))
abbrev k74_0 : CC := .loop l74_4
abbrev r74_3 : List CO := [
  ⟨some 23, .mv (.t 0), none⟩,
  ⟨some 4, .mv (.t 23), none⟩]
abbrev c74 : CC := .seq (.reg r74_0) (.seq (.block 0 k74_0) (.rest [0] (.seq (.reg r74_3) (.ret))))
theorem F74 : Fun Tryd.prog 74 24 c74 [.tmp 4] 2 := ⟨⟨Tryd.f74, _, Tryd.func74, rfl, by kernel_rfl, Tryd.ntmps74, by kernel_rfl, by kernel_rfl⟩, by decide⟩

/-- bytes.makeASCIISet -/
abbrev r75_0 : List CO := [
  ⟨some 2, .alloc (List.replicate 256 (.s (.bool false))), none⟩,
  ⟨some 3, .mv (.c (.p (.s (.bool false)))), none⟩]
abbrev r75_1 : List CO := [
  ⟨some 4, .mv (.c (.p (.s (.int .i64 0)))), none⟩]
abbrev r75_2 : List CO := [
  ⟨some 6, .mv (.t 4), none⟩,
  ⟨some 7, .mv (.t 0), none⟩,
  ⟨some 8, .slen (.t 7), none⟩,
  ⟨some 9, .bin .lss (.t 6) (.t 8), none⟩]
abbrev r75_4 : List CO := [
  ⟨some 12, .mv (.t 0), none⟩,
  ⟨some 13, .mv (.t 4), none⟩,
  ⟨some 14, .sindex (.t 12) (.t 13), none⟩,
  ⟨some 5, .mv (.t 14), none⟩]
abbrev r75_5 : List CO := [
  ⟨some 15, .mv (.t 5), none⟩,
  ⟨some 16, .bin .geq (.t 15) (.c (.p (.s (.int .u8 128)))), none⟩]
abbrev r75_6 : List CO := [
  ⟨some 17, .load true 256 (.t 2), none⟩,
  ⟨none, .store 256 (.t 2) (.t 17), none⟩,
  ⟨some 3, .mv (.c (.p (.s (.bool false)))), none⟩]
abbrev r75_7 : List CO := [
  ⟨some 18, .mv (.t 5), none⟩,
  ⟨some 19, .iaddrA 1 256 (.t 2) (.t 18), none⟩,
  ⟨none, .store 1 (.t 19) (.c (.p (.s (.bool true)))), none⟩]
abbrev k75_1 : CC := .seq (.reg r75_4) (.rest [0, 2, 4, 5] (.seq (.seq (.reg r75_5) (.cond (.t 16) (.seq (.reg r75_6) (.ret)) (.skip))) (.rest [0, 2, 4, 5] (.reg r75_7))))
abbrev r75_3 : List CO := [
  ⟨some 10, .mv (.t 4), none⟩,
  ⟨some 11, .bin .add (.t 10) (.c (.p (.s (.int .i64 1)))), none⟩,
  ⟨some 4, .mv (.t 11), none⟩]
abbrev l75_9 : CC := .seq (.seq (.reg r75_2) (.rest [0, 2, 4, 9] (.cond (.t 9) (.skip) (.exit 0)))) (.rest [0, 2, 4] (.seq (.block 1 k75_1) (.rest [0, 2, 4] (.reg r75_3))))
abbrev k75_0 : CC := .loop l75_9
abbrev r75_8 : List CO := [
  ⟨some 20, .load true 256 (.t 2), none⟩,
  ⟨none, .store 256 (.t 2) (.t 20), none⟩,
  ⟨some 3, .mv (.c (.p (.s (.bool true)))), none⟩]
abbrev c75 : CC := .seq (.reg r75_0) (.seq (.seq (.reg r75_1) (.block 0 k75_0)) (.rest [2] (.seq (.reg r75_8) (.ret))))
theorem F75 : Fun Tryd.prog 75 21 c75 [.cell 2 true 256, .tmp 3] 1 := ⟨⟨Tryd.f75, _, Tryd.func75, rfl, by kernel_rfl, Tryd.ntmps75, by kernel_rfl, by kernel_rfl⟩, by decide⟩

/-- bytes.trimRightASCII -/
abbrev r76_0 : List CO := [
  ⟨some 4, .mv (.c (.p (.s (.slice none 0 0)))), none⟩]
abbrev r76_1 : List CO := [
  ⟨some 5, .mv (.t 0), none⟩,
  ⟨some 6, .len (.t 5), none⟩,
  ⟨some 7, .bin .gtr (.t 6) (.c (.p (.s (.int .i64 0)))), none⟩]
abbrev r76_2 : List CO := [
  ⟨some 8, .mv (.t 1), none⟩,
  ⟨some 9, .mv (.t 0), none⟩,
  ⟨some 10, .mv (.t 0), none⟩,
  ⟨some 11, .len (.t 10), none⟩,
  ⟨some 12, .bin .sub (.t 11) (.c (.p (.s (.int .i64 1)))), none⟩,
  ⟨some 13, .iaddrS 1 (.t 9) (.t 12), none⟩,
  ⟨some 14, .load false 1 (.t 13), none⟩,
  ⟨some 15, .call (.c (.fn (.func 78) [] [])) [.t 8, .t 14], none⟩,
  ⟨some 16, .un .not (.t 15), none⟩]
abbrev r76_3 : List CO := [
  ⟨some 17, .mv (.t 0), none⟩,
  ⟨some 18, .mv (.t 0), none⟩,
  ⟨some 19, .len (.t 18), none⟩,
  ⟨some 20, .bin .sub (.t 19) (.c (.p (.s (.int .i64 1)))), none⟩,
  ⟨some 21, .slice 1 (.t 17) none (some (.t 20)), none⟩,
  ⟨some 0, .mv (.t 21), none⟩]
abbrev k76_1 : CC := .seq (.seq (.reg r76_2) (.rest [0, 1, 16] (.cond (.t 16) (.exit 0) (.skip)))) (.rest [0, 1] (.reg r76_3))
abbrev l76_5 : CC := .seq (.seq (.reg r76_1) (.cond (.t 7) (.skip) (.exit 0))) (.block 1 k76_1)
abbrev k76_0 : CC := .loop l76_5
abbrev r76_4 : List CO := [
  ⟨some 22, .mv (.t 0), none⟩,
  ⟨some 4, .mv (.t 22), none⟩]
abbrev c76 : CC := .seq (.reg r76_0) (.seq (.block 0 k76_0) (.rest [0] (.seq (.reg r76_4) (.ret))))
theorem F76 : Fun Tryd.prog 76 23 c76 [.tmp 4] 2 := ⟨⟨Tryd.f76, _, Tryd.func76, rfl, by kernel_rfl, Tryd.ntmps76, by kernel_rfl, by kernel_rfl⟩, by decide⟩

/-- bytes.trimRightUnicode -/
abbrev r77_0 : List CO := [
  ⟨some 4, .mv (.c (.p (.s (.slice none 0 0)))), none⟩]
abbrev r77_1 : List CO := [
  ⟨some 7, .mv (.t 0), none⟩,
  ⟨some 8, .len (.t 7), none⟩,
  ⟨some 9, .bin .gtr (.t 8) (.c (.p (.s (.int .i64 0)))), none⟩]
abbrev r77_2 : List CO := [
  ⟨some 10, .mv (.t 0), none⟩,
  ⟨some 11, .mv (.t 0), none⟩,
  ⟨some 12, .len (.t 11), none⟩,
  ⟨some 13, .bin .sub (.t 12) (.c (.p (.s (.int .i64 1)))), none⟩,
  ⟨some 14, .iaddrS 1 (.t 10) (.t 13), none⟩,
  ⟨some 15, .load false 1 (.t 14), none⟩,
  ⟨some 16, .toInt .i32 (.t 15), none⟩,
  ⟨some 5, .mv (.t 16), none⟩,
  ⟨some 6, .mv (.c (.p (.s (.int .i64 1)))), none⟩]
abbrev r77_3 : List CO := [
  ⟨some 17, .mv (.t 5), none⟩,
  ⟨some 18, .bin .geq (.t 17) (.c (.p (.s (.int .i32 128)))), none⟩]
abbrev r77_4 : List CO := [
  ⟨some 20, .mv (.t 0), none⟩,
  ⟨some 21, .call (.c (.fn (.func 79) [] [])) [.t 20], none⟩,
  ⟨some 19, .mv (.t 21), none⟩,
  ⟨some 22, .extract 0 (.t 19), none⟩,
  ⟨some 23, .extract 1 (.t 19), none⟩,
  ⟨some 5, .mv (.t 22), none⟩,
  ⟨some 6, .mv (.t 23), none⟩]
abbrev r77_5 : List CO := [
  ⟨some 24, .mv (.t 1), none⟩,
  ⟨some 25, .mv (.t 5), none⟩,
  ⟨some 26, .call (.c (.fn (.func 80) [] [])) [.t 24, .t 25], none⟩,
  ⟨some 27, .un .not (.t 26), none⟩]
abbrev r77_6 : List CO := [
  ⟨some 28, .mv (.t 0), none⟩,
  ⟨some 29, .mv (.t 0), none⟩,
  ⟨some 30, .len (.t 29), none⟩,
  ⟨some 31, .mv (.t 6), none⟩,
  ⟨some 32, .bin .sub (.t 30) (.t 31), none⟩,
  ⟨some 33, .slice 1 (.t 28) none (some (.t 32)), none⟩,
  ⟨some 0, .mv (.t 33), none⟩]
abbrev k77_1 : CC := .seq (.reg r77_2) (.rest [0, 1, 5, 6] (.seq (.seq (.reg r77_3) (.cond (.t 18) (.reg r77_4) (.skip))) (.rest [0, 1, 5, 6] (.seq (.seq (.reg r77_5) (.rest [0, 1, 6, 27] (.cond (.t 27) (.exit 0) (.skip)))) (.rest [0, 1, 6] (.reg r77_6))))))
abbrev l77_8 : CC := .seq (.seq (.reg r77_1) (.cond (.t 9) (.skip) (.exit 0))) (.block 1 k77_1)
abbrev k77_0 : CC := .loop l77_8
abbrev r77_7 : List CO := [
  ⟨some 34, .mv (.t 0), none⟩,
  ⟨some 4, .mv (.t 34), none⟩]
abbrev c77 : CC := .seq (.reg r77_0) (.seq (.block 0 k77_0) (.rest [0] (.seq (.reg r77_7) (.ret))))
theorem F77 : Fun Tryd.prog 77 35 c77 [.tmp 4] 2 := ⟨⟨Tryd.f77, _, Tryd.func77, rfl, by kernel_rfl, Tryd.ntmps77, by kernel_rfl, by kernel_rfl⟩, by decide⟩

/-- (*bytes.asciiSet).contains -/
abbrev r78_0 : List CO := [
  ⟨some 4, .mv (.c (.p (.s (.bool false)))), none⟩]
abbrev r78_1 : List CO := [
  ⟨some 5, .mv (.t 0), none⟩,
  ⟨some 6, .mv (.t 1), none⟩,
  ⟨some 7, .nilchk (.t 5), none⟩,
  ⟨some 8, .iaddrA 1 256 (.t 7) (.t 6), none⟩,
  ⟨some 9, .load false 1 (.t 8), none⟩,
  ⟨some 4, .mv (.t 9), none⟩]
abbrev c78 : CC := .seq (.reg r78_0) (.seq (.reg r78_1) (.rest [4] (.ret)))
theorem F78 : Fun Tryd.prog 78 10 c78 [.tmp 4] 2 := ⟨⟨Tryd.f78, _, Tryd.func78, rfl, by kernel_rfl, Tryd.ntmps78, by kernel_rfl, by kernel_rfl⟩, by decide⟩

/-- unicode/utf8.DecodeLastRune -/
abbrev r79_0 : List CO := [
  ⟨some 2, .mv (.c (.p (.s (.int .i32 0)))), none⟩,
  ⟨some 3, .mv (.c (.p (.s (.int .i64 0)))), none⟩]
abbrev r79_1 : List CO := [
  ⟨some 7, .mv (.t 0), none⟩,
  ⟨some 8, .len (.t 7), none⟩,
  ⟨some 4, .mv (.t 8), none⟩]
abbrev r79_2 : List CO := [
  ⟨some 9, .mv (.t 4), none⟩,
  ⟨some 10, .bin .eql (.t 9) (.c (.p (.s (.int .i64 0)))), none⟩]
abbrev r79_3 : List CO := [
  ⟨some 2, .mv (.c (.p (.s (.int .i32 65533)))), none⟩,
  ⟨some 3, .mv (.c (.p (.s (.int .i64 0)))), none⟩]
abbrev r79_4 : List CO := [
  ⟨some 11, .mv (.t 4), none⟩,
  ⟨some 12, .bin .sub (.t 11) (.c (.p (.s (.int .i64 1)))), none⟩,
  ⟨some 5, .mv (.t 12), none⟩]
abbrev r79_5 : List CO := [
  ⟨some 13, .mv (.t 0), none⟩,
  ⟨some 14, .mv (.t 5), none⟩,
  ⟨some 15, .iaddrS 1 (.t 13) (.t 14), none⟩,
  ⟨some 16, .load false 1 (.t 15), none⟩,
  ⟨some 17, .toInt .i32 (.t 16), none⟩,
  ⟨some 2, .mv (.t 17), none⟩]
abbrev r79_6 : List CO := [
  ⟨some 18, .mv (.t 2), none⟩,
  ⟨some 19, .bin .lss (.t 18) (.c (.p (.s (.int .i32 128)))), none⟩]
abbrev r79_7 : List CO := [
  ⟨some 20, .mv (.t 2), none⟩,
  ⟨some 2, .mv (.t 20), none⟩,
  ⟨some 3, .mv (.c (.p (.s (.int .i64 1)))), none⟩]
abbrev r79_8 : List CO := [
  ⟨some 21, .mv (.t 4), none⟩,
  ⟨some 22, .bin .sub (.t 21) (.c (.p (.s (.int .i64 4)))), none⟩,
  ⟨some 23, .minmax true (.t 22) (.c (.p (.s (.int .i64 0)))), none⟩,
  ⟨some 6, .mv (.t 23), none⟩]
abbrev r79_9 : List CO := [
  ⟨some 24, .mv (.t 5), none⟩,
  ⟨some 25, .bin .sub (.t 24) (.c (.p (.s (.int .i64 1)))), none⟩,
  ⟨some 5, .mv (.t 25), none⟩]
abbrev r79_10 : List CO := [
  ⟨some 26, .mv (.t 5), none⟩,
  ⟨some 27, .mv (.t 6), none⟩,
  ⟨some 28, .bin .geq (.t 26) (.t 27), none⟩]
abbrev r79_12 : List CO := [
  ⟨some 31, .mv (.t 0), none⟩,
  ⟨some 32, .mv (.t 5), none⟩,
  ⟨some 33, .iaddrS 1 (.t 31) (.t 32), none⟩,
  ⟨some 34, .load false 1 (.t 33), none⟩,
  ⟨some 35, .call (.c (.fn (.func 81) [] [])) [.t 34], none⟩]
abbrev k79_1 : CC := .seq (.reg r79_12) (.rest [0, 4, 5, 6, 35] (.cond (.t 35) (.exit 0) (.skip)))
abbrev r79_11 : List CO := [
  ⟨some 29, .mv (.t 5), none⟩,
  ⟨some 30, .bin .sub (.t 29) (.c (.p (.s (.int .i64 1)))), none⟩,
  ⟨some 5, .mv (.t 30), none⟩]
abbrev l79_14 : CC := .seq (.seq (.reg r79_10) (.cond (.t 28) (.skip) (.exit 0))) (.seq (.block 1 k79_1) (.rest [0, 4, 5, 6] (.reg r79_11)))
abbrev k79_0 : CC := .loop l79_14
abbrev r79_13 : List CO := [
  ⟨some 36, .mv (.t 5), none⟩,
  ⟨some 37, .bin .lss (.t 36) (.c (.p (.s (.int .i64 0)))), none⟩]
abbrev r79_14 : List CO := [
  ⟨some 5, .mv (.c (.p (.s (.int .i64 0)))), none⟩]
abbrev r79_15 : List CO := [
  ⟨some 39, .mv (.t 0), none⟩,
  ⟨some 40, .mv (.t 5), none⟩,
  ⟨some 41, .mv (.t 4), none⟩,
  ⟨some 42, .slice 1 (.t 39) (some (.t 40)) (some (.t 41)), none⟩,
  ⟨some 43, .call (.c (.fn (.func 82) [] [])) [.t 42], none⟩,
  ⟨some 38, .mv (.t 43), none⟩,
  ⟨some 44, .extract 0 (.t 38), none⟩,
  ⟨some 45, .extract 1 (.t 38), none⟩,
  ⟨some 2, .mv (.t 44), none⟩,
  ⟨some 3, .mv (.t 45), none⟩]
abbrev r79_16 : List CO := [
  ⟨some 46, .mv (.t 5), none⟩,
  ⟨some 47, .mv (.t 3), none⟩,
  ⟨some 48, .bin .add (.t 46) (.t 47), none⟩,
  ⟨some 49, .mv (.t 4), none⟩,
  ⟨some 50, .bin .neq (.t 48) (.t 49), none⟩]
abbrev r79_17 : List CO := [
  ⟨some 2, .mv (.c (.p (.s (.int .i32 65533)))), none⟩,
  ⟨some 3, .mv (.c (.p (.s (.int .i64 1)))), none⟩]
abbrev r79_18 : List CO := [
  ⟨some 51, .mv (.t 2), none⟩,
  ⟨some 52, .mv (.t 3), none⟩,
  ⟨some 2, .mv (.t 51), none⟩,
  ⟨some 3, .mv (.t 52), none⟩]
abbrev c79 : CC := .seq (.reg r79_0) (.seq (.reg r79_1) (.seq (.seq (.reg r79_2) (.cond (.t 10) (.seq (.reg r79_3) (.ret)) (.skip))) (.rest [0, 4] (.seq (.reg r79_4) (.seq (.reg r79_5) (.rest [0, 2, 4, 5] (.seq (.seq (.reg r79_6) (.cond (.t 19) (.seq (.reg r79_7) (.ret)) (.skip))) (.rest [0, 4, 5] (.seq (.reg r79_8) (.rest [0, 4, 5, 6] (.seq (.seq (.reg r79_9) (.block 0 k79_0)) (.rest [0, 4, 5] (.seq (.seq (.reg r79_13) (.cond (.t 37) (.reg r79_14) (.skip))) (.seq (.reg r79_15) (.rest [2, 3, 4, 5] (.seq (.seq (.reg r79_16) (.rest [2, 3, 50] (.cond (.t 50) (.seq (.reg r79_17) (.ret)) (.skip)))) (.rest [2, 3] (.seq (.reg r79_18) (.rest [2, 3] (.ret))))))))))))))))))))
theorem F79 : Fun Tryd.prog 79 53 c79 [.tmp 2, .tmp 3] 1 := ⟨⟨Tryd.f79, _, Tryd.func79, rfl, by kernel_rfl, Tryd.ntmps79, by kernel_rfl, by kernel_rfl⟩, by decide⟩

/-- unicode/utf8.RuneStart -/
abbrev r81_0 : List CO := [
  ⟨some 2, .mv (.c (.p (.s (.bool false)))), none⟩]
abbrev r81_1 : List CO := [
  ⟨some 3, .mv (.t 0), none⟩,
  ⟨some 4, .bin .and (.t 3) (.c (.p (.s (.int .u8 192)))), none⟩,
  ⟨some 5, .bin .neq (.t 4) (.c (.p (.s (.int .u8 128)))), none⟩,
  ⟨some 2, .mv (.t 5), none⟩]
abbrev c81 : CC := .seq (.reg r81_0) (.seq (.reg r81_1) (.rest [2] (.ret)))
theorem F81 : Fun Tryd.prog 81 6 c81 [.tmp 2] 1 := ⟨⟨Tryd.f81, _, Tryd.func81, rfl, by kernel_rfl, Tryd.ntmps81, by kernel_rfl, by kernel_rfl⟩, by decide⟩

/-- unicode/utf8.DecodeRune -/
abbrev r82_0 : List CO := [
  ⟨some 2, .mv (.c (.p (.s (.int .i32 0)))), none⟩,
  ⟨some 3, .mv (.c (.p (.s (.int .i64 0)))), none⟩]
abbrev r82_1 : List CO := [
  ⟨some 6, .mv (.t 0), none⟩,
  ⟨some 7, .len (.t 6), none⟩,
  ⟨some 8, .mv (.c (.p (.s (.int .i64 0)))), none⟩]
abbrev r82_2 : List CO := [
  ⟨some 9, .bin .lss (.t 8) (.t 7), none⟩]
abbrev r82_3 : List CO := [
  ⟨some 10, .iaddrS 1 (.t 6) (.t 8), none⟩,
  ⟨some 11, .load false 1 (.t 10), none⟩,
  ⟨some 5, .mv (.t 11), none⟩]
abbrev r82_4 : List CO := [
  ⟨some 12, .mv (.t 5), none⟩,
  ⟨some 13, .bin .lss (.t 12) (.c (.p (.s (.int .u8 128)))), none⟩]
abbrev r82_5 : List CO := [
  ⟨some 14, .mv (.t 5), none⟩,
  ⟨some 15, .toInt .i32 (.t 14), none⟩,
  ⟨some 2, .mv (.t 15), none⟩,
  ⟨some 3, .mv (.c (.p (.s (.int .i64 1)))), none⟩]
abbrev k82_1 : CC := .seq (.reg r82_3) (.seq (.seq (.reg r82_4) (.cond (.t 13) (.seq (.reg r82_5) (.rest [2, 3] (.ret))) (.skip))) (.rest [0] (.exit 0)))
abbrev r82_6 : List CO := [
  ⟨some 16, .bin .add (.t 8) (.c (.p (.s (.int .i64 1)))), none⟩,
  ⟨some 8, .mv (.t 16), none⟩]
abbrev l82_8 : CC := .seq (.reg r82_2) (.seq (.cond (.t 9) (.skip) (.exit 0)) (.seq (.block 1 k82_1) (.rest [0, 6, 7, 8] (.reg r82_6))))
abbrev k82_0 : CC := .loop l82_8
abbrev r82_7 : List CO := [
  ⟨some 18, .mv (.t 0), none⟩,
  ⟨some 19, .call (.c (.fn (.func 83) [] [])) [.t 18], none⟩,
  ⟨some 17, .mv (.t 19), none⟩,
  ⟨some 20, .extract 0 (.t 17), none⟩,
  ⟨some 21, .extract 1 (.t 17), none⟩,
  ⟨some 2, .mv (.t 20), none⟩,
  ⟨some 3, .mv (.t 21), none⟩]
abbrev c82 : CC := .seq (.reg r82_0) (.seq (.seq (.reg r82_1) (.block 0 k82_0)) (.rest [0] (.seq (.reg r82_7) (.rest [2, 3] (.ret)))))
theorem F82 : Fun Tryd.prog 82 22 c82 [.tmp 2, .tmp 3] 1 := ⟨⟨Tryd.f82, _, Tryd.func82, rfl, by kernel_rfl, Tryd.ntmps82, by kernel_rfl, by kernel_rfl⟩, by decide⟩

/-- unicode/utf8.decodeRuneSlow -/
abbrev r83_0 : List CO := [
  ⟨some 2, .mv (.c (.p (.s (.int .i32 0)))), none⟩,
  ⟨some 3, .mv (.c (.p (.s (.int .i64 0)))), none⟩]
abbrev r83_1 : List CO := [
  ⟨some 13, .mv (.t 0), none⟩,
  ⟨some 14, .len (.t 13), none⟩,
  ⟨some 4, .mv (.t 14), none⟩]
abbrev r83_2 : List CO := [
  ⟨some 15, .mv (.t 4), none⟩,
  ⟨some 16, .bin .lss (.t 15) (.c (.p (.s (.int .i64 1)))), none⟩]
abbrev r83_3 : List CO := [
  ⟨some 2, .mv (.c (.p (.s (.int .i32 65533)))), none⟩,
  ⟨some 3, .mv (.c (.p (.s (.int .i64 0)))), none⟩]
abbrev r83_4 : List CO := [
  ⟨some 17, .mv (.t 0), none⟩,
  ⟨some 18, .iaddrS 1 (.t 17) (.c (.p (.s (.int .i64 0)))), none⟩,
  ⟨some 19, .load false 1 (.t 18), none⟩,
  ⟨some 5, .mv (.t 19), none⟩]
abbrev r83_5 : List CO := [
  ⟨some 20, .mv (.t 5), none⟩,
  ⟨some 21, .iaddrA 1 256 (.g 2) (.t 20), none⟩,
  ⟨some 22, .load false 1 (.t 21), none⟩,
  ⟨some 6, .mv (.t 22), none⟩]
abbrev r83_6 : List CO := [
  ⟨some 23, .mv (.t 6), none⟩,
  ⟨some 24, .bin .geq (.t 23) (.c (.p (.s (.int .u8 240)))), none⟩]
abbrev r83_7 : List CO := [
  ⟨some 25, .mv (.t 6), none⟩,
  ⟨some 26, .toInt .i32 (.t 25), none⟩,
  ⟨some 27, .bin .shl (.t 26) (.c (.p (.s (.int .u64 31)))), none⟩,
  ⟨some 28, .bin .shr (.t 27) (.c (.p (.s (.int .u64 31)))), none⟩,
  ⟨some 7, .mv (.t 28), none⟩]
abbrev r83_8 : List CO := [
  ⟨some 29, .mv (.t 0), none⟩,
  ⟨some 30, .iaddrS 1 (.t 29) (.c (.p (.s (.int .i64 0)))), none⟩,
  ⟨some 31, .load false 1 (.t 30), none⟩,
  ⟨some 32, .toInt .i32 (.t 31), none⟩,
  ⟨some 33, .mv (.t 7), none⟩,
  ⟨some 34, .bin .andNot (.t 32) (.t 33), none⟩,
  ⟨some 35, .mv (.t 7), none⟩,
  ⟨some 36, .bin .and (.c (.p (.s (.int .i32 65533)))) (.t 35), none⟩,
  ⟨some 37, .bin .or (.t 34) (.t 36), none⟩,
  ⟨some 2, .mv (.t 37), none⟩,
  ⟨some 3, .mv (.c (.p (.s (.int .i64 1)))), none⟩]
abbrev r83_9 : List CO := [
  ⟨some 38, .mv (.t 6), none⟩,
  ⟨some 39, .bin .and (.t 38) (.c (.p (.s (.int .u8 7)))), none⟩,
  ⟨some 40, .toInt .i64 (.t 39), none⟩,
  ⟨some 8, .mv (.t 40), none⟩]
abbrev r83_10 : List CO := [
  ⟨some 41, .mv (.t 6), none⟩,
  ⟨some 42, .bin .shr (.t 41) (.c (.p (.s (.int .u64 4)))), none⟩,
  ⟨some 43, .iaddrA 2 16 (.g 3) (.t 42), none⟩,
  ⟨some 44, .load true 2 (.t 43), none⟩,
  ⟨some 9, .alloc ([.s (.int .u8 0), .s (.int .u8 0)]), none⟩,
  ⟨none, .store 2 (.t 9) (.t 44), none⟩]
abbrev r83_11 : List CO := [
  ⟨some 45, .mv (.t 4), none⟩,
  ⟨some 46, .mv (.t 8), none⟩,
  ⟨some 47, .bin .lss (.t 45) (.t 46), none⟩]
abbrev r83_12 : List CO := [
  ⟨some 2, .mv (.c (.p (.s (.int .i32 65533)))), none⟩,
  ⟨some 3, .mv (.c (.p (.s (.int .i64 1)))), none⟩]
abbrev r83_13 : List CO := [
  ⟨some 48, .mv (.t 0), none⟩,
  ⟨some 49, .iaddrS 1 (.t 48) (.c (.p (.s (.int .i64 1)))), none⟩,
  ⟨some 50, .load false 1 (.t 49), none⟩,
  ⟨some 10, .mv (.t 50), none⟩]
abbrev r83_14 : List CO := [
  ⟨some 51, .mv (.t 10), none⟩,
  ⟨some 52, .faddr 0 (.t 9), none⟩,
  ⟨some 53, .load false 1 (.t 52), none⟩,
  ⟨some 54, .bin .lss (.t 51) (.t 53), none⟩,
  ⟨some 55, .mv (.t 54), none⟩,
  ⟨some 56, .faddr 1 (.t 9), some (55, false)⟩,
  ⟨some 57, .load false 1 (.t 56), some (55, false)⟩,
  ⟨some 58, .mv (.t 10), some (55, false)⟩,
  ⟨some 59, .bin .lss (.t 57) (.t 58), some (55, false)⟩,
  ⟨some 60, .pick (.t 55) (.c (.p (.s (.bool true)))) (.t 59), none⟩]
abbrev r83_15 : List CO := [
  ⟨some 2, .mv (.c (.p (.s (.int .i32 65533)))), none⟩,
  ⟨some 3, .mv (.c (.p (.s (.int .i64 1)))), none⟩]
abbrev r83_16 : List CO := [
  ⟨some 61, .mv (.t 8), none⟩,
  ⟨some 62, .bin .leq (.t 61) (.c (.p (.s (.int .i64 2)))), none⟩]
abbrev r83_17 : List CO := [
  ⟨some 63, .mv (.t 5), none⟩,
  ⟨some 64, .bin .and (.t 63) (.c (.p (.s (.int .u8 31)))), none⟩,
  ⟨some 65, .toInt .i32 (.t 64), none⟩,
  ⟨some 66, .bin .shl (.t 65) (.c (.p (.s (.int .u64 6)))), none⟩,
  ⟨some 67, .mv (.t 10), none⟩,
  ⟨some 68, .bin .and (.t 67) (.c (.p (.s (.int .u8 63)))), none⟩,
  ⟨some 69, .toInt .i32 (.t 68), none⟩,
  ⟨some 70, .bin .or (.t 66) (.t 69), none⟩,
  ⟨some 2, .mv (.t 70), none⟩,
  ⟨some 3, .mv (.c (.p (.s (.int .i64 2)))), none⟩]
abbrev r83_18 : List CO := [
  ⟨some 71, .mv (.t 0), none⟩,
  ⟨some 72, .iaddrS 1 (.t 71) (.c (.p (.s (.int .i64 2)))), none⟩,
  ⟨some 73, .load false 1 (.t 72), none⟩,
  ⟨some 11, .mv (.t 73), none⟩]
abbrev r83_19 : List CO := [
  ⟨some 74, .mv (.t 11), none⟩,
  ⟨some 75, .bin .lss (.t 74) (.c (.p (.s (.int .u8 128)))), none⟩,
  ⟨some 76, .mv (.t 75), none⟩,
  ⟨some 77, .mv (.t 11), some (76, false)⟩,
  ⟨some 78, .bin .lss (.c (.p (.s (.int .u8 191)))) (.t 77), some (76, false)⟩,
  ⟨some 79, .pick (.t 76) (.c (.p (.s (.bool true)))) (.t 78), none⟩]
abbrev r83_20 : List CO := [
  ⟨some 2, .mv (.c (.p (.s (.int .i32 65533)))), none⟩,
  ⟨some 3, .mv (.c (.p (.s (.int .i64 1)))), none⟩]
abbrev r83_21 : List CO := [
  ⟨some 80, .mv (.t 8), none⟩,
  ⟨some 81, .bin .leq (.t 80) (.c (.p (.s (.int .i64 3)))), none⟩]
abbrev r83_22 : List CO := [
  ⟨some 82, .mv (.t 5), none⟩,
  ⟨some 83, .bin .and (.t 82) (.c (.p (.s (.int .u8 15)))), none⟩,
  ⟨some 84, .toInt .i32 (.t 83), none⟩,
  ⟨some 85, .bin .shl (.t 84) (.c (.p (.s (.int .u64 12)))), none⟩,
  ⟨some 86, .mv (.t 10), none⟩,
  ⟨some 87, .bin .and (.t 86) (.c (.p (.s (.int .u8 63)))), none⟩,
  ⟨some 88, .toInt .i32 (.t 87), none⟩,
  ⟨some 89, .bin .shl (.t 88) (.c (.p (.s (.int .u64 6)))), none⟩,
  ⟨some 90, .bin .or (.t 85) (.t 89), none⟩,
  ⟨some 91, .mv (.t 11), none⟩,
  ⟨some 92, .bin .and (.t 91) (.c (.p (.s (.int .u8 63)))), none⟩,
  ⟨some 93, .toInt .i32 (.t 92), none⟩,
  ⟨some 94, .bin .or (.t 90) (.t 93), none⟩,
  ⟨some 2, .mv (.t 94), none⟩,
  ⟨some 3, .mv (.c (.p (.s (.int .i64 3)))), none⟩]
abbrev r83_23 : List CO := [
  ⟨some 95, .mv (.t 0), none⟩,
  ⟨some 96, .iaddrS 1 (.t 95) (.c (.p (.s (.int .i64 3)))), none⟩,
  ⟨some 97, .load false 1 (.t 96), none⟩,
  ⟨some 12, .mv (.t 97), none⟩]
abbrev r83_24 : List CO := [
  ⟨some 98, .mv (.t 12), none⟩,
  ⟨some 99, .bin .lss (.t 98) (.c (.p (.s (.int .u8 128)))), none⟩,
  ⟨some 100, .mv (.t 99), none⟩,
  ⟨some 101, .mv (.t 12), some (100, false)⟩,
  ⟨some 102, .bin .lss (.c (.p (.s (.int .u8 191)))) (.t 101), some (100, false)⟩,
  ⟨some 103, .pick (.t 100) (.c (.p (.s (.bool true)))) (.t 102), none⟩]
abbrev r83_25 : List CO := [
  ⟨some 2, .mv (.c (.p (.s (.int .i32 65533)))), none⟩,
  ⟨some 3, .mv (.c (.p (.s (.int .i64 1)))), none⟩]
abbrev r83_26 : List CO := [
  ⟨some 104, .mv (.t 5), none⟩,
  ⟨some 105, .bin .and (.t 104) (.c (.p (.s (.int .u8 7)))), none⟩,
  ⟨some 106, .toInt .i32 (.t 105), none⟩,
  ⟨some 107, .bin .shl (.t 106) (.c (.p (.s (.int .u64 18)))), none⟩,
  ⟨some 108, .mv (.t 10), none⟩,
  ⟨some 109, .bin .and (.t 108) (.c (.p (.s (.int .u8 63)))), none⟩,
  ⟨some 110, .toInt .i32 (.t 109), none⟩,
  ⟨some 111, .bin .shl (.t 110) (.c (.p (.s (.int .u64 12)))), none⟩,
  ⟨some 112, .bin .or (.t 107) (.t 111), none⟩,
  ⟨some 113, .mv (.t 11), none⟩,
  ⟨some 114, .bin .and (.t 113) (.c (.p (.s (.int .u8 63)))), none⟩,
  ⟨some 115, .toInt .i32 (.t 114), none⟩,
  ⟨some 116, .bin .shl (.t 115) (.c (.p (.s (.int .u64 6)))), none⟩,
  ⟨some 117, .bin .or (.t 112) (.t 116), none⟩,
  ⟨some 118, .mv (.t 12), none⟩,
  ⟨some 119, .bin .and (.t 118) (.c (.p (.s (.int .u8 63)))), none⟩,
  ⟨some 120, .toInt .i32 (.t 119), none⟩,
  ⟨some 121, .bin .or (.t 117) (.t 120), none⟩,
  ⟨some 2, .mv (.t 121), none⟩,
  ⟨some 3, .mv (.c (.p (.s (.int .i64 4)))), none⟩]
abbrev c83 : CC := .seq (.reg r83_0) (.seq (.reg r83_1) (.seq (.seq (.reg r83_2) (.cond (.t 16) (.seq (.reg r83_3) (.ret)) (.skip))) (.rest [0, 4] (.seq (.reg r83_4) (.rest [0, 4, 5] (.seq (.reg r83_5) (.rest [0, 4, 5, 6] (.seq (.seq (.reg r83_6) (.cond (.t 24) (.seq (.reg r83_7) (.rest [0, 7] (.seq (.reg r83_8) (.rest [2, 3] (.ret))))) (.skip))) (.rest [0, 4, 5, 6] (.seq (.reg r83_9) (.rest [0, 4, 5, 6, 8] (.seq (.reg r83_10) (.rest [0, 4, 5, 8, 9] (.seq (.seq (.reg r83_11) (.cond (.t 47) (.seq (.reg r83_12) (.ret)) (.skip))) (.rest [0, 5, 8, 9] (.seq (.reg r83_13) (.rest [0, 5, 8, 9, 10] (.seq (.seq (.reg r83_14) (.rest [0, 5, 8, 10, 60] (.cond (.t 60) (.seq (.reg r83_15) (.ret)) (.skip)))) (.rest [0, 5, 8, 10] (.seq (.seq (.reg r83_16) (.cond (.t 62) (.seq (.reg r83_17) (.rest [2, 3] (.ret))) (.skip))) (.rest [0, 5, 8, 10] (.seq (.reg r83_18) (.rest [0, 5, 8, 10, 11] (.seq (.seq (.reg r83_19) (.rest [0, 5, 8, 10, 11, 79] (.cond (.t 79) (.seq (.reg r83_20) (.ret)) (.skip)))) (.rest [0, 5, 8, 10, 11] (.seq (.seq (.reg r83_21) (.cond (.t 81) (.seq (.reg r83_22) (.rest [2, 3] (.ret))) (.skip))) (.rest [0, 5, 10, 11] (.seq (.reg r83_23) (.rest [5, 10, 11, 12] (.seq (.seq (.reg r83_24) (.rest [5, 10, 11, 12, 103] (.cond (.t 103) (.seq (.reg r83_25) (.ret)) (.skip)))) (.rest [5, 10, 11, 12] (.seq (.reg r83_26) (.rest [2, 3] (.ret))))))))))))))))))))))))))))))))))
theorem F83 : Fun Tryd.prog 83 122 c83 [.tmp 2, .tmp 3] 1 := ⟨⟨Tryd.f83, _, Tryd.func83, rfl, by kernel_rfl, Tryd.ntmps83, by kernel_rfl, by kernel_rfl⟩, by decide⟩

end Go.Proofs.YtkeidnhfahfiiaaDoor
