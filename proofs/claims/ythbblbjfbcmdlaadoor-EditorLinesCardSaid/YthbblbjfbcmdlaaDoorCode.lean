/- Code of functions of the given program in compact form, printed by a program of this repository (wip/tools/gen.py) out of what Lean prints of the loaded functions; each is checked by the kernel. -/
import Derived.Test.YthbblbjfbcmdlaaDoorZ3
import Derived.Test.YthbblbjfbcmdlaaDoorZ3
import Derived.Test.YthbblbjfbcmdlaaDoorProg
import Derived.KernelRfl
namespace Go.Proofs.YthbblbjfbcmdlaaDoor
open Go Go.Shade

/-- linnet/linnetlaw13.EditorGoes -/
abbrev r3_0 : List CO := [
  ⟨some 3, .box (.t 0), none⟩,
  ⟨some 6, .mv (.c (.p (.s (.bool false)))), none⟩]
abbrev r3_1 : List CO := [
  ⟨some 17, .faddr 63 (.t 3), none⟩,
  ⟨some 18, .load true 4 (.t 17), none⟩,
  ⟨some 19, .call (.c (.fn (.func 9) [] [])) [.t 18], none⟩,
  ⟨some 20, .mv (.t 1), none⟩,
  ⟨some 21, .call (.c (.fn (.func 10) [] [])) [.t 20], none⟩,
  ⟨some 22, .mv (.t 2), none⟩,
  ⟨some 23, .call (.c (.fn (.func 10) [] [])) [.t 22], none⟩,
  ⟨some 7, .alloc ([.s (.slice none 0 0), .s (.int .i64 0), .s (.bool false), .s (.bool false)]), none⟩,
  ⟨none, .store 4 (.t 7) (.t 19), none⟩,
  ⟨some 1, .mv (.t 21), none⟩,
  ⟨some 2, .mv (.t 23), none⟩]
abbrev r3_2 : List CO := [
  ⟨some 25, .faddr 0 (.t 3), none⟩,
  ⟨some 26, .load true 62 (.t 25), none⟩,
  ⟨some 27, .faddr 62 (.t 3), none⟩,
  ⟨some 28, .load false 1 (.t 27), none⟩,
  ⟨some 29, .load true 4 (.t 7), none⟩,
  ⟨some 30, .bslice 1 0 ([.s (.int .u8 0)]) [], none⟩,
  ⟨some 31, .mv (.t 1), none⟩,
  ⟨some 32, .append 1 1 ([.s (.int .u8 0)]) (.t 30) (.t 31), none⟩,
  ⟨some 33, .mv (.t 2), none⟩,
  ⟨some 34, .append 1 1 ([.s (.int .u8 0)]) (.t 32) (.t 33), none⟩,
  ⟨some 35, .call (.c (.fn (.func 11) [] [])) [.t 26, .t 28, .t 29, .t 34], none⟩,
  ⟨some 24, .mv (.t 35), none⟩,
  ⟨some 36, .extract 0 (.t 24), none⟩,
  ⟨some 37, .extract 1 (.t 24), none⟩,
  ⟨some 38, .extract 2 (.t 24), none⟩,
  ⟨some 8, .alloc ([.s (.slice none 0 0), .s (.int .i64 0), .s (.bool false), .s (.bool false)]), none⟩,
  ⟨none, .store 4 (.t 8) (.t 36), none⟩,
  ⟨some 9, .mv (.t 37), none⟩,
  ⟨some 10, .mv (.t 38), none⟩]
abbrev b3_2 : List (List Nat) := [[], [0], [], [2], [], [], [], [5, 6], [], [7, 8, 7], [1, 3, 4, 9, 9], [10], [11], [11], [11], [], [15, 12, 10, 0, 1, 2, 3, 4, 5, 6, 7, 8, 9, 10, 11, 12, 15], [13, 16, 0, 1, 2, 3, 4, 5, 6, 7, 8, 9, 10, 11, 12, 13, 15, 16], [14, 17, 0, 1, 2, 3, 4, 5, 6, 7, 8, 9, 10, 11, 12, 13, 14, 15, 16, 17]]
abbrev r3_3 : List CO := [
  ⟨some 40, .faddr 0 (.t 3), none⟩,
  ⟨some 41, .load true 62 (.t 40), none⟩,
  ⟨some 42, .faddr 62 (.t 3), none⟩,
  ⟨some 43, .load false 1 (.t 42), none⟩,
  ⟨some 44, .load true 4 (.t 7), none⟩,
  ⟨some 45, .mv (.t 1), none⟩,
  ⟨some 46, .call (.c (.fn (.func 11) [] [])) [.t 41, .t 43, .t 44, .t 45], none⟩,
  ⟨some 39, .mv (.t 46), none⟩,
  ⟨some 47, .extract 0 (.t 39), none⟩,
  ⟨some 48, .extract 1 (.t 39), none⟩,
  ⟨some 49, .extract 2 (.t 39), none⟩,
  ⟨some 11, .alloc ([.s (.slice none 0 0), .s (.int .i64 0), .s (.bool false), .s (.bool false)]), none⟩,
  ⟨none, .store 4 (.t 11) (.t 47), none⟩,
  ⟨some 12, .mv (.t 48), none⟩,
  ⟨some 13, .mv (.t 49), none⟩]
abbrev r3_4 : List CO := [
  ⟨some 51, .faddr 0 (.t 3), none⟩,
  ⟨some 52, .load true 62 (.t 51), none⟩,
  ⟨some 53, .faddr 62 (.t 3), none⟩,
  ⟨some 54, .load false 1 (.t 53), none⟩,
  ⟨some 55, .load true 4 (.t 11), none⟩,
  ⟨some 56, .mv (.t 2), none⟩,
  ⟨some 57, .call (.c (.fn (.func 11) [] [])) [.t 52, .t 54, .t 55, .t 56], none⟩,
  ⟨some 50, .mv (.t 57), none⟩,
  ⟨some 58, .extract 0 (.t 50), none⟩,
  ⟨some 59, .extract 1 (.t 50), none⟩,
  ⟨some 60, .extract 2 (.t 50), none⟩,
  ⟨some 14, .alloc ([.s (.slice none 0 0), .s (.int .i64 0), .s (.bool false), .s (.bool false)]), none⟩,
  ⟨none, .store 4 (.t 14) (.t 58), none⟩,
  ⟨some 15, .mv (.t 59), none⟩,
  ⟨some 16, .mv (.t 60), none⟩]
abbrev r3_5 : List CO := [
  ⟨some 61, .load true 4 (.t 8), none⟩,
  ⟨some 62, .load true 4 (.t 14), none⟩,
  ⟨some 63, .call (.c (.fn (.func 12) [] [])) [.t 61, .t 62], none⟩,
  ⟨some 64, .mv (.t 63), none⟩,
  ⟨some 65, .mv (.t 9), some (64, true)⟩,
  ⟨some 66, .bslice 3 0 ([.s (.int .i64 0), .s (.int .i64 0), .s (.slice none 0 0)]) [], some (64, true)⟩,
  ⟨some 67, .mv (.t 12), some (64, true)⟩,
  ⟨some 68, .append 3 40 ([.s (.int .i64 0), .s (.int .i64 0), .s (.slice none 0 0)]) (.t 66) (.t 67), some (64, true)⟩,
  ⟨some 69, .mv (.t 15), some (64, true)⟩,
  ⟨some 70, .append 3 40 ([.s (.int .i64 0), .s (.int .i64 0), .s (.slice none 0 0)]) (.t 68) (.t 69), some (64, true)⟩,
  ⟨some 71, .call (.c (.fn (.func 13) [] [])) [.t 65, .t 70], some (64, true)⟩,
  ⟨some 72, .pick (.t 64) (.t 71) (.c (.p (.s (.bool false)))), none⟩,
  ⟨some 73, .mv (.t 72), none⟩,
  ⟨some 74, .mv (.t 10), some (73, true)⟩,
  ⟨some 75, .mv (.t 13), some (73, true)⟩,
  ⟨some 76, .mv (.t 16), some (73, true)⟩,
  ⟨some 77, .bin .add (.t 75) (.t 76), some (73, true)⟩,
  ⟨some 78, .bin .eql (.t 74) (.t 77), some (73, true)⟩,
  ⟨some 79, .pick (.t 73) (.t 78) (.c (.p (.s (.bool false)))), none⟩,
  ⟨some 80, .mv (.t 79), none⟩,
  ⟨some 81, .call (.c (.fn (.func 14) [] [])) [], some (80, true)⟩,
  ⟨some 82, .pick (.t 80) (.t 81) (.c (.p (.s (.bool false)))), none⟩,
  ⟨some 6, .mv (.t 82), none⟩]
abbrev c3 : CC := .seq (.reg r3_0) (.seq (.reg r3_1) (.rest [1, 2, 3, 7] (.seq (.regd r3_2 b3_2) (.rest [1, 2, 3, 7, 8, 9, 10] (.seq (.reg r3_3) (.rest [2, 3, 8, 9, 10, 11, 12, 13] (.seq (.reg r3_4) (.rest [8, 9, 10, 12, 13, 14, 15, 16] (.seq (.reg r3_5) (.rest [6] (.ret)))))))))))
theorem F3 : Fun Tryd.prog 3 83 c3 [.tmp 6] 3 := ⟨⟨Tryd.f3, _, Tryd.func3, rfl, by kernel_rfl, Tryd.ntmps3, by kernel_rfl, by kernel_rfl⟩, by decide⟩

/-- linnet/linnetlaw13.EditorOne -/
abbrev r4_0 : List CO := [
  ⟨some 2, .box (.t 0), none⟩,
  ⟨some 4, .mv (.c (.p (.s (.bool false)))), none⟩]
abbrev r4_1 : List CO := [
  ⟨some 9, .faddr 63 (.t 2), none⟩,
  ⟨some 10, .load true 4 (.t 9), none⟩,
  ⟨some 11, .call (.c (.fn (.func 9) [] [])) [.t 10], none⟩,
  ⟨some 5, .alloc ([.s (.slice none 0 0), .s (.int .i64 0), .s (.bool false), .s (.bool false)]), none⟩,
  ⟨none, .store 4 (.t 5) (.t 11), none⟩]
abbrev r4_2 : List CO := [
  ⟨some 13, .faddr 0 (.t 2), none⟩,
  ⟨some 14, .load true 62 (.t 13), none⟩,
  ⟨some 15, .faddr 62 (.t 2), none⟩,
  ⟨some 16, .load false 1 (.t 15), none⟩,
  ⟨some 17, .load true 4 (.t 5), none⟩,
  ⟨some 18, .mv (.t 1), none⟩,
  ⟨some 19, .call (.c (.fn (.func 15) [] [])) [.t 14, .t 16, .t 17, .t 18], none⟩,
  ⟨some 12, .mv (.t 19), none⟩,
  ⟨some 20, .extract 0 (.t 12), none⟩,
  ⟨some 21, .extract 1 (.t 12), none⟩,
  ⟨some 22, .extract 2 (.t 12), none⟩,
  ⟨some 6, .alloc ([.s (.slice none 0 0), .s (.int .i64 0), .s (.bool false), .s (.bool false)]), none⟩,
  ⟨none, .store 4 (.t 6) (.t 20), none⟩,
  ⟨some 7, .mv (.t 21), none⟩,
  ⟨some 8, .mv (.t 22), none⟩]
abbrev r4_3 : List CO := [
  ⟨some 23, .load true 4 (.t 5), none⟩,
  ⟨some 24, .call (.c (.fn (.func 16) [] [])) [.t 23], none⟩,
  ⟨some 25, .bin .neq (.t 24) (.c (.p (.s (.int .i64 0)))), none⟩]
abbrev r4_4 : List CO := [
  ⟨some 26, .load true 4 (.t 6), none⟩,
  ⟨some 27, .load true 4 (.t 5), none⟩,
  ⟨some 28, .call (.c (.fn (.func 12) [] [])) [.t 26, .t 27], none⟩,
  ⟨some 29, .mv (.t 28), none⟩,
  ⟨some 30, .mv (.t 7), some (29, true)⟩,
  ⟨some 31, .len (.t 30), some (29, true)⟩,
  ⟨some 32, .bin .eql (.t 31) (.c (.p (.s (.int .i64 0)))), some (29, true)⟩,
  ⟨some 33, .pick (.t 29) (.t 32) (.c (.p (.s (.bool false)))), none⟩,
  ⟨some 34, .mv (.t 33), none⟩,
  ⟨some 35, .mv (.t 8), some (34, true)⟩,
  ⟨some 36, .un .not (.t 35), some (34, true)⟩,
  ⟨some 37, .pick (.t 34) (.t 36) (.c (.p (.s (.bool false)))), none⟩,
  ⟨some 38, .mv (.t 37), none⟩,
  ⟨some 39, .call (.c (.fn (.func 14) [] [])) [], some (38, true)⟩,
  ⟨some 40, .pick (.t 38) (.t 39) (.c (.p (.s (.bool false)))), none⟩,
  ⟨some 4, .mv (.t 40), none⟩]
abbrev r4_5 : List CO := [
  ⟨some 41, .load true 4 (.t 6), none⟩,
  ⟨some 42, .call (.c (.fn (.func 16) [] [])) [.t 41], none⟩,
  ⟨some 43, .bin .neq (.t 42) (.c (.p (.s (.int .i64 0)))), none⟩,
  ⟨some 44, .mv (.t 43), none⟩,
  ⟨some 45, .mv (.t 7), some (44, false)⟩,
  ⟨some 46, .len (.t 45), some (44, false)⟩,
  ⟨some 47, .bin .gtr (.t 46) (.c (.p (.s (.int .i64 1)))), some (44, false)⟩,
  ⟨some 48, .pick (.t 44) (.c (.p (.s (.bool true)))) (.t 47), none⟩,
  ⟨some 49, .mv (.t 48), none⟩,
  ⟨some 50, .mv (.t 8), some (49, false)⟩,
  ⟨some 51, .mv (.t 50), some (49, false)⟩,
  ⟨some 52, .mv (.t 7), some (51, true)⟩,
  ⟨some 53, .len (.t 52), some (51, true)⟩,
  ⟨some 54, .bin .gtr (.t 53) (.c (.p (.s (.int .i64 0)))), some (51, true)⟩,
  ⟨some 55, .pick (.t 51) (.t 54) (.c (.p (.s (.bool false)))), some (49, false)⟩,
  ⟨some 56, .pick (.t 49) (.c (.p (.s (.bool true)))) (.t 55), none⟩,
  ⟨some 57, .mv (.t 56), none⟩,
  ⟨some 58, .faddr 0 (.t 6), some (57, false)⟩,
  ⟨some 59, .faddr 0 (.t 58), some (57, false)⟩,
  ⟨some 60, .load false 1 (.t 59), some (57, false)⟩,
  ⟨some 61, .len (.t 60), some (57, false)⟩,
  ⟨some 62, .faddr 0 (.t 5), some (57, false)⟩,
  ⟨some 63, .faddr 0 (.t 62), some (57, false)⟩,
  ⟨some 64, .load false 1 (.t 63), some (57, false)⟩,
  ⟨some 65, .len (.t 64), some (57, false)⟩,
  ⟨some 66, .bin .gtr (.t 61) (.t 65), some (57, false)⟩,
  ⟨some 67, .mv (.t 66), some (57, false)⟩,
  ⟨some 68, .faddr 0 (.t 6), some (67, true)⟩,
  ⟨some 69, .faddr 0 (.t 68), some (67, true)⟩,
  ⟨some 70, .load false 1 (.t 69), some (67, true)⟩,
  ⟨some 71, .len (.t 70), some (67, true)⟩,
  ⟨some 72, .faddr 62 (.t 2), some (67, true)⟩,
  ⟨some 73, .load false 1 (.t 72), some (67, true)⟩,
  ⟨some 74, .bin .gtr (.t 71) (.t 73), some (67, true)⟩,
  ⟨some 75, .mv (.t 74), some (67, true)⟩,
  ⟨some 76, .faddr 0 (.t 6), some (75, false)⟩,
  ⟨some 77, .faddr 0 (.t 76), some (75, false)⟩,
  ⟨some 78, .load false 1 (.t 77), some (75, false)⟩,
  ⟨some 79, .len (.t 78), some (75, false)⟩,
  ⟨some 80, .faddr 0 (.t 5), some (75, false)⟩,
  ⟨some 81, .faddr 0 (.t 80), some (75, false)⟩,
  ⟨some 82, .load false 1 (.t 81), some (75, false)⟩,
  ⟨some 83, .len (.t 82), some (75, false)⟩,
  ⟨some 84, .bin .add (.t 83) (.c (.p (.s (.int .i64 1)))), some (75, false)⟩,
  ⟨some 85, .bin .neq (.t 79) (.t 84), some (75, false)⟩,
  ⟨some 86, .pick (.t 75) (.c (.p (.s (.bool true)))) (.t 85), some (67, true)⟩,
  ⟨some 87, .pick (.t 67) (.t 86) (.c (.p (.s (.bool false)))), some (57, false)⟩,
  ⟨some 88, .pick (.t 57) (.c (.p (.s (.bool true)))) (.t 87), none⟩]
abbrev r4_6 : List CO := [
  ⟨some 4, .mv (.c (.p (.s (.bool false)))), none⟩]
abbrev r4_7 : List CO := [
  ⟨some 89, .mv (.t 7), none⟩,
  ⟨some 90, .len (.t 89), none⟩,
  ⟨some 91, .bin .eql (.t 90) (.c (.p (.s (.int .i64 1)))), none⟩,
  ⟨some 92, .mv (.t 91), none⟩,
  ⟨some 93, .mv (.t 7), some (92, true)⟩,
  ⟨some 94, .iaddrS 3 (.t 93) (.c (.p (.s (.int .i64 0)))), some (92, true)⟩,
  ⟨some 95, .faddr 0 (.t 94), some (92, true)⟩,
  ⟨some 96, .load false 1 (.t 95), some (92, true)⟩,
  ⟨some 97, .bin .neq (.t 96) (.c (.p (.s (.int .i64 3)))), some (92, true)⟩,
  ⟨some 98, .pick (.t 92) (.t 97) (.c (.p (.s (.bool false)))), none⟩,
  ⟨some 99, .mv (.t 98), none⟩,
  ⟨some 100, .load true 4 (.t 6), some (99, true)⟩,
  ⟨some 101, .build ([.s (.slice none 0 0), .s (.int .i64 0), .s (.bool false), .s (.bool false)]) [], some (99, true)⟩,
  ⟨some 102, .call (.c (.fn (.func 12) [] [])) [.t 100, .t 101], some (99, true)⟩,
  ⟨some 103, .un .not (.t 102), some (99, true)⟩,
  ⟨some 104, .pick (.t 99) (.t 103) (.c (.p (.s (.bool false)))), none⟩]
abbrev r4_8 : List CO := [
  ⟨some 4, .mv (.c (.p (.s (.bool false)))), none⟩]
abbrev r4_9 : List CO := [
  ⟨some 105, .mv (.t 8), none⟩]
abbrev r4_10 : List CO := [
  ⟨some 106, .faddr 3 (.t 5), none⟩,
  ⟨none, .store 1 (.t 106) (.c (.p (.s (.bool false)))), none⟩]
abbrev r4_11 : List CO := [
  ⟨some 107, .load true 4 (.t 6), none⟩,
  ⟨some 108, .load true 4 (.t 5), none⟩,
  ⟨some 109, .call (.c (.fn (.func 12) [] [])) [.t 107, .t 108], none⟩,
  ⟨some 110, .mv (.t 109), none⟩,
  ⟨some 111, .call (.c (.fn (.func 14) [] [])) [], some (110, true)⟩,
  ⟨some 112, .pick (.t 110) (.t 111) (.c (.p (.s (.bool false)))), none⟩,
  ⟨some 4, .mv (.t 112), none⟩]
abbrev r4_12 : List CO := [
  ⟨some 113, .call (.c (.fn (.func 14) [] [])) [], none⟩,
  ⟨some 4, .mv (.t 113), none⟩]
abbrev c4 : CC := .seq (.reg r4_0) (.seq (.reg r4_1) (.rest [1, 2, 5] (.seq (.reg r4_2) (.rest [2, 5, 6, 7, 8] (.seq (.seq (.reg r4_3) (.cond (.t 25) (.seq (.reg r4_4) (.rest [4] (.ret))) (.skip))) (.rest [2, 5, 6, 7, 8] (.seq (.seq (.reg r4_5) (.rest [5, 6, 7, 8, 88] (.cond (.t 88) (.seq (.reg r4_6) (.ret)) (.skip)))) (.rest [5, 6, 7, 8] (.seq (.seq (.reg r4_7) (.rest [5, 6, 8, 104] (.cond (.t 104) (.seq (.reg r4_8) (.ret)) (.skip)))) (.rest [5, 6, 8] (.seq (.seq (.reg r4_9) (.cond (.t 105) (.seq (.reg r4_10) (.seq (.reg r4_11) (.rest [4] (.ret)))) (.skip))) (.rest [] (.seq (.reg r4_12) (.ret))))))))))))))
theorem F4 : Fun Tryd.prog 4 114 c4 [.tmp 4] 2 := ⟨⟨Tryd.f4, _, Tryd.func4, rfl, by kernel_rfl, Tryd.ntmps4, by kernel_rfl, by kernel_rfl⟩, by decide⟩

/-- linnet/linnetlaw13.EditorLit -/
abbrev r5_0 : List CO := [
  ⟨some 2, .box (.t 0), none⟩,
  ⟨some 4, .mv (.c (.p (.s (.bool false)))), none⟩]
abbrev r5_1 : List CO := [
  ⟨some 16, .faddr 63 (.t 2), none⟩,
  ⟨some 17, .load true 4 (.t 16), none⟩,
  ⟨some 18, .call (.c (.fn (.func 9) [] [])) [.t 17], none⟩,
  ⟨some 5, .alloc ([.s (.slice none 0 0), .s (.int .i64 0), .s (.bool false), .s (.bool false)]), none⟩,
  ⟨none, .store 4 (.t 5) (.t 18), none⟩]
abbrev r5_2 : List CO := [
  ⟨some 19, .load true 4 (.t 5), none⟩,
  ⟨some 20, .call (.c (.fn (.func 16) [] [])) [.t 19], none⟩,
  ⟨some 21, .bin .neq (.t 20) (.c (.p (.s (.int .i64 0)))), none⟩]
abbrev r5_3 : List CO := [
  ⟨some 22, .call (.c (.fn (.func 14) [] [])) [], none⟩,
  ⟨some 4, .mv (.t 22), none⟩]
abbrev r5_4 : List CO := [
  ⟨some 23, .load true 4 (.t 5), none⟩,
  ⟨some 24, .load true 4 (.t 5), none⟩,
  ⟨some 6, .alloc ([.s (.slice none 0 0), .s (.int .i64 0), .s (.bool false), .s (.bool false)]), none⟩,
  ⟨some 7, .alloc ([.s (.slice none 0 0), .s (.int .i64 0), .s (.bool false), .s (.bool false)]), none⟩,
  ⟨none, .store 4 (.t 6) (.t 23), none⟩,
  ⟨none, .store 4 (.t 7) (.t 24), none⟩]
abbrev b5_4 : List (List Nat) := [[], [], [], [], [2, 0, 0, 2, 3], [3, 1, 4, 0, 1, 2, 3, 4]]
abbrev r5_5 : List CO := [
  ⟨some 25, .faddr 3 (.t 6), none⟩,
  ⟨none, .store 1 (.t 25) (.c (.p (.s (.bool true)))), none⟩,
  ⟨some 26, .faddr 3 (.t 7), none⟩,
  ⟨none, .store 1 (.t 26) (.c (.p (.s (.bool false)))), none⟩]
abbrev r5_6 : List CO := [
  ⟨some 28, .faddr 0 (.t 2), none⟩,
  ⟨some 29, .load true 62 (.t 28), none⟩,
  ⟨some 30, .faddr 62 (.t 2), none⟩,
  ⟨some 31, .load false 1 (.t 30), none⟩,
  ⟨some 32, .load true 4 (.t 6), none⟩,
  ⟨some 33, .mv (.t 1), none⟩,
  ⟨some 34, .call (.c (.fn (.func 15) [] [])) [.t 29, .t 31, .t 32, .t 33], none⟩,
  ⟨some 27, .mv (.t 34), none⟩,
  ⟨some 35, .extract 0 (.t 27), none⟩,
  ⟨some 36, .extract 1 (.t 27), none⟩,
  ⟨some 37, .extract 2 (.t 27), none⟩,
  ⟨some 8, .alloc ([.s (.slice none 0 0), .s (.int .i64 0), .s (.bool false), .s (.bool false)]), none⟩,
  ⟨none, .store 4 (.t 8) (.t 35), none⟩,
  ⟨some 9, .mv (.t 36), none⟩,
  ⟨some 10, .mv (.t 37), none⟩]
abbrev r5_7 : List CO := [
  ⟨some 39, .faddr 0 (.t 5), none⟩,
  ⟨some 40, .load true 2 (.t 39), none⟩,
  ⟨some 41, .faddr 62 (.t 2), none⟩,
  ⟨some 42, .load false 1 (.t 41), none⟩,
  ⟨some 43, .faddr 2 (.t 5), none⟩,
  ⟨some 44, .load false 1 (.t 43), none⟩,
  ⟨some 45, .mv (.t 1), none⟩,
  ⟨some 46, .call (.c (.fn (.func 17) [] [])) [.t 40, .t 42, .t 44, .t 45], none⟩,
  ⟨some 38, .mv (.t 46), none⟩,
  ⟨some 47, .extract 0 (.t 38), none⟩,
  ⟨some 48, .extract 1 (.t 38), none⟩,
  ⟨some 11, .alloc ([.s (.slice none 0 0), .s (.int .i64 0)]), none⟩,
  ⟨none, .store 2 (.t 11) (.t 47), none⟩,
  ⟨some 12, .mv (.t 48), none⟩]
abbrev r5_8 : List CO := [
  ⟨some 49, .mv (.t 9), none⟩,
  ⟨some 50, .len (.t 49), none⟩,
  ⟨some 51, .bin .neq (.t 50) (.c (.p (.s (.int .i64 0)))), none⟩,
  ⟨some 52, .mv (.t 51), none⟩,
  ⟨some 53, .mv (.t 10), some (52, false)⟩,
  ⟨some 54, .mv (.t 12), some (52, false)⟩,
  ⟨some 55, .beq false (.t 53) (.t 54), some (52, false)⟩,
  ⟨some 56, .pick (.t 52) (.c (.p (.s (.bool true)))) (.t 55), none⟩,
  ⟨some 57, .mv (.t 56), none⟩,
  ⟨some 58, .faddr 0 (.t 8), some (57, false)⟩,
  ⟨some 59, .load true 2 (.t 58), some (57, false)⟩,
  ⟨some 60, .load true 2 (.t 11), some (57, false)⟩,
  ⟨some 61, .call (.c (.fn (.func 18) [] [])) [.t 59, .t 60], some (57, false)⟩,
  ⟨some 62, .un .not (.t 61), some (57, false)⟩,
  ⟨some 63, .pick (.t 57) (.c (.p (.s (.bool true)))) (.t 62), none⟩,
  ⟨some 64, .mv (.t 63), none⟩,
  ⟨some 65, .faddr 3 (.t 8), some (64, false)⟩,
  ⟨some 66, .load false 1 (.t 65), some (64, false)⟩,
  ⟨some 67, .pick (.t 64) (.c (.p (.s (.bool true)))) (.t 66), none⟩,
  ⟨some 68, .mv (.t 67), none⟩,
  ⟨some 69, .faddr 2 (.t 8), some (68, false)⟩,
  ⟨some 70, .load false 1 (.t 69), some (68, false)⟩,
  ⟨some 71, .faddr 2 (.t 5), some (68, false)⟩,
  ⟨some 72, .load false 1 (.t 71), some (68, false)⟩,
  ⟨some 73, .beq true (.t 70) (.t 72), some (68, false)⟩,
  ⟨some 74, .pick (.t 68) (.c (.p (.s (.bool true)))) (.t 73), none⟩]
abbrev r5_9 : List CO := [
  ⟨some 4, .mv (.c (.p (.s (.bool false)))), none⟩]
abbrev r5_10 : List CO := [
  ⟨some 75, .faddr 0 (.t 2), none⟩,
  ⟨some 76, .load true 62 (.t 75), none⟩,
  ⟨some 77, .mv (.t 1), none⟩,
  ⟨some 78, .call (.c (.fn (.func 19) [] [])) [.t 76, .t 77], none⟩,
  ⟨some 79, .bin .neq (.t 78) (.c (.p (.s (.int .i64 0)))), none⟩]
abbrev r5_11 : List CO := [
  ⟨some 80, .call (.c (.fn (.func 14) [] [])) [], none⟩,
  ⟨some 4, .mv (.t 80), none⟩]
abbrev r5_12 : List CO := [
  ⟨some 82, .faddr 0 (.t 2), none⟩,
  ⟨some 83, .load true 62 (.t 82), none⟩,
  ⟨some 84, .faddr 62 (.t 2), none⟩,
  ⟨some 85, .load false 1 (.t 84), none⟩,
  ⟨some 86, .load true 4 (.t 7), none⟩,
  ⟨some 87, .mv (.t 1), none⟩,
  ⟨some 88, .call (.c (.fn (.func 15) [] [])) [.t 83, .t 85, .t 86, .t 87], none⟩,
  ⟨some 81, .mv (.t 88), none⟩,
  ⟨some 89, .extract 0 (.t 81), none⟩,
  ⟨some 90, .extract 1 (.t 81), none⟩,
  ⟨some 91, .extract 2 (.t 81), none⟩,
  ⟨some 13, .alloc ([.s (.slice none 0 0), .s (.int .i64 0), .s (.bool false), .s (.bool false)]), none⟩,
  ⟨none, .store 4 (.t 13) (.t 89), none⟩,
  ⟨some 14, .mv (.t 90), none⟩,
  ⟨some 15, .mv (.t 91), none⟩]
abbrev r5_13 : List CO := [
  ⟨some 92, .load true 4 (.t 13), none⟩,
  ⟨some 93, .load true 4 (.t 8), none⟩,
  ⟨some 94, .call (.c (.fn (.func 12) [] [])) [.t 92, .t 93], none⟩,
  ⟨some 95, .mv (.t 94), none⟩,
  ⟨some 96, .mv (.t 14), some (95, true)⟩,
  ⟨some 97, .len (.t 96), some (95, true)⟩,
  ⟨some 98, .bin .eql (.t 97) (.c (.p (.s (.int .i64 0)))), some (95, true)⟩,
  ⟨some 99, .pick (.t 95) (.t 98) (.c (.p (.s (.bool false)))), none⟩,
  ⟨some 100, .mv (.t 99), none⟩,
  ⟨some 101, .mv (.t 15), some (100, true)⟩,
  ⟨some 102, .mv (.t 10), some (100, true)⟩,
  ⟨some 103, .beq false (.t 101) (.t 102), some (100, true)⟩,
  ⟨some 104, .pick (.t 100) (.t 103) (.c (.p (.s (.bool false)))), none⟩,
  ⟨some 105, .mv (.t 104), none⟩,
  ⟨some 106, .call (.c (.fn (.func 14) [] [])) [], some (105, true)⟩,
  ⟨some 107, .pick (.t 105) (.t 106) (.c (.p (.s (.bool false)))), none⟩,
  ⟨some 4, .mv (.t 107), none⟩]
abbrev c5 : CC := .seq (.reg r5_0) (.seq (.reg r5_1) (.rest [1, 2, 5] (.seq (.seq (.reg r5_2) (.cond (.t 21) (.seq (.reg r5_3) (.ret)) (.skip))) (.rest [1, 2, 5] (.seq (.regd r5_4 b5_4) (.rest [1, 2, 5, 6, 7] (.seq (.reg r5_5) (.rest [1, 2, 5, 6, 7] (.seq (.reg r5_6) (.rest [1, 2, 5, 7, 8, 9, 10] (.seq (.reg r5_7) (.rest [1, 2, 5, 7, 8, 9, 10, 11, 12] (.seq (.seq (.reg r5_8) (.rest [1, 2, 7, 8, 10, 74] (.cond (.t 74) (.seq (.reg r5_9) (.ret)) (.skip)))) (.rest [1, 2, 7, 8, 10] (.seq (.seq (.reg r5_10) (.rest [1, 2, 7, 8, 10, 79] (.cond (.t 79) (.seq (.reg r5_11) (.ret)) (.skip)))) (.rest [1, 2, 7, 8, 10] (.seq (.reg r5_12) (.rest [8, 10, 13, 14, 15] (.seq (.reg r5_13) (.rest [4] (.ret)))))))))))))))))))))
theorem F5 : Fun Tryd.prog 5 108 c5 [.tmp 4] 2 := ⟨⟨Tryd.f5, _, Tryd.func5, rfl, by kernel_rfl, Tryd.ntmps5, by kernel_rfl, by kernel_rfl⟩, by decide⟩

/-- linnet/linnetlaw13.EditorLines -/
abbrev r6_0 : List CO := [
  ⟨some 2, .box (.t 0), none⟩,
  ⟨some 4, .mv (.c (.p (.s (.bool false)))), none⟩]
abbrev r6_1 : List CO := [
  ⟨some 12, .mv (.t 1), none⟩,
  ⟨some 13, .call (.c (.fn (.func 10) [] [])) [.t 12], none⟩,
  ⟨some 1, .mv (.t 13), none⟩]
abbrev r6_2 : List CO := [
  ⟨some 5, .mv (.c (.p (.s (.slice none 0 0)))), none⟩]
abbrev r6_3 : List CO := [
  ⟨some 6, .mv (.c (.p (.s (.int .i64 0)))), none⟩]
abbrev r6_4 : List CO := [
  ⟨some 7, .mv (.c (.p (.s (.int .i64 0)))), none⟩]
abbrev r6_5 : List CO := [
  ⟨some 14, .mv (.t 7), none⟩,
  ⟨some 15, .mv (.t 1), none⟩,
  ⟨some 16, .len (.t 15), none⟩,
  ⟨some 17, .bin .lss (.t 14) (.t 16), none⟩]
abbrev r6_7 : List CO := [
  ⟨some 20, .load true 62 (.t 2), none⟩,
  ⟨some 21, .mv (.t 1), none⟩,
  ⟨some 22, .mv (.t 7), none⟩,
  ⟨some 23, .iaddrS 1 (.t 21) (.t 22), none⟩,
  ⟨some 24, .load false 1 (.t 23), none⟩,
  ⟨some 25, .call (.c (.fn (.func 19) [] [])) [.t 20, .t 24], none⟩,
  ⟨some 8, .mv (.t 25), none⟩]
abbrev b6_7 : List (List Nat) := [[], [], [], [1, 2], [3], [0, 4], [5, 5, 0, 1, 2, 3, 4, 5]]
abbrev r6_8 : List CO := [
  ⟨some 26, .mv (.t 8), none⟩,
  ⟨some 27, .bin .eql (.t 26) (.c (.p (.s (.int .i64 31)))), none⟩]
abbrev r6_9 : List CO := [
  ⟨some 28, .mv (.t 5), none⟩,
  ⟨some 29, .mv (.t 1), none⟩,
  ⟨some 30, .mv (.t 6), none⟩,
  ⟨some 31, .mv (.t 7), none⟩,
  ⟨some 32, .slice 1 (.t 29) (some (.t 30)) (some (.t 31)), none⟩,
  ⟨some 33, .build ([.s (.int .i64 0), .s (.int .i64 0), .s (.slice none 0 0)]) [(0, 1, .c (.p (.s (.int .i64 1)))), (2, 1, .t 32)], none⟩,
  ⟨some 34, .bslice 3 1 ([.s (.int .i64 0), .s (.int .i64 0), .s (.slice none 0 0)]) [(0, .t 33)], none⟩,
  ⟨some 35, .append 3 40 ([.s (.int .i64 0), .s (.int .i64 0), .s (.slice none 0 0)]) (.t 28) (.t 34), none⟩,
  ⟨some 5, .mv (.t 35), none⟩]
abbrev r6_10 : List CO := [
  ⟨some 36, .mv (.t 7), none⟩,
  ⟨some 37, .bin .add (.t 36) (.c (.p (.s (.int .i64 1)))), none⟩,
  ⟨some 6, .mv (.t 37), none⟩]
abbrev r6_11 : List CO := [
  ⟨some 38, .mv (.t 8), none⟩,
  ⟨some 39, .bin .neq (.t 38) (.c (.p (.s (.int .i64 0)))), none⟩]
abbrev r6_12 : List CO := [
  ⟨some 40, .call (.c (.fn (.func 14) [] [])) [], none⟩,
  ⟨some 4, .mv (.t 40), none⟩]
abbrev k6_1 : CC := .seq (.regd r6_7 b6_7) (.rest [1, 2, 5, 6, 7, 8] (.seq (.reg r6_8) (.cond (.t 27) (.seq (.reg r6_9) (.rest [1, 2, 5, 7] (.reg r6_10))) (.seq (.reg r6_11) (.cond (.t 39) (.seq (.reg r6_12) (.ret)) (.skip))))))
abbrev r6_6 : List CO := [
  ⟨some 18, .mv (.t 7), none⟩,
  ⟨some 19, .bin .add (.t 18) (.c (.p (.s (.int .i64 1)))), none⟩,
  ⟨some 7, .mv (.t 19), none⟩]
abbrev l6_15 : CC := .seq (.seq (.reg r6_5) (.rest [1, 2, 5, 6, 7, 17] (.cond (.t 17) (.skip) (.exit 0)))) (.rest [1, 2, 5, 6, 7] (.seq (.block 1 k6_1) (.rest [1, 2, 5, 6, 7] (.reg r6_6))))
abbrev k6_0 : CC := .loop l6_15
abbrev r6_13 : List CO := [
  ⟨some 42, .load true 62 (.t 2), none⟩,
  ⟨some 43, .build ([.s (.slice none 0 0), .s (.int .i64 0), .s (.bool false), .s (.bool false)]) [], none⟩,
  ⟨some 44, .mv (.t 1), none⟩,
  ⟨some 45, .call (.c (.fn (.func 11) [] [])) [.t 42, .c (.p (.s (.int .i64 4096))), .t 43, .t 44], none⟩,
  ⟨some 41, .mv (.t 45), none⟩,
  ⟨some 46, .extract 0 (.t 41), none⟩,
  ⟨some 47, .extract 1 (.t 41), none⟩,
  ⟨some 48, .extract 2 (.t 41), none⟩,
  ⟨some 9, .alloc ([.s (.slice none 0 0), .s (.int .i64 0), .s (.bool false), .s (.bool false)]), none⟩,
  ⟨none, .store 4 (.t 9) (.t 46), none⟩,
  ⟨some 10, .mv (.t 47), none⟩,
  ⟨some 11, .mv (.t 48), none⟩]
abbrev r6_14 : List CO := [
  ⟨some 49, .mv (.t 10), none⟩,
  ⟨some 50, .mv (.t 5), none⟩,
  ⟨some 51, .call (.c (.fn (.func 13) [] [])) [.t 49, .t 50], none⟩,
  ⟨some 52, .mv (.t 51), none⟩,
  ⟨some 53, .mv (.t 11), some (52, true)⟩,
  ⟨some 54, .bin .eql (.t 53) (.c (.p (.s (.int .i64 0)))), some (52, true)⟩,
  ⟨some 55, .pick (.t 52) (.t 54) (.c (.p (.s (.bool false)))), none⟩,
  ⟨some 56, .mv (.t 55), none⟩,
  ⟨some 57, .faddr 0 (.t 9), some (56, true)⟩,
  ⟨some 58, .faddr 0 (.t 57), some (56, true)⟩,
  ⟨some 59, .load false 1 (.t 58), some (56, true)⟩,
  ⟨some 60, .toStr (.t 59), some (56, true)⟩,
  ⟨some 61, .mv (.t 1), some (56, true)⟩,
  ⟨some 62, .mv (.t 6), some (56, true)⟩,
  ⟨some 63, .slice 1 (.t 61) (some (.t 62)) none, some (56, true)⟩,
  ⟨some 64, .toStr (.t 63), some (56, true)⟩,
  ⟨some 65, .bin .eql (.t 60) (.t 64), some (56, true)⟩,
  ⟨some 66, .pick (.t 56) (.t 65) (.c (.p (.s (.bool false)))), none⟩,
  ⟨some 67, .mv (.t 66), none⟩,
  ⟨some 68, .faddr 0 (.t 9), some (67, true)⟩,
  ⟨some 69, .faddr 1 (.t 68), some (67, true)⟩,
  ⟨some 70, .load false 1 (.t 69), some (67, true)⟩,
  ⟨some 71, .mv (.t 1), some (67, true)⟩,
  ⟨some 72, .len (.t 71), some (67, true)⟩,
  ⟨some 73, .mv (.t 6), some (67, true)⟩,
  ⟨some 74, .bin .sub (.t 72) (.t 73), some (67, true)⟩,
  ⟨some 75, .bin .eql (.t 70) (.t 74), some (67, true)⟩,
  ⟨some 76, .pick (.t 67) (.t 75) (.c (.p (.s (.bool false)))), none⟩,
  ⟨some 77, .mv (.t 76), none⟩,
  ⟨some 78, .call (.c (.fn (.func 14) [] [])) [], some (77, true)⟩,
  ⟨some 79, .pick (.t 77) (.t 78) (.c (.p (.s (.bool false)))), none⟩,
  ⟨some 4, .mv (.t 79), none⟩]
abbrev b6_14 : List (List Nat) := [[], [], [0, 1], [2, 2], [3], [4, 3], [3, 5], [6, 3], [7], [8, 7], [9, 7], [10, 7], [7], [7], [12, 13, 7], [14, 7], [11, 15, 7], [7, 16], [17, 7], [18], [19, 18], [20, 18], [18], [22, 18], [18], [23, 24, 18], [21, 25, 18], [18, 26], [27, 18], [28, 28], [28, 29], [30, 29, 0, 1, 2, 3, 4, 5, 6, 7, 8, 9, 10, 11, 12, 13, 14, 15, 16, 17, 18, 19, 20, 21, 22, 23, 24, 25, 26, 27, 28, 29, 30]]
abbrev c6 : CC := .seq (.reg r6_0) (.seq (.reg r6_1) (.seq (.reg r6_2) (.seq (.reg r6_3) (.seq (.seq (.reg r6_4) (.block 0 k6_0)) (.rest [1, 2, 5, 6] (.seq (.reg r6_13) (.rest [1, 5, 6, 9, 10, 11] (.seq (.regd r6_14 b6_14) (.rest [4] (.ret))))))))))
theorem F6 : Fun Tryd.prog 6 80 c6 [.tmp 4] 2 := ⟨⟨Tryd.f6, _, Tryd.func6, rfl, by kernel_rfl, Tryd.ntmps6, by kernel_rfl, by kernel_rfl⟩, by decide⟩

/-- linnet/linnetlaw13.EditorTells -/
abbrev r7_0 : List CO := [
  ⟨some 3, .box (.t 0), none⟩,
  ⟨some 6, .mv (.c (.p (.s (.bool false)))), none⟩]
abbrev r7_1 : List CO := [
  ⟨some 22, .faddr 63 (.t 3), none⟩,
  ⟨some 23, .load true 4 (.t 22), none⟩,
  ⟨some 24, .call (.c (.fn (.func 9) [] [])) [.t 23], none⟩,
  ⟨some 25, .mv (.t 1), none⟩,
  ⟨some 26, .call (.c (.fn (.func 10) [] [])) [.t 25], none⟩,
  ⟨some 7, .alloc ([.s (.slice none 0 0), .s (.int .i64 0), .s (.bool false), .s (.bool false)]), none⟩,
  ⟨none, .store 4 (.t 7) (.t 24), none⟩,
  ⟨some 1, .mv (.t 26), none⟩]
abbrev r7_2 : List CO := [
  ⟨some 28, .faddr 0 (.t 3), none⟩,
  ⟨some 29, .load true 62 (.t 28), none⟩,
  ⟨some 30, .faddr 62 (.t 3), none⟩,
  ⟨some 31, .load false 1 (.t 30), none⟩,
  ⟨some 32, .load true 4 (.t 7), none⟩,
  ⟨some 33, .mv (.t 1), none⟩,
  ⟨some 34, .call (.c (.fn (.func 11) [] [])) [.t 29, .t 31, .t 32, .t 33], none⟩,
  ⟨some 27, .mv (.t 34), none⟩,
  ⟨some 35, .extract 0 (.t 27), none⟩,
  ⟨some 36, .extract 1 (.t 27), none⟩,
  ⟨some 37, .extract 2 (.t 27), none⟩,
  ⟨some 8, .alloc ([.s (.slice none 0 0), .s (.int .i64 0), .s (.bool false), .s (.bool false)]), none⟩,
  ⟨none, .store 4 (.t 8) (.t 35), none⟩,
  ⟨some 9, .mv (.t 36), none⟩,
  ⟨some 10, .mv (.t 37), none⟩]
abbrev r7_3 : List CO := [
  ⟨some 39, .load true 4 (.t 7), none⟩,
  ⟨some 40, .mv (.t 2), none⟩,
  ⟨some 41, .call (.c (.fn (.func 20) [] [])) [.t 39, .t 40], none⟩,
  ⟨some 38, .mv (.t 41), none⟩,
  ⟨some 42, .extract 0 (.t 38), none⟩,
  ⟨some 43, .extract 1 (.t 38), none⟩,
  ⟨some 44, .extract 2 (.t 38), none⟩,
  ⟨some 11, .alloc ([.s (.slice none 0 0), .s (.int .i64 0), .s (.bool false), .s (.bool false)]), none⟩,
  ⟨none, .store 4 (.t 11) (.t 42), none⟩,
  ⟨some 12, .mv (.t 43), none⟩,
  ⟨some 13, .mv (.t 44), none⟩]
abbrev r7_4 : List CO := [
  ⟨some 45, .load true 4 (.t 7), none⟩,
  ⟨some 46, .call (.c (.fn (.func 16) [] [])) [.t 45], none⟩,
  ⟨some 47, .bin .eql (.t 46) (.c (.p (.s (.int .i64 0)))), none⟩,
  ⟨some 48, .load true 4 (.t 7), none⟩,
  ⟨some 49, .call (.c (.fn (.func 21) [] [])) [.t 48], none⟩,
  ⟨some 50, .beq true (.t 47) (.t 49), none⟩]
abbrev b7_4 : List (List Nat) := [[], [0], [1], [], [3, 1], [2, 4]]
abbrev r7_5 : List CO := [
  ⟨some 6, .mv (.c (.p (.s (.bool false)))), none⟩]
abbrev r7_6 : List CO := [
  ⟨some 51, .load true 4 (.t 7), none⟩,
  ⟨some 52, .call (.c (.fn (.func 21) [] [])) [.t 51], none⟩,
  ⟨some 53, .un .not (.t 52), none⟩]
abbrev r7_7 : List CO := [
  ⟨some 55, .faddr 0 (.t 3), none⟩,
  ⟨some 56, .load true 62 (.t 55), none⟩,
  ⟨some 57, .faddr 62 (.t 3), none⟩,
  ⟨some 58, .load false 1 (.t 57), none⟩,
  ⟨some 59, .load true 4 (.t 7), none⟩,
  ⟨some 60, .call (.c (.fn (.func 15) [] [])) [.t 56, .t 58, .t 59, .c (.p (.s (.int .u8 97)))], none⟩,
  ⟨some 54, .mv (.t 60), none⟩,
  ⟨some 61, .extract 0 (.t 54), none⟩,
  ⟨some 62, .extract 1 (.t 54), none⟩,
  ⟨some 63, .extract 2 (.t 54), none⟩,
  ⟨some 14, .alloc ([.s (.slice none 0 0), .s (.int .i64 0), .s (.bool false), .s (.bool false)]), none⟩,
  ⟨none, .store 4 (.t 14) (.t 61), none⟩,
  ⟨some 15, .mv (.t 62), none⟩,
  ⟨some 16, .mv (.t 63), none⟩]
abbrev r7_8 : List CO := [
  ⟨some 64, .load true 4 (.t 8), none⟩,
  ⟨some 65, .load true 4 (.t 7), none⟩,
  ⟨some 66, .call (.c (.fn (.func 12) [] [])) [.t 64, .t 65], none⟩,
  ⟨some 67, .mv (.t 66), none⟩,
  ⟨some 68, .mv (.t 9), some (67, true)⟩,
  ⟨some 69, .len (.t 68), some (67, true)⟩,
  ⟨some 70, .bin .eql (.t 69) (.c (.p (.s (.int .i64 0)))), some (67, true)⟩,
  ⟨some 71, .pick (.t 67) (.t 70) (.c (.p (.s (.bool false)))), none⟩,
  ⟨some 72, .mv (.t 71), none⟩,
  ⟨some 73, .mv (.t 10), some (72, true)⟩,
  ⟨some 74, .bin .eql (.t 73) (.c (.p (.s (.int .i64 0)))), some (72, true)⟩,
  ⟨some 75, .pick (.t 72) (.t 74) (.c (.p (.s (.bool false)))), none⟩,
  ⟨some 76, .mv (.t 75), none⟩,
  ⟨some 77, .load true 4 (.t 11), some (76, true)⟩,
  ⟨some 78, .load true 4 (.t 7), some (76, true)⟩,
  ⟨some 79, .call (.c (.fn (.func 12) [] [])) [.t 77, .t 78], some (76, true)⟩,
  ⟨some 80, .pick (.t 76) (.t 79) (.c (.p (.s (.bool false)))), none⟩,
  ⟨some 81, .mv (.t 80), none⟩,
  ⟨some 82, .mv (.t 12), some (81, true)⟩,
  ⟨some 83, .len (.t 82), some (81, true)⟩,
  ⟨some 84, .bin .eql (.t 83) (.c (.p (.s (.int .i64 0)))), some (81, true)⟩,
  ⟨some 85, .pick (.t 81) (.t 84) (.c (.p (.s (.bool false)))), none⟩,
  ⟨some 86, .mv (.t 85), none⟩,
  ⟨some 87, .mv (.t 13), some (86, true)⟩,
  ⟨some 88, .bin .eql (.t 87) (.c (.p (.s (.int .i64 1)))), some (86, true)⟩,
  ⟨some 89, .pick (.t 86) (.t 88) (.c (.p (.s (.bool false)))), none⟩,
  ⟨some 90, .mv (.t 89), none⟩,
  ⟨some 91, .load true 4 (.t 14), some (90, true)⟩,
  ⟨some 92, .load true 4 (.t 7), some (90, true)⟩,
  ⟨some 93, .call (.c (.fn (.func 12) [] [])) [.t 91, .t 92], some (90, true)⟩,
  ⟨some 94, .pick (.t 90) (.t 93) (.c (.p (.s (.bool false)))), none⟩,
  ⟨some 95, .mv (.t 94), none⟩,
  ⟨some 96, .mv (.t 15), some (95, true)⟩,
  ⟨some 97, .len (.t 96), some (95, true)⟩,
  ⟨some 98, .bin .eql (.t 97) (.c (.p (.s (.int .i64 0)))), some (95, true)⟩,
  ⟨some 99, .pick (.t 95) (.t 98) (.c (.p (.s (.bool false)))), none⟩,
  ⟨some 100, .mv (.t 99), none⟩,
  ⟨some 101, .mv (.t 16), some (100, true)⟩,
  ⟨some 102, .un .not (.t 101), some (100, true)⟩,
  ⟨some 103, .pick (.t 100) (.t 102) (.c (.p (.s (.bool false)))), none⟩,
  ⟨some 104, .mv (.t 103), none⟩,
  ⟨some 105, .call (.c (.fn (.func 14) [] [])) [], some (104, true)⟩,
  ⟨some 106, .pick (.t 104) (.t 105) (.c (.p (.s (.bool false)))), none⟩,
  ⟨some 6, .mv (.t 106), none⟩]
abbrev r7_9 : List CO := [
  ⟨some 108, .faddr 0 (.t 3), none⟩,
  ⟨some 109, .load true 62 (.t 108), none⟩,
  ⟨some 110, .faddr 62 (.t 3), none⟩,
  ⟨some 111, .load false 1 (.t 110), none⟩,
  ⟨some 112, .load true 4 (.t 7), none⟩,
  ⟨some 113, .mv (.t 1), none⟩,
  ⟨some 114, .call (.c (.fn (.func 22) [] [])) [.t 109, .t 111, .t 112, .t 113], none⟩,
  ⟨some 107, .mv (.t 114), none⟩,
  ⟨some 115, .extract 0 (.t 107), none⟩,
  ⟨some 116, .extract 1 (.t 107), none⟩,
  ⟨some 117, .extract 2 (.t 107), none⟩,
  ⟨some 17, .alloc ([.s (.slice none 0 0), .s (.int .i64 0), .s (.bool false), .s (.bool false)]), none⟩,
  ⟨none, .store 4 (.t 17) (.t 115), none⟩,
  ⟨some 18, .mv (.t 116), none⟩,
  ⟨some 19, .mv (.t 117), none⟩]
abbrev r7_10 : List CO := [
  ⟨some 118, .load true 4 (.t 8), none⟩,
  ⟨some 119, .load true 4 (.t 17), none⟩,
  ⟨some 120, .call (.c (.fn (.func 23) [] [])) [.t 118, .t 119], none⟩,
  ⟨some 121, .un .not (.t 120), none⟩,
  ⟨some 122, .mv (.t 121), none⟩,
  ⟨some 123, .mv (.t 9), some (122, false)⟩,
  ⟨some 124, .mv (.t 18), some (122, false)⟩,
  ⟨some 125, .call (.c (.fn (.func 24) [] [])) [.t 123, .t 124], some (122, false)⟩,
  ⟨some 126, .un .not (.t 125), some (122, false)⟩,
  ⟨some 127, .pick (.t 122) (.c (.p (.s (.bool true)))) (.t 126), none⟩,
  ⟨some 128, .mv (.t 127), none⟩,
  ⟨some 129, .mv (.t 10), some (128, false)⟩,
  ⟨some 130, .mv (.t 19), some (128, false)⟩,
  ⟨some 131, .bin .neq (.t 129) (.t 130), some (128, false)⟩,
  ⟨some 132, .pick (.t 128) (.c (.p (.s (.bool true)))) (.t 131), none⟩,
  ⟨some 133, .mv (.t 132), none⟩,
  ⟨some 134, .load true 4 (.t 8), some (133, false)⟩,
  ⟨some 135, .load true 4 (.t 7), some (133, false)⟩,
  ⟨some 136, .call (.c (.fn (.func 12) [] [])) [.t 134, .t 135], some (133, false)⟩,
  ⟨some 137, .load true 4 (.t 8), some (133, false)⟩,
  ⟨some 138, .load true 4 (.t 7), some (133, false)⟩,
  ⟨some 139, .call (.c (.fn (.func 23) [] [])) [.t 137, .t 138], some (133, false)⟩,
  ⟨some 140, .beq true (.t 136) (.t 139), some (133, false)⟩,
  ⟨some 141, .pick (.t 133) (.c (.p (.s (.bool true)))) (.t 140), none⟩,
  ⟨some 142, .mv (.t 141), none⟩,
  ⟨some 143, .mv (.t 9), some (142, false)⟩,
  ⟨some 144, .mv (.t 12), some (142, false)⟩,
  ⟨some 145, .call (.c (.fn (.func 13) [] [])) [.t 143, .t 144], some (142, false)⟩,
  ⟨some 146, .mv (.t 9), some (142, false)⟩,
  ⟨some 147, .mv (.t 12), some (142, false)⟩,
  ⟨some 148, .call (.c (.fn (.func 24) [] [])) [.t 146, .t 147], some (142, false)⟩,
  ⟨some 149, .beq true (.t 145) (.t 148), some (142, false)⟩,
  ⟨some 150, .pick (.t 142) (.c (.p (.s (.bool true)))) (.t 149), none⟩]
abbrev b7_10 : List (List Nat) := [[], [], [0, 1], [2], [3, 2], [4], [4], [5, 6, 4, 4], [7, 4], [4, 8], [9, 7], [10], [10], [11, 12, 10], [10, 13], [14, 10], [15], [15], [16, 17, 15, 15], [15], [15], [19, 20, 18, 15], [18, 21, 15], [15, 22], [23, 21], [24], [24], [25, 26, 24, 24], [24], [24], [28, 29, 27, 24], [27, 30, 24], [24, 31]]
abbrev r7_11 : List CO := [
  ⟨some 6, .mv (.c (.p (.s (.bool false)))), none⟩]
abbrev r7_12 : List CO := [
  ⟨some 151, .mv (.t 2), none⟩,
  ⟨some 152, .bin .lss (.t 151) (.c (.p (.s (.int .i64 1)))), none⟩,
  ⟨some 153, .mv (.t 152), none⟩,
  ⟨some 154, .mv (.t 2), some (153, false)⟩,
  ⟨some 155, .bin .gtr (.t 154) (.c (.p (.s (.int .i64 9)))), some (153, false)⟩,
  ⟨some 156, .pick (.t 153) (.c (.p (.s (.bool true)))) (.t 155), none⟩]
abbrev r7_13 : List CO := [
  ⟨some 157, .load true 4 (.t 11), none⟩,
  ⟨some 158, .load true 4 (.t 7), none⟩,
  ⟨some 159, .call (.c (.fn (.func 12) [] [])) [.t 157, .t 158], none⟩,
  ⟨some 160, .mv (.t 159), none⟩,
  ⟨some 161, .mv (.t 12), some (160, true)⟩,
  ⟨some 162, .len (.t 161), some (160, true)⟩,
  ⟨some 163, .bin .eql (.t 162) (.c (.p (.s (.int .i64 0)))), some (160, true)⟩,
  ⟨some 164, .pick (.t 160) (.t 163) (.c (.p (.s (.bool false)))), none⟩,
  ⟨some 165, .mv (.t 164), none⟩,
  ⟨some 166, .mv (.t 13), some (165, true)⟩,
  ⟨some 167, .bin .eql (.t 166) (.c (.p (.s (.int .i64 1)))), some (165, true)⟩,
  ⟨some 168, .pick (.t 165) (.t 167) (.c (.p (.s (.bool false)))), none⟩,
  ⟨some 169, .mv (.t 168), none⟩,
  ⟨some 170, .call (.c (.fn (.func 14) [] [])) [], some (169, true)⟩,
  ⟨some 171, .pick (.t 169) (.t 170) (.c (.p (.s (.bool false)))), none⟩,
  ⟨some 6, .mv (.t 171), none⟩]
abbrev r7_14 : List CO := [
  ⟨some 173, .load true 4 (.t 7), none⟩,
  ⟨some 174, .mv (.t 2), none⟩,
  ⟨some 175, .call (.c (.fn (.func 25) [] [])) [.t 173, .t 174], none⟩,
  ⟨some 172, .mv (.t 175), none⟩,
  ⟨some 176, .extract 0 (.t 172), none⟩,
  ⟨some 177, .extract 1 (.t 172), none⟩,
  ⟨some 20, .alloc ([.s (.slice none 0 0), .s (.int .i64 0), .s (.bool false), .s (.bool false)]), none⟩,
  ⟨none, .store 4 (.t 20) (.t 176), none⟩,
  ⟨some 21, .mv (.t 177), none⟩]
abbrev r7_15 : List CO := [
  ⟨some 178, .load true 4 (.t 11), none⟩,
  ⟨some 179, .load true 4 (.t 20), none⟩,
  ⟨some 180, .call (.c (.fn (.func 23) [] [])) [.t 178, .t 179], none⟩,
  ⟨some 181, .mv (.t 180), none⟩,
  ⟨some 182, .mv (.t 12), some (181, true)⟩,
  ⟨some 183, .mv (.t 21), some (181, true)⟩,
  ⟨some 184, .call (.c (.fn (.func 24) [] [])) [.t 182, .t 183], some (181, true)⟩,
  ⟨some 185, .pick (.t 181) (.t 184) (.c (.p (.s (.bool false)))), none⟩,
  ⟨some 186, .mv (.t 185), none⟩,
  ⟨some 187, .mv (.t 13), some (186, true)⟩,
  ⟨some 188, .bin .eql (.t 187) (.c (.p (.s (.int .i64 0)))), some (186, true)⟩,
  ⟨some 189, .pick (.t 186) (.t 188) (.c (.p (.s (.bool false)))), none⟩,
  ⟨some 190, .mv (.t 189), none⟩,
  ⟨some 191, .call (.c (.fn (.func 14) [] [])) [], some (190, true)⟩,
  ⟨some 192, .pick (.t 190) (.t 191) (.c (.p (.s (.bool false)))), none⟩,
  ⟨some 6, .mv (.t 192), none⟩]
abbrev c7 : CC := .seq (.reg r7_0) (.seq (.reg r7_1) (.rest [1, 2, 3, 7] (.seq (.reg r7_2) (.rest [1, 2, 3, 7, 8, 9, 10] (.seq (.reg r7_3) (.rest [1, 2, 3, 7, 8, 9, 10, 11, 12, 13] (.seq (.seq (.regd r7_4 b7_4) (.rest [1, 2, 3, 7, 8, 9, 10, 11, 12, 13, 50] (.cond (.t 50) (.seq (.reg r7_5) (.ret)) (.skip)))) (.rest [1, 2, 3, 7, 8, 9, 10, 11, 12, 13] (.seq (.seq (.reg r7_6) (.cond (.t 53) (.seq (.reg r7_7) (.rest [7, 8, 9, 10, 11, 12, 13, 14, 15, 16] (.seq (.reg r7_8) (.rest [6] (.ret))))) (.skip))) (.rest [1, 2, 3, 7, 8, 9, 10, 11, 12, 13] (.seq (.reg r7_9) (.rest [2, 7, 8, 9, 10, 11, 12, 13, 17, 18, 19] (.seq (.seq (.regd r7_10 b7_10) (.rest [2, 7, 11, 12, 13, 150] (.cond (.t 150) (.seq (.reg r7_11) (.ret)) (.skip)))) (.rest [2, 7, 11, 12, 13] (.seq (.seq (.reg r7_12) (.rest [2, 7, 11, 12, 13, 156] (.cond (.t 156) (.seq (.reg r7_13) (.rest [6] (.ret))) (.skip)))) (.rest [2, 7, 11, 12, 13] (.seq (.reg r7_14) (.rest [11, 12, 13, 20, 21] (.seq (.reg r7_15) (.rest [6] (.ret)))))))))))))))))))))
theorem F7 : Fun Tryd.prog 7 193 c7 [.tmp 6] 3 := ⟨⟨Tryd.f7, _, Tryd.func7, rfl, by kernel_rfl, Tryd.ntmps7, by kernel_rfl, by kernel_rfl⟩, by decide⟩

/-- linnet/linnetlaw13.EditorSignals -/
abbrev r8_0 : List CO := [
  ⟨some 2, .box (.t 0), none⟩,
  ⟨some 4, .mv (.c (.p (.s (.bool false)))), none⟩]
abbrev r8_1 : List CO := [
  ⟨some 15, .faddr 63 (.t 2), none⟩,
  ⟨some 16, .load true 4 (.t 15), none⟩,
  ⟨some 17, .call (.c (.fn (.func 9) [] [])) [.t 16], none⟩,
  ⟨some 5, .alloc ([.s (.slice none 0 0), .s (.int .i64 0), .s (.bool false), .s (.bool false)]), none⟩,
  ⟨none, .store 4 (.t 5) (.t 17), none⟩]
abbrev r8_2 : List CO := [
  ⟨some 19, .load true 4 (.t 5), none⟩,
  ⟨some 20, .mv (.t 1), none⟩,
  ⟨some 21, .call (.c (.fn (.func 20) [] [])) [.t 19, .t 20], none⟩,
  ⟨some 18, .mv (.t 21), none⟩,
  ⟨some 22, .extract 0 (.t 18), none⟩,
  ⟨some 23, .extract 1 (.t 18), none⟩,
  ⟨some 24, .extract 2 (.t 18), none⟩,
  ⟨some 6, .alloc ([.s (.slice none 0 0), .s (.int .i64 0), .s (.bool false), .s (.bool false)]), none⟩,
  ⟨none, .store 4 (.t 6) (.t 22), none⟩,
  ⟨some 7, .mv (.t 23), none⟩,
  ⟨some 8, .mv (.t 24), none⟩]
abbrev r8_3 : List CO := [
  ⟨some 25, .mv (.t 8), none⟩,
  ⟨some 26, .bin .neq (.t 25) (.c (.p (.s (.int .i64 0)))), none⟩]
abbrev r8_4 : List CO := [
  ⟨some 27, .load true 4 (.t 6), none⟩,
  ⟨some 28, .load true 4 (.t 5), none⟩,
  ⟨some 29, .call (.c (.fn (.func 12) [] [])) [.t 27, .t 28], none⟩,
  ⟨some 30, .mv (.t 29), none⟩,
  ⟨some 31, .mv (.t 7), some (30, true)⟩,
  ⟨some 32, .len (.t 31), some (30, true)⟩,
  ⟨some 33, .bin .eql (.t 32) (.c (.p (.s (.int .i64 0)))), some (30, true)⟩,
  ⟨some 34, .pick (.t 30) (.t 33) (.c (.p (.s (.bool false)))), none⟩,
  ⟨some 35, .mv (.t 34), none⟩,
  ⟨some 36, .call (.c (.fn (.func 14) [] [])) [], some (35, true)⟩,
  ⟨some 37, .pick (.t 35) (.t 36) (.c (.p (.s (.bool false)))), none⟩,
  ⟨some 4, .mv (.t 37), none⟩]
abbrev r8_5 : List CO := [
  ⟨some 38, .mv (.t 7), none⟩,
  ⟨some 39, .len (.t 38), none⟩,
  ⟨some 40, .bin .neq (.t 39) (.c (.p (.s (.int .i64 1)))), none⟩,
  ⟨some 41, .mv (.t 40), none⟩,
  ⟨some 42, .faddr 3 (.t 6), some (41, false)⟩,
  ⟨some 43, .load false 1 (.t 42), some (41, false)⟩,
  ⟨some 44, .pick (.t 41) (.c (.p (.s (.bool true)))) (.t 43), none⟩]
abbrev r8_6 : List CO := [
  ⟨some 4, .mv (.c (.p (.s (.bool false)))), none⟩]
abbrev r8_7 : List CO := [
  ⟨some 45, .mv (.t 1), none⟩,
  ⟨some 46, .bin .eql (.t 45) (.c (.p (.s (.int .i64 4)))), none⟩,
  ⟨some 47, .mv (.t 46), none⟩,
  ⟨some 48, .mv (.t 1), some (47, false)⟩,
  ⟨some 49, .bin .eql (.t 48) (.c (.p (.s (.int .i64 5)))), some (47, false)⟩,
  ⟨some 50, .pick (.t 47) (.c (.p (.s (.bool true)))) (.t 49), none⟩,
  ⟨some 51, .mv (.t 50), none⟩,
  ⟨some 52, .mv (.t 1), some (51, false)⟩,
  ⟨some 53, .bin .eql (.t 52) (.c (.p (.s (.int .i64 6)))), some (51, false)⟩,
  ⟨some 54, .pick (.t 51) (.c (.p (.s (.bool true)))) (.t 53), none⟩,
  ⟨some 9, .mv (.t 54), none⟩]
abbrev r8_8 : List CO := [
  ⟨some 55, .mv (.t 9), none⟩,
  ⟨some 56, .mv (.t 55), none⟩,
  ⟨some 57, .faddr 0 (.t 6), some (56, true)⟩,
  ⟨some 58, .load true 2 (.t 57), some (56, true)⟩,
  ⟨some 59, .faddr 0 (.t 5), some (56, true)⟩,
  ⟨some 60, .load true 2 (.t 59), some (56, true)⟩,
  ⟨some 61, .call (.c (.fn (.func 18) [] [])) [.t 58, .t 60], some (56, true)⟩,
  ⟨some 62, .un .not (.t 61), some (56, true)⟩,
  ⟨some 63, .mv (.t 62), some (56, true)⟩,
  ⟨some 64, .faddr 2 (.t 6), some (63, false)⟩,
  ⟨some 65, .load false 1 (.t 64), some (63, false)⟩,
  ⟨some 66, .faddr 2 (.t 5), some (63, false)⟩,
  ⟨some 67, .load false 1 (.t 66), some (63, false)⟩,
  ⟨some 68, .beq true (.t 65) (.t 67), some (63, false)⟩,
  ⟨some 69, .pick (.t 63) (.c (.p (.s (.bool true)))) (.t 68), some (56, true)⟩,
  ⟨some 70, .pick (.t 56) (.t 69) (.c (.p (.s (.bool false)))), none⟩,
  ⟨some 71, .mv (.t 70), none⟩,
  ⟨some 72, .mv (.t 9), some (71, false)⟩,
  ⟨some 73, .un .not (.t 72), some (71, false)⟩,
  ⟨some 74, .mv (.t 73), some (71, false)⟩,
  ⟨some 75, .load true 4 (.t 6), some (74, true)⟩,
  ⟨some 76, .build ([.s (.slice none 0 0), .s (.int .i64 0), .s (.bool false), .s (.bool false)]) [], some (74, true)⟩,
  ⟨some 77, .call (.c (.fn (.func 12) [] [])) [.t 75, .t 76], some (74, true)⟩,
  ⟨some 78, .un .not (.t 77), some (74, true)⟩,
  ⟨some 79, .pick (.t 74) (.t 78) (.c (.p (.s (.bool false)))), some (71, false)⟩,
  ⟨some 80, .pick (.t 71) (.c (.p (.s (.bool true)))) (.t 79), none⟩]
abbrev r8_9 : List CO := [
  ⟨some 4, .mv (.c (.p (.s (.bool false)))), none⟩]
abbrev r8_10 : List CO := [
  ⟨some 82, .faddr 0 (.t 2), none⟩,
  ⟨some 83, .load true 62 (.t 82), none⟩,
  ⟨some 84, .mv (.t 1), none⟩,
  ⟨some 85, .call (.c (.fn (.func 26) [] [])) [.t 83, .t 84], none⟩,
  ⟨some 81, .mv (.t 85), none⟩,
  ⟨some 86, .extract 0 (.t 81), none⟩,
  ⟨some 87, .extract 1 (.t 81), none⟩,
  ⟨some 10, .mv (.t 86), none⟩,
  ⟨some 11, .mv (.t 87), none⟩]
abbrev r8_11 : List CO := [
  ⟨some 88, .mv (.t 11), none⟩,
  ⟨some 89, .un .not (.t 88), none⟩,
  ⟨some 90, .mv (.t 89), none⟩,
  ⟨some 91, .faddr 3 (.t 5), some (90, false)⟩,
  ⟨some 92, .load false 1 (.t 91), some (90, false)⟩,
  ⟨some 93, .pick (.t 90) (.c (.p (.s (.bool true)))) (.t 92), none⟩]
abbrev r8_12 : List CO := [
  ⟨some 94, .call (.c (.fn (.func 14) [] [])) [], none⟩,
  ⟨some 4, .mv (.t 94), none⟩]
abbrev r8_13 : List CO := [
  ⟨some 96, .faddr 0 (.t 2), none⟩,
  ⟨some 97, .load true 62 (.t 96), none⟩,
  ⟨some 98, .faddr 62 (.t 2), none⟩,
  ⟨some 99, .load false 1 (.t 98), none⟩,
  ⟨some 100, .load true 4 (.t 5), none⟩,
  ⟨some 101, .mv (.t 10), none⟩,
  ⟨some 102, .call (.c (.fn (.func 15) [] [])) [.t 97, .t 99, .t 100, .t 101], none⟩,
  ⟨some 95, .mv (.t 102), none⟩,
  ⟨some 103, .extract 0 (.t 95), none⟩,
  ⟨some 104, .extract 1 (.t 95), none⟩,
  ⟨some 105, .extract 2 (.t 95), none⟩,
  ⟨some 12, .alloc ([.s (.slice none 0 0), .s (.int .i64 0), .s (.bool false), .s (.bool false)]), none⟩,
  ⟨none, .store 4 (.t 12) (.t 103), none⟩,
  ⟨some 13, .mv (.t 104), none⟩,
  ⟨some 14, .mv (.t 105), none⟩]
abbrev r8_14 : List CO := [
  ⟨some 106, .load true 4 (.t 12), none⟩,
  ⟨some 107, .load true 4 (.t 6), none⟩,
  ⟨some 108, .call (.c (.fn (.func 12) [] [])) [.t 106, .t 107], none⟩,
  ⟨some 109, .mv (.t 108), none⟩,
  ⟨some 110, .mv (.t 13), some (109, true)⟩,
  ⟨some 111, .mv (.t 7), some (109, true)⟩,
  ⟨some 112, .call (.c (.fn (.func 13) [] [])) [.t 110, .t 111], some (109, true)⟩,
  ⟨some 113, .pick (.t 109) (.t 112) (.c (.p (.s (.bool false)))), none⟩,
  ⟨some 114, .mv (.t 113), none⟩,
  ⟨some 115, .mv (.t 14), some (114, true)⟩,
  ⟨some 116, .un .not (.t 115), some (114, true)⟩,
  ⟨some 117, .pick (.t 114) (.t 116) (.c (.p (.s (.bool false)))), none⟩,
  ⟨some 118, .mv (.t 117), none⟩,
  ⟨some 119, .call (.c (.fn (.func 14) [] [])) [], some (118, true)⟩,
  ⟨some 120, .pick (.t 118) (.t 119) (.c (.p (.s (.bool false)))), none⟩,
  ⟨some 4, .mv (.t 120), none⟩]
abbrev c8 : CC := .seq (.reg r8_0) (.seq (.reg r8_1) (.rest [1, 2, 5] (.seq (.reg r8_2) (.rest [1, 2, 5, 6, 7, 8] (.seq (.seq (.reg r8_3) (.cond (.t 26) (.seq (.reg r8_4) (.rest [4] (.ret))) (.skip))) (.rest [1, 2, 5, 6, 7] (.seq (.seq (.reg r8_5) (.rest [1, 2, 5, 6, 7, 44] (.cond (.t 44) (.seq (.reg r8_6) (.ret)) (.skip)))) (.rest [1, 2, 5, 6, 7] (.seq (.reg r8_7) (.rest [1, 2, 5, 6, 7, 9] (.seq (.seq (.reg r8_8) (.rest [1, 2, 5, 6, 7, 80] (.cond (.t 80) (.seq (.reg r8_9) (.ret)) (.skip)))) (.rest [1, 2, 5, 6, 7] (.seq (.reg r8_10) (.rest [2, 5, 6, 7, 10, 11] (.seq (.seq (.reg r8_11) (.rest [2, 5, 6, 7, 10, 93] (.cond (.t 93) (.seq (.reg r8_12) (.ret)) (.skip)))) (.rest [2, 5, 6, 7, 10] (.seq (.reg r8_13) (.rest [6, 7, 12, 13, 14] (.seq (.reg r8_14) (.rest [4] (.ret)))))))))))))))))))))
theorem F8 : Fun Tryd.prog 8 121 c8 [.tmp 4] 2 := ⟨⟨Tryd.f8, _, Tryd.func8, rfl, by kernel_rfl, Tryd.ntmps8, by kernel_rfl, by kernel_rfl⟩, by decide⟩

/-- linnet/linnetlaw13.One -/
abbrev r9_0 : List CO := [
  ⟨some 1, .box (.t 0), none⟩,
  ⟨some 2, .alloc ([.s (.slice none 0 0), .s (.int .i64 0), .s (.bool false), .s (.bool false)]), none⟩]
abbrev r9_1 : List CO := [
  ⟨some 3, .faddr 0 (.t 1), none⟩,
  ⟨some 4, .load true 2 (.t 3), none⟩,
  ⟨some 5, .call (.c (.fn (.func 27) [] [])) [.t 4], none⟩,
  ⟨some 6, .faddr 0 (.t 1), none⟩,
  ⟨none, .store 2 (.t 6) (.t 5), none⟩]
abbrev r9_2 : List CO := [
  ⟨some 7, .load true 4 (.t 1), none⟩,
  ⟨none, .store 4 (.t 2) (.t 7), none⟩]
abbrev c9 : CC := .seq (.reg r9_0) (.seq (.reg r9_1) (.rest [1, 2] (.seq (.reg r9_2) (.ret))))
theorem F9 : Fun Tryd.prog 9 8 c9 [.cell 2 true 4] 1 := ⟨⟨Tryd.f9, _, Tryd.func9, rfl, by kernel_rfl, Tryd.ntmps9, by kernel_rfl, by kernel_rfl⟩, by decide⟩

/-- linnet/linnetlaw13.Keys -/
abbrev r10_0 : List CO := [
  ⟨some 2, .mv (.c (.p (.s (.slice none 0 0)))), none⟩]
abbrev r10_1 : List CO := [
  ⟨some 3, .mv (.t 0), none⟩,
  ⟨some 4, .call (.c (.fn (.func 28) [] [])) [.t 3], none⟩,
  ⟨some 2, .mv (.t 4), none⟩]
abbrev c10 : CC := .seq (.reg r10_0) (.seq (.reg r10_1) (.ret))
theorem F10 : Fun Tryd.prog 10 5 c10 [.tmp 2] 1 := ⟨⟨Tryd.f10, _, Tryd.func10, rfl, by kernel_rfl, Tryd.ntmps10, by kernel_rfl, by kernel_rfl⟩, by decide⟩

/-- linnet/editor.Play -/
abbrev r11_0 : List CO := [
  ⟨some 4, .box (.t 0), none⟩,
  ⟨some 6, .box (.t 2), none⟩,
  ⟨some 8, .alloc ([.s (.slice none 0 0), .s (.int .i64 0), .s (.bool false), .s (.bool false)]), none⟩,
  ⟨some 9, .mv (.c (.p (.s (.slice none 0 0)))), none⟩,
  ⟨some 10, .mv (.c (.p (.s (.int .i64 0)))), none⟩]
abbrev r11_1 : List CO := [
  ⟨some 11, .mv (.c (.p (.s (.slice none 0 0)))), none⟩]
abbrev r11_2 : List CO := [
  ⟨some 12, .mv (.c (.p (.s (.int .i64 0)))), none⟩]
abbrev r11_3 : List CO := [
  ⟨some 18, .mv (.t 3), none⟩,
  ⟨some 19, .len (.t 18), none⟩,
  ⟨some 20, .mv (.c (.p (.s (.int .i64 0)))), none⟩]
abbrev r11_4 : List CO := [
  ⟨some 21, .bin .lss (.t 20) (.t 19), none⟩]
abbrev r11_5 : List CO := [
  ⟨some 22, .iaddrS 1 (.t 18) (.t 20), none⟩,
  ⟨some 23, .load false 1 (.t 22), none⟩,
  ⟨some 14, .mv (.t 23), none⟩]
abbrev r11_6 : List CO := [
  ⟨some 25, .load true 62 (.t 4), none⟩,
  ⟨some 26, .mv (.t 1), none⟩,
  ⟨some 27, .load true 4 (.t 6), none⟩,
  ⟨some 28, .mv (.t 14), none⟩,
  ⟨some 29, .call (.c (.fn (.func 15) [] [])) [.t 25, .t 26, .t 27, .t 28], none⟩,
  ⟨some 24, .mv (.t 29), none⟩,
  ⟨some 30, .extract 0 (.t 24), none⟩,
  ⟨some 31, .extract 1 (.t 24), none⟩,
  ⟨some 32, .extract 2 (.t 24), none⟩,
  ⟨some 15, .alloc ([.s (.slice none 0 0), .s (.int .i64 0), .s (.bool false), .s (.bool false)]), none⟩,
  ⟨none, .store 4 (.t 15) (.t 30), none⟩,
  ⟨some 16, .mv (.t 31), none⟩,
  ⟨some 17, .mv (.t 32), none⟩]
abbrev r11_7 : List CO := [
  ⟨some 33, .load true 4 (.t 15), none⟩,
  ⟨some 34, .mv (.t 11), none⟩,
  ⟨some 35, .mv (.t 16), none⟩,
  ⟨some 36, .append 3 40 ([.s (.int .i64 0), .s (.int .i64 0), .s (.slice none 0 0)]) (.t 34) (.t 35), none⟩,
  ⟨none, .store 4 (.t 6) (.t 33), none⟩,
  ⟨some 11, .mv (.t 36), none⟩]
abbrev b11_7 : List (List Nat) := [[], [], [], [1, 2], [0, 3, 0], [3, 4, 0, 1, 2, 3, 4]]
abbrev r11_8 : List CO := [
  ⟨some 37, .mv (.t 17), none⟩]
abbrev r11_9 : List CO := [
  ⟨some 38, .mv (.t 12), none⟩,
  ⟨some 39, .bin .add (.t 38) (.c (.p (.s (.int .i64 1)))), none⟩,
  ⟨some 12, .mv (.t 39), none⟩]
abbrev k11_1 : CC := .seq (.reg r11_5) (.seq (.reg r11_6) (.rest [1, 4, 6, 8, 11, 12, 15, 16, 17, 18, 19, 20] (.seq (.regd r11_7 b11_7) (.rest [1, 4, 6, 8, 11, 12, 17, 18, 19, 20] (.seq (.reg r11_8) (.cond (.t 37) (.reg r11_9) (.skip)))))))
abbrev r11_10 : List CO := [
  ⟨some 40, .bin .add (.t 20) (.c (.p (.s (.int .i64 1)))), none⟩,
  ⟨some 20, .mv (.t 40), none⟩]
abbrev l11_13 : CC := .seq (.reg r11_4) (.seq (.cond (.t 21) (.skip) (.exit 0)) (.seq (.block 1 k11_1) (.rest [1, 4, 6, 8, 11, 12, 18, 19, 20] (.reg r11_10))))
abbrev k11_0 : CC := .loop l11_13
abbrev r11_11 : List CO := [
  ⟨some 41, .load true 4 (.t 6), none⟩,
  ⟨some 42, .mv (.t 11), none⟩,
  ⟨some 43, .mv (.t 12), none⟩,
  ⟨none, .store 4 (.t 8) (.t 41), none⟩,
  ⟨some 9, .mv (.t 42), none⟩,
  ⟨some 10, .mv (.t 43), none⟩]
abbrev c11 : CC := .seq (.reg r11_0) (.rest [1, 3, 4, 6, 8] (.seq (.reg r11_1) (.seq (.reg r11_2) (.seq (.seq (.reg r11_3) (.block 0 k11_0)) (.rest [6, 8, 11, 12] (.seq (.reg r11_11) (.rest [8, 9, 10] (.ret))))))))
theorem F11 : Fun Tryd.prog 11 44 c11 [.cell 8 true 4, .tmp 9, .tmp 10] 4 := ⟨⟨Tryd.f11, _, Tryd.func11, rfl, by kernel_rfl, Tryd.ntmps11, by kernel_rfl, by kernel_rfl⟩, by decide⟩

/-- linnet/editor.Same -/
abbrev r12_0 : List CO := [
  ⟨some 2, .box (.t 0), none⟩,
  ⟨some 3, .box (.t 1), none⟩,
  ⟨some 4, .mv (.c (.p (.s (.bool false)))), none⟩]
abbrev r12_1 : List CO := [
  ⟨some 5, .faddr 0 (.t 2), none⟩,
  ⟨some 6, .load true 2 (.t 5), none⟩,
  ⟨some 7, .faddr 0 (.t 3), none⟩,
  ⟨some 8, .load true 2 (.t 7), none⟩,
  ⟨some 9, .call (.c (.fn (.func 18) [] [])) [.t 6, .t 8], none⟩,
  ⟨some 10, .mv (.t 9), none⟩,
  ⟨some 11, .faddr 2 (.t 2), some (10, true)⟩,
  ⟨some 12, .load false 1 (.t 11), some (10, true)⟩,
  ⟨some 13, .faddr 2 (.t 3), some (10, true)⟩,
  ⟨some 14, .load false 1 (.t 13), some (10, true)⟩,
  ⟨some 15, .beq false (.t 12) (.t 14), some (10, true)⟩,
  ⟨some 16, .pick (.t 10) (.t 15) (.c (.p (.s (.bool false)))), none⟩,
  ⟨some 17, .mv (.t 16), none⟩,
  ⟨some 18, .faddr 3 (.t 2), some (17, true)⟩,
  ⟨some 19, .load false 1 (.t 18), some (17, true)⟩,
  ⟨some 20, .faddr 3 (.t 3), some (17, true)⟩,
  ⟨some 21, .load false 1 (.t 20), some (17, true)⟩,
  ⟨some 22, .beq false (.t 19) (.t 21), some (17, true)⟩,
  ⟨some 23, .pick (.t 17) (.t 22) (.c (.p (.s (.bool false)))), none⟩,
  ⟨some 4, .mv (.t 23), none⟩]
abbrev c12 : CC := .seq (.reg r12_0) (.seq (.reg r12_1) (.rest [4] (.ret)))
theorem F12 : Fun Tryd.prog 12 24 c12 [.tmp 4] 2 := ⟨⟨Tryd.f12, _, Tryd.func12, rfl, by kernel_rfl, Tryd.ntmps12, by kernel_rfl, by kernel_rfl⟩, by decide⟩

/-- linnet/editor.Alike -/
abbrev r13_0 : List CO := [
  ⟨some 4, .mv (.c (.p (.s (.bool false)))), none⟩]
abbrev r13_1 : List CO := [
  ⟨some 5, .mv (.t 0), none⟩,
  ⟨some 6, .mv (.t 1), none⟩,
  ⟨some 7, .call (.c (.fn (.func 29) [] [])) [.t 5, .t 6, .c (.fn (.func 30) [] [])], none⟩,
  ⟨some 4, .mv (.t 7), none⟩]
abbrev c13 : CC := .seq (.reg r13_0) (.seq (.reg r13_1) (.rest [4] (.ret)))
theorem F13 : Fun Tryd.prog 13 8 c13 [.tmp 4] 2 := ⟨⟨Tryd.f13, _, Tryd.func13, rfl, by kernel_rfl, Tryd.ntmps13, by kernel_rfl, by kernel_rfl⟩, by decide⟩

/-- linnet/linnetlaw13.awake -/
abbrev r14_0 : List CO := [
  ⟨some 0, .mv (.c (.p (.s (.bool false)))), none⟩]
abbrev r14_1 : List CO := [
  ⟨some 11, .call (.c (.fn (.func 32) [] [])) [], none⟩,
  ⟨some 1, .alloc (tz62), none⟩,
  ⟨none, .store 62 (.t 1) (.t 11), none⟩]
abbrev r14_2 : List CO := [
  ⟨some 13, .load true 62 (.t 1), none⟩,
  ⟨some 14, .build ([.s (.slice none 0 0), .s (.int .i64 0), .s (.bool false), .s (.bool false)]) [], none⟩,
  ⟨some 15, .bslice 1 4 ([.s (.int .u8 0)]) [(0, .c (.p (.s (.int .u8 97)))), (1, .c (.p (.s (.int .u8 98)))), (2, .c (.p (.s (.int .u8 127)))), (3, .c (.p (.s (.int .u8 13))))], none⟩,
  ⟨some 16, .call (.c (.fn (.func 11) [] [])) [.t 13, .c (.p (.s (.int .i64 99))), .t 14, .t 15], none⟩,
  ⟨some 12, .mv (.t 16), none⟩,
  ⟨some 17, .extract 0 (.t 12), none⟩,
  ⟨some 18, .extract 1 (.t 12), none⟩,
  ⟨some 19, .extract 2 (.t 12), none⟩,
  ⟨some 2, .alloc ([.s (.slice none 0 0), .s (.int .i64 0), .s (.bool false), .s (.bool false)]), none⟩,
  ⟨none, .store 4 (.t 2) (.t 17), none⟩,
  ⟨some 3, .mv (.t 18), none⟩,
  ⟨some 4, .mv (.t 19), none⟩]
abbrev r14_3 : List CO := [
  ⟨some 21, .load true 62 (.t 1), none⟩,
  ⟨some 22, .build ([.s (.slice none 0 0), .s (.int .i64 0), .s (.bool false), .s (.bool false)]) [], none⟩,
  ⟨some 23, .bslice 1 3 ([.s (.int .u8 0)]) [(0, .c (.p (.s (.int .u8 22)))), (1, .c (.p (.s (.int .u8 3)))), (2, .c (.p (.s (.int .u8 3))))], none⟩,
  ⟨some 24, .call (.c (.fn (.func 11) [] [])) [.t 21, .c (.p (.s (.int .i64 99))), .t 22, .t 23], none⟩,
  ⟨some 20, .mv (.t 24), none⟩,
  ⟨some 25, .extract 0 (.t 20), none⟩,
  ⟨some 26, .extract 1 (.t 20), none⟩,
  ⟨some 27, .extract 2 (.t 20), none⟩,
  ⟨some 5, .alloc ([.s (.slice none 0 0), .s (.int .i64 0), .s (.bool false), .s (.bool false)]), none⟩,
  ⟨none, .store 4 (.t 5) (.t 25), none⟩,
  ⟨some 6, .mv (.t 26), none⟩,
  ⟨some 7, .mv (.t 27), none⟩]
abbrev r14_4 : List CO := [
  ⟨some 29, .load true 62 (.t 1), none⟩,
  ⟨some 30, .build ([.s (.slice none 0 0), .s (.int .i64 0), .s (.bool false), .s (.bool false)]) [], none⟩,
  ⟨some 31, .bslice 1 2 ([.s (.int .u8 0)]) [(0, .c (.p (.s (.int .u8 97)))), (1, .c (.p (.s (.int .u8 98))))], none⟩,
  ⟨some 32, .ext .bconv [.t 31], none⟩,
  ⟨some 33, .call (.c (.fn (.func 11) [] [])) [.t 29, .c (.p (.s (.int .i64 1))), .t 30, .t 32], none⟩,
  ⟨some 28, .mv (.t 33), none⟩,
  ⟨some 34, .extract 0 (.t 28), none⟩,
  ⟨some 35, .extract 1 (.t 28), none⟩,
  ⟨some 36, .extract 2 (.t 28), none⟩,
  ⟨some 8, .alloc ([.s (.slice none 0 0), .s (.int .i64 0), .s (.bool false), .s (.bool false)]), none⟩,
  ⟨none, .store 4 (.t 8) (.t 34), none⟩,
  ⟨some 9, .mv (.t 35), none⟩,
  ⟨some 10, .mv (.t 36), none⟩]
abbrev r14_5 : List CO := [
  ⟨some 37, .load true 4 (.t 2), none⟩,
  ⟨some 38, .build ([.s (.slice none 0 0), .s (.int .i64 0), .s (.bool false), .s (.bool false)]) [], none⟩,
  ⟨some 39, .call (.c (.fn (.func 12) [] [])) [.t 37, .t 38], none⟩,
  ⟨some 40, .mv (.t 39), none⟩,
  ⟨some 41, .mv (.t 3), some (40, true)⟩,
  ⟨some 42, .bslice 1 1 ([.s (.int .u8 0)]) [(0, .c (.p (.s (.int .u8 97))))], some (40, true)⟩,
  ⟨some 43, .ext .bconv [.t 42], some (40, true)⟩,
  ⟨some 44, .build ([.s (.int .i64 0), .s (.int .i64 0), .s (.slice none 0 0)]) [(0, 1, .c (.p (.s (.int .i64 1)))), (2, 1, .t 43)], some (40, true)⟩,
  ⟨some 45, .bslice 3 1 ([.s (.int .i64 0), .s (.int .i64 0), .s (.slice none 0 0)]) [(0, .t 44)], some (40, true)⟩,
  ⟨some 46, .call (.c (.fn (.func 13) [] [])) [.t 41, .t 45], some (40, true)⟩,
  ⟨some 47, .pick (.t 40) (.t 46) (.c (.p (.s (.bool false)))), none⟩,
  ⟨some 48, .mv (.t 47), none⟩,
  ⟨some 49, .mv (.t 6), some (48, true)⟩,
  ⟨some 50, .build ([.s (.int .i64 0), .s (.int .i64 0), .s (.slice none 0 0)]) [(0, 1, .c (.p (.s (.int .i64 3)))), (1, 1, .c (.p (.s (.int .i64 3))))], some (48, true)⟩,
  ⟨some 51, .bslice 3 1 ([.s (.int .i64 0), .s (.int .i64 0), .s (.slice none 0 0)]) [(0, .t 50)], some (48, true)⟩,
  ⟨some 52, .call (.c (.fn (.func 13) [] [])) [.t 49, .t 51], some (48, true)⟩,
  ⟨some 53, .pick (.t 48) (.t 52) (.c (.p (.s (.bool false)))), none⟩,
  ⟨some 54, .mv (.t 53), none⟩,
  ⟨some 55, .mv (.t 9), some (54, true)⟩,
  ⟨some 56, .len (.t 55), some (54, true)⟩,
  ⟨some 57, .bin .eql (.t 56) (.c (.p (.s (.int .i64 0)))), some (54, true)⟩,
  ⟨some 58, .pick (.t 54) (.t 57) (.c (.p (.s (.bool false)))), none⟩,
  ⟨some 59, .mv (.t 58), none⟩,
  ⟨some 60, .mv (.t 10), some (59, true)⟩,
  ⟨some 61, .bin .eql (.t 60) (.c (.p (.s (.int .i64 1)))), some (59, true)⟩,
  ⟨some 62, .pick (.t 59) (.t 61) (.c (.p (.s (.bool false)))), none⟩,
  ⟨some 63, .mv (.t 62), none⟩,
  ⟨some 64, .pick (.t 63) (.c (.p (.s (.bool true)))) (.c (.p (.s (.bool false)))), none⟩,
  ⟨some 0, .mv (.t 64), none⟩]
abbrev c14 : CC := .seq (.reg r14_0) (.seq (.reg r14_1) (.seq (.reg r14_2) (.rest [1, 2, 3] (.seq (.reg r14_3) (.rest [1, 2, 3, 6] (.seq (.reg r14_4) (.rest [2, 3, 6, 9, 10] (.seq (.reg r14_5) (.rest [0] (.ret))))))))))
theorem F14 : Fun Tryd.prog 14 65 c14 [.tmp 0] 0 := ⟨⟨Tryd.f14, _, Tryd.func14, rfl, by kernel_rfl, Tryd.ntmps14, by kernel_rfl, by kernel_rfl⟩, by decide⟩

/-- linnet/editor.Key -/
abbrev r15_0 : List CO := [
  ⟨some 4, .box (.t 0), none⟩,
  ⟨some 6, .box (.t 2), none⟩,
  ⟨some 8, .alloc ([.s (.slice none 0 0), .s (.int .i64 0), .s (.bool false), .s (.bool false)]), none⟩,
  ⟨some 9, .mv (.c (.p (.s (.slice none 0 0)))), none⟩,
  ⟨some 10, .mv (.c (.p (.s (.bool false)))), none⟩]
abbrev r15_1 : List CO := [
  ⟨some 12, .load true 4 (.t 6), none⟩,
  ⟨some 13, .call (.c (.fn (.func 16) [] [])) [.t 12], none⟩,
  ⟨some 14, .bin .neq (.t 13) (.c (.p (.s (.int .i64 0)))), none⟩]
abbrev r15_2 : List CO := [
  ⟨some 15, .load true 4 (.t 6), none⟩,
  ⟨none, .store 4 (.t 8) (.t 15), none⟩,
  ⟨some 9, .mv (.c (.p (.s (.slice none 0 0)))), none⟩,
  ⟨some 10, .mv (.c (.p (.s (.bool false)))), none⟩]
abbrev r15_3 : List CO := [
  ⟨some 16, .load true 4 (.t 6), none⟩,
  ⟨some 17, .mv (.t 1), none⟩,
  ⟨some 18, .build ([.s (.slice none 0 0), .s (.int .i64 0), .s (.bool false), .s (.bool false), .s (.int .i64 0), .s (.slice none 0 0), .s (.bool false)]) [(0, 4, .t 16), (4, 1, .t 17)], none⟩,
  ⟨some 19, .box (.t 18), none⟩,
  ⟨some 11, .mv (.t 19), none⟩]
abbrev r15_4 : List CO := [
  ⟨some 20, .mv (.t 11), none⟩,
  ⟨some 21, .nilchk (.t 20), none⟩,
  ⟨some 22, .faddr 0 (.t 21), none⟩,
  ⟨some 23, .faddr 3 (.t 22), none⟩,
  ⟨some 24, .load false 1 (.t 23), none⟩]
abbrev r15_5 : List CO := [
  ⟨some 25, .mv (.t 11), none⟩,
  ⟨some 26, .nilchk (.t 25), none⟩,
  ⟨some 27, .faddr 0 (.t 26), none⟩,
  ⟨some 28, .faddr 3 (.t 27), none⟩,
  ⟨none, .store 1 (.t 28) (.c (.p (.s (.bool false)))), none⟩]
abbrev r15_6 : List CO := [
  ⟨some 29, .mv (.t 11), none⟩,
  ⟨some 30, .mv (.t 3), none⟩,
  ⟨some 31, .call (.c (.fn (.func 33) [] [])) [.t 29, .t 30], none⟩]
abbrev r15_7 : List CO := [
  ⟨some 32, .mv (.t 11), none⟩,
  ⟨some 33, .load true 62 (.t 4), none⟩,
  ⟨some 34, .mv (.t 3), none⟩,
  ⟨some 35, .call (.c (.fn (.func 19) [] [])) [.t 33, .t 34], none⟩,
  ⟨some 36, .mv (.t 3), none⟩,
  ⟨some 37, .call (.c (.fn (.func 34) [] [])) [.t 32, .t 35, .t 36], none⟩]
abbrev r15_8 : List CO := [
  ⟨some 38, .mv (.t 11), none⟩,
  ⟨some 39, .nilchk (.t 38), none⟩,
  ⟨some 40, .faddr 0 (.t 39), none⟩,
  ⟨some 41, .load true 4 (.t 40), none⟩,
  ⟨some 42, .mv (.t 11), none⟩,
  ⟨some 43, .nilchk (.t 42), none⟩,
  ⟨some 44, .faddr 5 (.t 43), none⟩,
  ⟨some 45, .load false 1 (.t 44), none⟩,
  ⟨some 46, .mv (.t 11), none⟩,
  ⟨some 47, .nilchk (.t 46), none⟩,
  ⟨some 48, .faddr 6 (.t 47), none⟩,
  ⟨some 49, .load false 1 (.t 48), none⟩,
  ⟨none, .store 4 (.t 8) (.t 41), none⟩,
  ⟨some 9, .mv (.t 45), none⟩,
  ⟨some 10, .mv (.t 49), none⟩]
abbrev b15_8 : List (List Nat) := [[], [0], [1], [2], [], [4], [5], [6], [], [8], [9], [10], [3, 0, 1, 2, 3], [7, 12, 0, 1, 2, 3, 4, 5, 6, 7, 12], [11, 13, 0, 1, 2, 3, 4, 5, 6, 7, 8, 9, 10, 11, 12, 13]]
abbrev c15 : CC := .seq (.reg r15_0) (.rest [1, 3, 4, 6, 8] (.seq (.seq (.reg r15_1) (.cond (.t 14) (.seq (.reg r15_2) (.rest [8, 9, 10] (.ret))) (.skip))) (.rest [1, 3, 4, 6, 8] (.seq (.reg r15_3) (.rest [3, 4, 8, 11] (.seq (.seq (.reg r15_4) (.rest [3, 4, 8, 11, 24] (.cond (.t 24) (.seq (.reg r15_5) (.rest [3, 8, 11] (.reg r15_6))) (.reg r15_7)))) (.rest [8, 11] (.seq (.regd r15_8 b15_8) (.rest [8, 9, 10] (.ret))))))))))
theorem F15 : Fun Tryd.prog 15 50 c15 [.cell 8 true 4, .tmp 9, .tmp 10] 4 := ⟨⟨Tryd.f15, _, Tryd.func15, rfl, by kernel_rfl, Tryd.ntmps15, by kernel_rfl, by kernel_rfl⟩, by decide⟩

/-- linnet/editor.Check -/
abbrev r16_0 : List CO := [
  ⟨some 1, .box (.t 0), none⟩,
  ⟨some 2, .mv (.c (.p (.s (.int .i64 0)))), none⟩]
abbrev r16_1 : List CO := [
  ⟨some 3, .faddr 0 (.t 1), none⟩,
  ⟨some 4, .load true 2 (.t 3), none⟩,
  ⟨some 5, .call (.c (.fn (.func 35) [] [])) [.t 4], none⟩,
  ⟨some 2, .mv (.t 5), none⟩]
abbrev c16 : CC := .seq (.reg r16_0) (.seq (.reg r16_1) (.rest [2] (.ret)))
theorem F16 : Fun Tryd.prog 16 6 c16 [.tmp 2] 1 := ⟨⟨Tryd.f16, _, Tryd.func16, rfl, by kernel_rfl, Tryd.ntmps16, by kernel_rfl, by kernel_rfl⟩, by decide⟩

/-- linnet/line.Type -/
abbrev r17_0 : List CO := [
  ⟨some 4, .box (.t 0), none⟩,
  ⟨some 8, .alloc ([.s (.slice none 0 0), .s (.int .i64 0)]), none⟩,
  ⟨some 9, .mv (.c (.p (.s (.bool false)))), none⟩]
abbrev r17_1 : List CO := [
  ⟨some 12, .load true 2 (.t 4), none⟩,
  ⟨some 13, .call (.c (.fn (.func 35) [] [])) [.t 12], none⟩,
  ⟨some 14, .bin .neq (.t 13) (.c (.p (.s (.int .i64 0)))), none⟩]
abbrev r17_2 : List CO := [
  ⟨some 15, .load true 2 (.t 4), none⟩,
  ⟨none, .store 2 (.t 8) (.t 15), none⟩,
  ⟨some 9, .mv (.c (.p (.s (.bool false)))), none⟩]
abbrev r17_3 : List CO := [
  ⟨some 10, .mv (.c (.p (.s (.int .i64 0)))), none⟩]
abbrev r17_4 : List CO := [
  ⟨some 16, .mv (.t 2), none⟩,
  ⟨some 17, .mv (.t 16), none⟩,
  ⟨some 18, .faddr 1 (.t 4), some (17, true)⟩,
  ⟨some 19, .load false 1 (.t 18), some (17, true)⟩,
  ⟨some 20, .faddr 0 (.t 4), some (17, true)⟩,
  ⟨some 21, .load false 1 (.t 20), some (17, true)⟩,
  ⟨some 22, .len (.t 21), some (17, true)⟩,
  ⟨some 23, .bin .lss (.t 19) (.t 22), some (17, true)⟩,
  ⟨some 24, .pick (.t 17) (.t 23) (.c (.p (.s (.bool false)))), none⟩]
abbrev r17_5 : List CO := [
  ⟨some 10, .mv (.c (.p (.s (.int .i64 1)))), none⟩]
abbrev r17_6 : List CO := [
  ⟨some 25, .faddr 0 (.t 4), none⟩,
  ⟨some 26, .load false 1 (.t 25), none⟩,
  ⟨some 27, .len (.t 26), none⟩,
  ⟨some 28, .mv (.t 1), none⟩,
  ⟨some 29, .minmax false (.t 28) (.c (.p (.s (.int .i64 4096)))), none⟩,
  ⟨some 30, .bin .geq (.t 27) (.t 29), none⟩]
abbrev r17_7 : List CO := [
  ⟨some 31, .load true 2 (.t 4), none⟩,
  ⟨none, .store 2 (.t 8) (.t 31), none⟩,
  ⟨some 9, .mv (.c (.p (.s (.bool false)))), none⟩]
abbrev r17_8 : List CO := [
  ⟨some 32, .faddr 0 (.t 4), none⟩,
  ⟨some 33, .load false 1 (.t 32), none⟩,
  ⟨some 34, .faddr 1 (.t 4), none⟩,
  ⟨some 35, .load false 1 (.t 34), none⟩,
  ⟨some 36, .slice 1 (.t 33) none (some (.t 35)), none⟩,
  ⟨some 37, .call (.c (.fn (.func 36) [] [])) [.t 36], none⟩,
  ⟨some 38, .mv (.t 3), none⟩,
  ⟨some 39, .bslice 1 1 ([.s (.int .u8 0)]) [(0, .t 38)], none⟩,
  ⟨some 40, .append 1 1 ([.s (.int .u8 0)]) (.t 37) (.t 39), none⟩,
  ⟨some 11, .mv (.t 40), none⟩]
abbrev r17_9 : List CO := [
  ⟨some 41, .mv (.t 11), none⟩,
  ⟨some 42, .faddr 0 (.t 4), none⟩,
  ⟨some 43, .load false 1 (.t 42), none⟩,
  ⟨some 44, .faddr 1 (.t 4), none⟩,
  ⟨some 45, .load false 1 (.t 44), none⟩,
  ⟨some 46, .mv (.t 10), none⟩,
  ⟨some 47, .bin .add (.t 45) (.t 46), none⟩,
  ⟨some 48, .slice 1 (.t 43) (some (.t 47)) none, none⟩,
  ⟨some 49, .append 1 1 ([.s (.int .u8 0)]) (.t 41) (.t 48), none⟩,
  ⟨some 50, .faddr 1 (.t 4), none⟩,
  ⟨some 51, .load false 1 (.t 50), none⟩,
  ⟨some 52, .bin .add (.t 51) (.c (.p (.s (.int .i64 1)))), none⟩,
  ⟨some 53, .build ([.s (.slice none 0 0), .s (.int .i64 0)]) [(0, 1, .t 49), (1, 1, .t 52)], none⟩,
  ⟨none, .store 2 (.t 8) (.t 53), none⟩,
  ⟨some 9, .mv (.c (.p (.s (.bool true)))), none⟩]
abbrev b17_9 : List (List Nat) := [[], [], [1], [], [3], [], [4, 5], [2, 6], [0, 7], [], [9], [10], [8, 11], [12, 8, 0, 1, 2, 3, 4, 5, 6, 7, 8, 9, 10, 11, 12], [13, 0, 1, 2, 3, 4, 5, 6, 7, 8, 9, 10, 11, 12, 13]]
abbrev c17 : CC := .seq (.reg r17_0) (.seq (.seq (.reg r17_1) (.cond (.t 14) (.seq (.reg r17_2) (.ret)) (.skip))) (.rest [1, 2, 3, 4, 8] (.seq (.reg r17_3) (.seq (.seq (.reg r17_4) (.rest [1, 3, 4, 8, 10, 24] (.cond (.t 24) (.reg r17_5) (.seq (.reg r17_6) (.rest [3, 4, 8, 10, 30] (.cond (.t 30) (.seq (.reg r17_7) (.ret)) (.skip))))))) (.rest [3, 4, 8, 10] (.seq (.reg r17_8) (.rest [4, 8, 10, 11] (.seq (.regd r17_9 b17_9) (.rest [8, 9] (.ret))))))))))
theorem F17 : Fun Tryd.prog 17 54 c17 [.cell 8 true 2, .tmp 9] 4 := ⟨⟨Tryd.f17, _, Tryd.func17, rfl, by kernel_rfl, Tryd.ntmps17, by kernel_rfl, by kernel_rfl⟩, by decide⟩

/-- linnet/line.Same -/
abbrev r18_0 : List CO := [
  ⟨some 2, .box (.t 0), none⟩,
  ⟨some 3, .box (.t 1), none⟩,
  ⟨some 4, .mv (.c (.p (.s (.bool false)))), none⟩]
abbrev r18_1 : List CO := [
  ⟨some 5, .faddr 1 (.t 2), none⟩,
  ⟨some 6, .load false 1 (.t 5), none⟩,
  ⟨some 7, .faddr 1 (.t 3), none⟩,
  ⟨some 8, .load false 1 (.t 7), none⟩,
  ⟨some 9, .bin .eql (.t 6) (.t 8), none⟩,
  ⟨some 10, .mv (.t 9), none⟩,
  ⟨some 11, .faddr 0 (.t 2), some (10, true)⟩,
  ⟨some 12, .load false 1 (.t 11), some (10, true)⟩,
  ⟨some 13, .faddr 0 (.t 3), some (10, true)⟩,
  ⟨some 14, .load false 1 (.t 13), some (10, true)⟩,
  ⟨some 15, .call (.c (.fn (.func 31) [] [])) [.t 12, .t 14], some (10, true)⟩,
  ⟨some 16, .pick (.t 10) (.t 15) (.c (.p (.s (.bool false)))), none⟩,
  ⟨some 4, .mv (.t 16), none⟩]
abbrev c18 : CC := .seq (.reg r18_0) (.seq (.reg r18_1) (.rest [4] (.ret)))
theorem F18 : Fun Tryd.prog 18 17 c18 [.tmp 4] 2 := ⟨⟨Tryd.f18, _, Tryd.func18, rfl, by kernel_rfl, Tryd.ntmps18, by kernel_rfl, by kernel_rfl⟩, by decide⟩

/-- linnet/table.Meaning -/
abbrev r19_0 : List CO := [
  ⟨some 2, .box (.t 0), none⟩,
  ⟨some 4, .mv (.c (.p (.s (.int .i64 0)))), none⟩]
abbrev r19_1 : List CO := [
  ⟨some 6, .mv (.t 1), none⟩,
  ⟨some 7, .bin .eql (.t 6) (.c (.p (.s (.int .u8 13)))), none⟩]
abbrev r19_2 : List CO := [
  ⟨some 4, .mv (.c (.p (.s (.int .i64 31)))), none⟩]
abbrev r19_3 : List CO := [
  ⟨some 5, .mv (.c (.p (.s (.int .i64 1)))), none⟩]
abbrev r19_4 : List CO := [
  ⟨some 8, .mv (.t 5), none⟩,
  ⟨some 9, .bin .lss (.t 8) (.c (.p (.s (.int .i64 31)))), none⟩]
abbrev r19_6 : List CO := [
  ⟨some 12, .mv (.t 5), none⟩,
  ⟨some 13, .iaddrA 2 31 (.t 2) (.t 12), none⟩,
  ⟨some 14, .faddr 0 (.t 13), none⟩,
  ⟨some 15, .load false 1 (.t 14), none⟩,
  ⟨some 16, .bin .neq (.t 15) (.c (.p (.s (.int .i64 0)))), none⟩,
  ⟨some 17, .mv (.t 16), none⟩,
  ⟨some 18, .mv (.t 5), some (17, true)⟩,
  ⟨some 19, .iaddrA 2 31 (.t 2) (.t 18), some (17, true)⟩,
  ⟨some 20, .faddr 1 (.t 19), some (17, true)⟩,
  ⟨some 21, .load false 1 (.t 20), some (17, true)⟩,
  ⟨some 22, .mv (.t 1), some (17, true)⟩,
  ⟨some 23, .bin .eql (.t 21) (.t 22), some (17, true)⟩,
  ⟨some 24, .pick (.t 17) (.t 23) (.c (.p (.s (.bool false)))), none⟩]
abbrev r19_7 : List CO := [
  ⟨some 25, .mv (.t 5), none⟩,
  ⟨some 4, .mv (.t 25), none⟩]
abbrev k19_1 : CC := .seq (.reg r19_6) (.rest [1, 2, 5, 24] (.cond (.t 24) (.seq (.reg r19_7) (.ret)) (.skip)))
abbrev r19_5 : List CO := [
  ⟨some 10, .mv (.t 5), none⟩,
  ⟨some 11, .bin .add (.t 10) (.c (.p (.s (.int .i64 1)))), none⟩,
  ⟨some 5, .mv (.t 11), none⟩]
abbrev l19_9 : CC := .seq (.seq (.reg r19_4) (.cond (.t 9) (.skip) (.exit 0))) (.seq (.block 1 k19_1) (.rest [1, 2, 5] (.reg r19_5)))
abbrev k19_0 : CC := .loop l19_9
abbrev r19_8 : List CO := [
  ⟨some 4, .mv (.c (.p (.s (.int .i64 0)))), none⟩]
abbrev c19 : CC := .seq (.reg r19_0) (.seq (.seq (.reg r19_1) (.cond (.t 7) (.seq (.reg r19_2) (.ret)) (.skip))) (.seq (.seq (.reg r19_3) (.block 0 k19_0)) (.rest [] (.seq (.reg r19_8) (.ret)))))
theorem F19 : Fun Tryd.prog 19 26 c19 [.tmp 4] 2 := ⟨⟨Tryd.f19, _, Tryd.func19, rfl, by kernel_rfl, Tryd.ntmps19, by kernel_rfl, by kernel_rfl⟩, by decide⟩

/-- linnet/editor.Signal -/
abbrev r20_0 : List CO := [
  ⟨some 2, .box (.t 0), none⟩,
  ⟨some 4, .alloc ([.s (.slice none 0 0), .s (.int .i64 0), .s (.bool false), .s (.bool false)]), none⟩,
  ⟨some 5, .mv (.c (.p (.s (.slice none 0 0)))), none⟩,
  ⟨some 6, .mv (.c (.p (.s (.int .i64 0)))), none⟩]
abbrev r20_1 : List CO := [
  ⟨some 8, .load true 4 (.t 2), none⟩,
  ⟨some 9, .call (.c (.fn (.func 16) [] [])) [.t 8], none⟩,
  ⟨some 10, .bin .neq (.t 9) (.c (.p (.s (.int .i64 0)))), none⟩,
  ⟨some 11, .mv (.t 10), none⟩,
  ⟨some 12, .mv (.t 1), some (11, false)⟩,
  ⟨some 13, .bin .lss (.t 12) (.c (.p (.s (.int .i64 1)))), some (11, false)⟩,
  ⟨some 14, .pick (.t 11) (.c (.p (.s (.bool true)))) (.t 13), none⟩,
  ⟨some 15, .mv (.t 14), none⟩,
  ⟨some 16, .mv (.t 1), some (15, false)⟩,
  ⟨some 17, .bin .gtr (.t 16) (.c (.p (.s (.int .i64 9)))), some (15, false)⟩,
  ⟨some 18, .pick (.t 15) (.c (.p (.s (.bool true)))) (.t 17), none⟩]
abbrev r20_2 : List CO := [
  ⟨some 19, .load true 4 (.t 2), none⟩,
  ⟨none, .store 4 (.t 4) (.t 19), none⟩,
  ⟨some 5, .mv (.c (.p (.s (.slice none 0 0)))), none⟩,
  ⟨some 6, .mv (.c (.p (.s (.int .i64 1)))), none⟩]
abbrev r20_3 : List CO := [
  ⟨some 20, .load true 4 (.t 2), none⟩,
  ⟨some 21, .build ([.s (.slice none 0 0), .s (.int .i64 0), .s (.bool false), .s (.bool false), .s (.int .i64 0), .s (.slice none 0 0), .s (.bool false)]) [(0, 4, .t 20)], none⟩,
  ⟨some 22, .box (.t 21), none⟩,
  ⟨some 7, .mv (.t 22), none⟩]
abbrev r20_4 : List CO := [
  ⟨some 23, .mv (.t 7), none⟩,
  ⟨some 24, .mv (.t 1), none⟩,
  ⟨some 25, .call (.c (.fn (.func 37) [] [])) [.t 23, .t 24], none⟩]
abbrev r20_5 : List CO := [
  ⟨some 26, .mv (.t 7), none⟩,
  ⟨some 27, .nilchk (.t 26), none⟩,
  ⟨some 28, .faddr 0 (.t 27), none⟩,
  ⟨some 29, .load true 4 (.t 28), none⟩,
  ⟨some 30, .mv (.t 7), none⟩,
  ⟨some 31, .nilchk (.t 30), none⟩,
  ⟨some 32, .faddr 5 (.t 31), none⟩,
  ⟨some 33, .load false 1 (.t 32), none⟩,
  ⟨none, .store 4 (.t 4) (.t 29), none⟩,
  ⟨some 5, .mv (.t 33), none⟩,
  ⟨some 6, .mv (.c (.p (.s (.int .i64 0)))), none⟩]
abbrev b20_5 : List (List Nat) := [[], [0], [1], [2], [], [4], [5], [6], [3, 0, 1, 2, 3], [7, 8, 0, 1, 2, 3, 4, 5, 6, 7, 8], [9, 0, 1, 2, 3, 4, 5, 6, 7, 8, 9]]
abbrev c20 : CC := .seq (.reg r20_0) (.rest [1, 2, 4] (.seq (.seq (.reg r20_1) (.rest [1, 2, 4, 18] (.cond (.t 18) (.seq (.reg r20_2) (.rest [4, 5, 6] (.ret))) (.skip)))) (.rest [1, 2, 4] (.seq (.reg r20_3) (.rest [1, 4, 7] (.seq (.reg r20_4) (.seq (.regd r20_5 b20_5) (.rest [4, 5, 6] (.ret)))))))))
theorem F20 : Fun Tryd.prog 20 34 c20 [.cell 4 true 4, .tmp 5, .tmp 6] 2 := ⟨⟨Tryd.f20, _, Tryd.func20, rfl, by kernel_rfl, Tryd.ntmps20, by kernel_rfl, by kernel_rfl⟩, by decide⟩

/-- linnet/linnetref13.May -/
abbrev r21_0 : List CO := [
  ⟨some 1, .box (.t 0), none⟩,
  ⟨some 2, .mv (.c (.p (.s (.bool false)))), none⟩]
abbrev r21_1 : List CO := [
  ⟨some 3, .faddr 0 (.t 1), none⟩,
  ⟨some 4, .load true 2 (.t 3), none⟩,
  ⟨some 5, .call (.c (.fn (.func 38) [] [])) [.t 4], none⟩,
  ⟨some 2, .mv (.t 5), none⟩]
abbrev c21 : CC := .seq (.reg r21_0) (.seq (.reg r21_1) (.rest [2] (.ret)))
theorem F21 : Fun Tryd.prog 21 6 c21 [.tmp 2] 1 := ⟨⟨Tryd.f21, _, Tryd.func21, rfl, by kernel_rfl, Tryd.ntmps21, by kernel_rfl, by kernel_rfl⟩, by decide⟩

/-- linnet/linnetref13.Play -/
abbrev r22_0 : List CO := [
  ⟨some 4, .box (.t 0), none⟩,
  ⟨some 6, .box (.t 2), none⟩,
  ⟨some 8, .alloc ([.s (.slice none 0 0), .s (.int .i64 0), .s (.bool false), .s (.bool false)]), none⟩,
  ⟨some 9, .mv (.c (.p (.s (.slice none 0 0)))), none⟩,
  ⟨some 10, .mv (.c (.p (.s (.int .i64 0)))), none⟩]
abbrev r22_1 : List CO := [
  ⟨some 11, .mv (.c (.p (.s (.slice none 0 0)))), none⟩]
abbrev r22_2 : List CO := [
  ⟨some 12, .mv (.c (.p (.s (.int .i64 0)))), none⟩]
abbrev r22_3 : List CO := [
  ⟨some 13, .mv (.c (.p (.s (.int .i64 0)))), none⟩]
abbrev r22_4 : List CO := [
  ⟨some 17, .mv (.t 13), none⟩,
  ⟨some 18, .mv (.t 3), none⟩,
  ⟨some 19, .len (.t 18), none⟩,
  ⟨some 20, .bin .lss (.t 17) (.t 19), none⟩]
abbrev r22_6 : List CO := [
  ⟨some 24, .load true 62 (.t 4), none⟩,
  ⟨some 25, .mv (.t 1), none⟩,
  ⟨some 26, .load true 4 (.t 6), none⟩,
  ⟨some 27, .mv (.t 3), none⟩,
  ⟨some 28, .mv (.t 13), none⟩,
  ⟨some 29, .iaddrS 1 (.t 27) (.t 28), none⟩,
  ⟨some 30, .load false 1 (.t 29), none⟩,
  ⟨some 31, .call (.c (.fn (.func 39) [] [])) [.t 24, .t 25, .t 26, .t 30], none⟩,
  ⟨some 23, .mv (.t 31), none⟩,
  ⟨some 32, .extract 0 (.t 23), none⟩,
  ⟨some 33, .extract 1 (.t 23), none⟩,
  ⟨some 34, .extract 2 (.t 23), none⟩,
  ⟨some 14, .alloc ([.s (.slice none 0 0), .s (.int .i64 0), .s (.bool false), .s (.bool false)]), none⟩,
  ⟨none, .store 4 (.t 14) (.t 32), none⟩,
  ⟨some 15, .mv (.t 33), none⟩,
  ⟨some 16, .mv (.t 34), none⟩]
abbrev b22_6 : List (List Nat) := [[], [], [], [], [], [3, 4], [5], [0, 1, 2, 6], [7], [8], [8], [8], [], [12, 9, 7, 0, 1, 2, 3, 4, 5, 6, 7, 8, 9, 12], [10, 13, 0, 1, 2, 3, 4, 5, 6, 7, 8, 9, 10, 12, 13], [11, 14, 0, 1, 2, 3, 4, 5, 6, 7, 8, 9, 10, 11, 12, 13, 14]]
abbrev r22_7 : List CO := [
  ⟨some 35, .load true 4 (.t 14), none⟩,
  ⟨none, .store 4 (.t 6) (.t 35), none⟩]
abbrev r22_8 : List CO := [
  ⟨some 36, .mv (.t 11), none⟩,
  ⟨some 37, .mv (.t 15), none⟩,
  ⟨some 38, .append 3 40 ([.s (.int .i64 0), .s (.int .i64 0), .s (.slice none 0 0)]) (.t 36) (.t 37), none⟩,
  ⟨some 11, .mv (.t 38), none⟩]
abbrev r22_9 : List CO := [
  ⟨some 39, .mv (.t 16), none⟩]
abbrev r22_10 : List CO := [
  ⟨some 40, .mv (.t 12), none⟩,
  ⟨some 41, .bin .add (.t 40) (.c (.p (.s (.int .i64 1)))), none⟩,
  ⟨some 12, .mv (.t 41), none⟩]
abbrev k22_1 : CC := .seq (.regd r22_6 b22_6) (.rest [1, 3, 4, 6, 8, 11, 12, 13, 14, 15, 16] (.seq (.reg r22_7) (.seq (.reg r22_8) (.rest [1, 3, 4, 6, 8, 11, 12, 13, 16] (.seq (.reg r22_9) (.cond (.t 39) (.reg r22_10) (.skip)))))))
abbrev r22_5 : List CO := [
  ⟨some 21, .mv (.t 13), none⟩,
  ⟨some 22, .bin .add (.t 21) (.c (.p (.s (.int .i64 1)))), none⟩,
  ⟨some 13, .mv (.t 22), none⟩]
abbrev l22_13 : CC := .seq (.seq (.reg r22_4) (.rest [1, 3, 4, 6, 8, 11, 12, 13, 20] (.cond (.t 20) (.skip) (.exit 0)))) (.rest [1, 3, 4, 6, 8, 11, 12, 13] (.seq (.block 1 k22_1) (.rest [1, 3, 4, 6, 8, 11, 12, 13] (.reg r22_5))))
abbrev k22_0 : CC := .loop l22_13
abbrev r22_11 : List CO := [
  ⟨some 42, .load true 4 (.t 6), none⟩,
  ⟨some 43, .mv (.t 11), none⟩,
  ⟨some 44, .mv (.t 12), none⟩,
  ⟨none, .store 4 (.t 8) (.t 42), none⟩,
  ⟨some 9, .mv (.t 43), none⟩,
  ⟨some 10, .mv (.t 44), none⟩]
abbrev c22 : CC := .seq (.reg r22_0) (.rest [1, 3, 4, 6, 8] (.seq (.reg r22_1) (.seq (.reg r22_2) (.seq (.seq (.reg r22_3) (.block 0 k22_0)) (.rest [6, 8, 11, 12] (.seq (.reg r22_11) (.rest [8, 9, 10] (.ret))))))))
theorem F22 : Fun Tryd.prog 22 45 c22 [.cell 8 true 4, .tmp 9, .tmp 10] 4 := ⟨⟨Tryd.f22, _, Tryd.func22, rfl, by kernel_rfl, Tryd.ntmps22, by kernel_rfl, by kernel_rfl⟩, by decide⟩

/-- linnet/linnetref13.Same -/
abbrev r23_0 : List CO := [
  ⟨some 2, .box (.t 0), none⟩,
  ⟨some 3, .box (.t 1), none⟩,
  ⟨some 4, .mv (.c (.p (.s (.bool false)))), none⟩]
abbrev r23_1 : List CO := [
  ⟨some 5, .faddr 0 (.t 2), none⟩,
  ⟨some 6, .load true 2 (.t 5), none⟩,
  ⟨some 7, .faddr 0 (.t 3), none⟩,
  ⟨some 8, .load true 2 (.t 7), none⟩,
  ⟨some 9, .call (.c (.fn (.func 40) [] [])) [.t 6, .t 8], none⟩,
  ⟨some 10, .mv (.t 9), none⟩,
  ⟨some 11, .faddr 2 (.t 2), some (10, true)⟩,
  ⟨some 12, .load false 1 (.t 11), some (10, true)⟩,
  ⟨some 13, .faddr 2 (.t 3), some (10, true)⟩,
  ⟨some 14, .load false 1 (.t 13), some (10, true)⟩,
  ⟨some 15, .beq false (.t 12) (.t 14), some (10, true)⟩,
  ⟨some 16, .pick (.t 10) (.t 15) (.c (.p (.s (.bool false)))), none⟩,
  ⟨some 17, .mv (.t 16), none⟩,
  ⟨some 18, .faddr 3 (.t 2), some (17, true)⟩,
  ⟨some 19, .load false 1 (.t 18), some (17, true)⟩,
  ⟨some 20, .faddr 3 (.t 3), some (17, true)⟩,
  ⟨some 21, .load false 1 (.t 20), some (17, true)⟩,
  ⟨some 22, .beq false (.t 19) (.t 21), some (17, true)⟩,
  ⟨some 23, .pick (.t 17) (.t 22) (.c (.p (.s (.bool false)))), none⟩,
  ⟨some 4, .mv (.t 23), none⟩]
abbrev c23 : CC := .seq (.reg r23_0) (.seq (.reg r23_1) (.rest [4] (.ret)))
theorem F23 : Fun Tryd.prog 23 24 c23 [.tmp 4] 2 := ⟨⟨Tryd.f23, _, Tryd.func23, rfl, by kernel_rfl, Tryd.ntmps23, by kernel_rfl, by kernel_rfl⟩, by decide⟩

/-- linnet/linnetref13.Alike -/
abbrev r24_0 : List CO := [
  ⟨some 4, .mv (.c (.p (.s (.bool false)))), none⟩]
abbrev r24_1 : List CO := [
  ⟨some 6, .mv (.t 0), none⟩,
  ⟨some 7, .len (.t 6), none⟩,
  ⟨some 8, .mv (.t 1), none⟩,
  ⟨some 9, .len (.t 8), none⟩,
  ⟨some 10, .bin .neq (.t 7) (.t 9), none⟩]
abbrev r24_2 : List CO := [
  ⟨some 4, .mv (.c (.p (.s (.bool false)))), none⟩]
abbrev r24_3 : List CO := [
  ⟨some 5, .mv (.c (.p (.s (.int .i64 0)))), none⟩]
abbrev r24_4 : List CO := [
  ⟨some 11, .mv (.t 5), none⟩,
  ⟨some 12, .mv (.t 0), none⟩,
  ⟨some 13, .len (.t 12), none⟩,
  ⟨some 14, .bin .lss (.t 11) (.t 13), none⟩]
abbrev r24_6 : List CO := [
  ⟨some 17, .mv (.t 0), none⟩,
  ⟨some 18, .mv (.t 5), none⟩,
  ⟨some 19, .iaddrS 3 (.t 17) (.t 18), none⟩,
  ⟨some 20, .faddr 0 (.t 19), none⟩,
  ⟨some 21, .load false 1 (.t 20), none⟩,
  ⟨some 22, .mv (.t 1), none⟩,
  ⟨some 23, .mv (.t 5), none⟩,
  ⟨some 24, .iaddrS 3 (.t 22) (.t 23), none⟩,
  ⟨some 25, .faddr 0 (.t 24), none⟩,
  ⟨some 26, .load false 1 (.t 25), none⟩,
  ⟨some 27, .bin .neq (.t 21) (.t 26), none⟩,
  ⟨some 28, .mv (.t 27), none⟩,
  ⟨some 29, .mv (.t 0), some (28, false)⟩,
  ⟨some 30, .mv (.t 5), some (28, false)⟩,
  ⟨some 31, .iaddrS 3 (.t 29) (.t 30), some (28, false)⟩,
  ⟨some 32, .faddr 1 (.t 31), some (28, false)⟩,
  ⟨some 33, .load false 1 (.t 32), some (28, false)⟩,
  ⟨some 34, .mv (.t 1), some (28, false)⟩,
  ⟨some 35, .mv (.t 5), some (28, false)⟩,
  ⟨some 36, .iaddrS 3 (.t 34) (.t 35), some (28, false)⟩,
  ⟨some 37, .faddr 1 (.t 36), some (28, false)⟩,
  ⟨some 38, .load false 1 (.t 37), some (28, false)⟩,
  ⟨some 39, .bin .neq (.t 33) (.t 38), some (28, false)⟩,
  ⟨some 40, .pick (.t 28) (.c (.p (.s (.bool true)))) (.t 39), none⟩,
  ⟨some 41, .mv (.t 40), none⟩,
  ⟨some 42, .mv (.t 0), some (41, false)⟩,
  ⟨some 43, .mv (.t 5), some (41, false)⟩,
  ⟨some 44, .iaddrS 3 (.t 42) (.t 43), some (41, false)⟩,
  ⟨some 45, .faddr 2 (.t 44), some (41, false)⟩,
  ⟨some 46, .load false 1 (.t 45), some (41, false)⟩,
  ⟨some 47, .toStr (.t 46), some (41, false)⟩,
  ⟨some 48, .mv (.t 1), some (41, false)⟩,
  ⟨some 49, .mv (.t 5), some (41, false)⟩,
  ⟨some 50, .iaddrS 3 (.t 48) (.t 49), some (41, false)⟩,
  ⟨some 51, .faddr 2 (.t 50), some (41, false)⟩,
  ⟨some 52, .load false 1 (.t 51), some (41, false)⟩,
  ⟨some 53, .toStr (.t 52), some (41, false)⟩,
  ⟨some 54, .bin .neq (.t 47) (.t 53), some (41, false)⟩,
  ⟨some 55, .pick (.t 41) (.c (.p (.s (.bool true)))) (.t 54), none⟩]
abbrev b24_6 : List (List Nat) := [[], [], [0, 1], [2], [3], [], [], [5, 6], [7], [8], [4, 9], [10], [11], [11], [12, 13, 11], [14, 11], [15, 11], [11], [11], [17, 18, 11], [19, 11], [20, 11], [16, 21, 11], [11, 22], [23, 11], [24], [24], [25, 26, 24], [27, 24], [28, 24], [29, 24], [24], [24], [31, 32, 24], [33, 24], [34, 24], [35, 24], [30, 36, 24], [24, 37]]
abbrev r24_7 : List CO := [
  ⟨some 4, .mv (.c (.p (.s (.bool false)))), none⟩]
abbrev k24_1 : CC := .seq (.regd r24_6 b24_6) (.rest [0, 1, 5, 55] (.cond (.t 55) (.seq (.reg r24_7) (.ret)) (.skip)))
abbrev r24_5 : List CO := [
  ⟨some 15, .mv (.t 5), none⟩,
  ⟨some 16, .bin .add (.t 15) (.c (.p (.s (.int .i64 1)))), none⟩,
  ⟨some 5, .mv (.t 16), none⟩]
abbrev l24_10 : CC := .seq (.seq (.reg r24_4) (.rest [0, 1, 5, 14] (.cond (.t 14) (.skip) (.exit 0)))) (.rest [0, 1, 5] (.seq (.block 1 k24_1) (.rest [0, 1, 5] (.reg r24_5))))
abbrev k24_0 : CC := .loop l24_10
abbrev r24_8 : List CO := [
  ⟨some 4, .mv (.c (.p (.s (.bool true)))), none⟩]
abbrev c24 : CC := .seq (.reg r24_0) (.seq (.seq (.reg r24_1) (.rest [0, 1, 10] (.cond (.t 10) (.seq (.reg r24_2) (.ret)) (.skip)))) (.rest [0, 1] (.seq (.seq (.reg r24_3) (.block 0 k24_0)) (.rest [] (.seq (.reg r24_8) (.ret))))))
theorem F24 : Fun Tryd.prog 24 56 c24 [.tmp 4] 2 := ⟨⟨Tryd.f24, _, Tryd.func24, rfl, by kernel_rfl, Tryd.ntmps24, by kernel_rfl, by kernel_rfl⟩, by decide⟩

/-- linnet/linnetref13.Signal -/
abbrev r25_0 : List CO := [
  ⟨some 2, .box (.t 0), none⟩,
  ⟨some 4, .alloc ([.s (.slice none 0 0), .s (.int .i64 0), .s (.bool false), .s (.bool false)]), none⟩,
  ⟨some 5, .mv (.c (.p (.s (.slice none 0 0)))), none⟩]
abbrev r25_1 : List CO := [
  ⟨some 7, .mv (.t 1), none⟩,
  ⟨some 8, .build ([.s (.int .i64 0), .s (.int .i64 0), .s (.slice none 0 0)]) [(0, 1, .c (.p (.s (.int .i64 3)))), (1, 1, .t 7)], none⟩,
  ⟨some 9, .bslice 3 1 ([.s (.int .i64 0), .s (.int .i64 0), .s (.slice none 0 0)]) [(0, .t 8)], none⟩,
  ⟨some 6, .mv (.t 9), none⟩]
abbrev r25_2 : List CO := [
  ⟨some 10, .mv (.t 1), none⟩,
  ⟨some 11, .bin .eql (.t 10) (.c (.p (.s (.int .i64 4)))), none⟩,
  ⟨some 12, .mv (.t 11), none⟩,
  ⟨some 13, .mv (.t 1), some (12, false)⟩,
  ⟨some 14, .bin .eql (.t 13) (.c (.p (.s (.int .i64 5)))), some (12, false)⟩,
  ⟨some 15, .pick (.t 12) (.c (.p (.s (.bool true)))) (.t 14), none⟩,
  ⟨some 16, .mv (.t 15), none⟩,
  ⟨some 17, .mv (.t 1), some (16, false)⟩,
  ⟨some 18, .bin .eql (.t 17) (.c (.p (.s (.int .i64 6)))), some (16, false)⟩,
  ⟨some 19, .pick (.t 16) (.c (.p (.s (.bool true)))) (.t 18), none⟩]
abbrev r25_3 : List CO := [
  ⟨some 20, .faddr 0 (.t 2), none⟩,
  ⟨some 21, .load true 2 (.t 20), none⟩,
  ⟨some 22, .faddr 2 (.t 2), none⟩,
  ⟨some 23, .load false 1 (.t 22), none⟩,
  ⟨some 24, .build ([.s (.slice none 0 0), .s (.int .i64 0), .s (.bool false), .s (.bool false)]) [(0, 2, .t 21), (2, 1, .t 23)], none⟩,
  ⟨some 25, .mv (.t 6), none⟩,
  ⟨none, .store 4 (.t 4) (.t 24), none⟩,
  ⟨some 5, .mv (.t 25), none⟩]
abbrev r25_4 : List CO := [
  ⟨some 26, .mv (.t 1), none⟩,
  ⟨some 27, .bin .eql (.t 26) (.c (.p (.s (.int .i64 8)))), none⟩,
  ⟨some 28, .mv (.t 27), none⟩,
  ⟨some 29, .faddr 0 (.t 2), some (28, true)⟩,
  ⟨some 30, .faddr 0 (.t 29), some (28, true)⟩,
  ⟨some 31, .load false 1 (.t 30), some (28, true)⟩,
  ⟨some 32, .len (.t 31), some (28, true)⟩,
  ⟨some 33, .bin .gtr (.t 32) (.c (.p (.s (.int .i64 0)))), some (28, true)⟩,
  ⟨some 34, .pick (.t 28) (.t 33) (.c (.p (.s (.bool false)))), none⟩]
abbrev r25_5 : List CO := [
  ⟨some 35, .build ([.s (.slice none 0 0), .s (.int .i64 0), .s (.bool false), .s (.bool false)]) [], none⟩,
  ⟨some 36, .faddr 0 (.t 2), none⟩,
  ⟨some 37, .faddr 0 (.t 36), none⟩,
  ⟨some 38, .load false 1 (.t 37), none⟩,
  ⟨some 39, .build ([.s (.int .i64 0), .s (.int .i64 0), .s (.slice none 0 0)]) [(0, 1, .c (.p (.s (.int .i64 2)))), (2, 1, .t 38)], none⟩,
  ⟨some 40, .bslice 3 1 ([.s (.int .i64 0), .s (.int .i64 0), .s (.slice none 0 0)]) [(0, .t 39)], none⟩,
  ⟨none, .store 4 (.t 4) (.t 35), none⟩,
  ⟨some 5, .mv (.t 40), none⟩]
abbrev b25_5 : List (List Nat) := [[], [], [1], [2], [3], [4], [0, 0], [5, 6, 0, 1, 2, 3, 4, 5, 6]]
abbrev r25_6 : List CO := [
  ⟨some 41, .build ([.s (.slice none 0 0), .s (.int .i64 0), .s (.bool false), .s (.bool false)]) [], none⟩,
  ⟨some 42, .mv (.t 6), none⟩,
  ⟨none, .store 4 (.t 4) (.t 41), none⟩,
  ⟨some 5, .mv (.t 42), none⟩]
abbrev c25 : CC := .seq (.reg r25_0) (.seq (.reg r25_1) (.rest [1, 2, 4, 6] (.seq (.seq (.reg r25_2) (.rest [1, 2, 4, 6, 19] (.cond (.t 19) (.seq (.reg r25_3) (.rest [4, 5] (.ret))) (.skip)))) (.rest [1, 2, 4, 6] (.seq (.seq (.reg r25_4) (.rest [2, 4, 6, 34] (.cond (.t 34) (.seq (.regd r25_5 b25_5) (.rest [4, 5] (.ret))) (.skip)))) (.rest [4, 6] (.seq (.reg r25_6) (.rest [4, 5] (.ret)))))))))
theorem F25 : Fun Tryd.prog 25 43 c25 [.cell 4 true 4, .tmp 5] 2 := ⟨⟨Tryd.f25, _, Tryd.func25, rfl, by kernel_rfl, Tryd.ntmps25, by kernel_rfl, by kernel_rfl⟩, by decide⟩

/-- linnet/table.Key -/
abbrev r26_0 : List CO := [
  ⟨some 2, .box (.t 0), none⟩,
  ⟨some 4, .mv (.c (.p (.s (.int .u8 0)))), none⟩,
  ⟨some 5, .mv (.c (.p (.s (.bool false)))), none⟩]
abbrev r26_1 : List CO := [
  ⟨some 7, .mv (.t 1), none⟩,
  ⟨some 8, .bin .eql (.t 7) (.c (.p (.s (.int .i64 31)))), none⟩,
  ⟨some 6, .mv (.t 8), none⟩]
abbrev r26_2 : List CO := [
  ⟨some 4, .mv (.c (.p (.s (.int .u8 13)))), none⟩,
  ⟨some 5, .mv (.c (.p (.s (.bool true)))), none⟩]
abbrev r26_3 : List CO := [
  ⟨some 10, .mv (.t 1), none⟩,
  ⟨some 11, .bin .lss (.t 10) (.c (.p (.s (.int .i64 1)))), none⟩,
  ⟨some 12, .mv (.t 11), none⟩,
  ⟨some 13, .mv (.t 1), some (12, false)⟩,
  ⟨some 14, .bin .geq (.t 13) (.c (.p (.s (.int .i64 31)))), some (12, false)⟩,
  ⟨some 15, .pick (.t 12) (.c (.p (.s (.bool true)))) (.t 14), none⟩,
  ⟨some 16, .mv (.t 15), none⟩,
  ⟨some 17, .mv (.t 1), some (16, false)⟩,
  ⟨some 18, .iaddrA 2 31 (.t 2) (.t 17), some (16, false)⟩,
  ⟨some 19, .faddr 0 (.t 18), some (16, false)⟩,
  ⟨some 20, .load false 1 (.t 19), some (16, false)⟩,
  ⟨some 21, .bin .eql (.t 20) (.c (.p (.s (.int .i64 0)))), some (16, false)⟩,
  ⟨some 22, .pick (.t 16) (.c (.p (.s (.bool true)))) (.t 21), none⟩,
  ⟨some 23, .mv (.t 22), none⟩,
  ⟨some 24, .load true 62 (.t 2), some (23, false)⟩,
  ⟨some 25, .mv (.t 1), some (23, false)⟩,
  ⟨some 26, .iaddrA 2 31 (.t 2) (.t 25), some (23, false)⟩,
  ⟨some 27, .faddr 1 (.t 26), some (23, false)⟩,
  ⟨some 28, .load false 1 (.t 27), some (23, false)⟩,
  ⟨some 29, .call (.c (.fn (.func 19) [] [])) [.t 24, .t 28], some (23, false)⟩,
  ⟨some 30, .mv (.t 1), some (23, false)⟩,
  ⟨some 31, .bin .neq (.t 29) (.t 30), some (23, false)⟩,
  ⟨some 32, .pick (.t 23) (.c (.p (.s (.bool true)))) (.t 31), none⟩,
  ⟨some 9, .mv (.t 32), none⟩]
abbrev b26_3 : List (List Nat) := [[], [0], [1], [2], [3, 2], [2, 4], [5, 2], [6], [7, 6], [8, 6], [9, 6], [10, 6], [6, 11], [12, 6], [13], [13], [15, 13], [16, 13], [17, 13], [14, 18, 13, 13], [13], [19, 20, 13], [13, 21], [22, 19]]
abbrev r26_4 : List CO := [
  ⟨some 4, .mv (.c (.p (.s (.int .u8 0)))), none⟩,
  ⟨some 5, .mv (.c (.p (.s (.bool false)))), none⟩]
abbrev k26_0 : CC := .seq (.reg r26_1) (.cond (.t 6) (.seq (.reg r26_2) (.ret)) (.seq (.regd r26_3 b26_3) (.rest [1, 2, 9] (.cond (.t 9) (.seq (.reg r26_4) (.ret)) (.skip)))))
abbrev r26_5 : List CO := [
  ⟨some 33, .mv (.t 1), none⟩,
  ⟨some 34, .iaddrA 2 31 (.t 2) (.t 33), none⟩,
  ⟨some 35, .faddr 1 (.t 34), none⟩,
  ⟨some 36, .load false 1 (.t 35), none⟩,
  ⟨some 4, .mv (.t 36), none⟩,
  ⟨some 5, .mv (.c (.p (.s (.bool true)))), none⟩]
abbrev c26 : CC := .seq (.reg r26_0) (.seq (.block 0 k26_0) (.rest [1, 2] (.seq (.reg r26_5) (.rest [4, 5] (.ret)))))
theorem F26 : Fun Tryd.prog 26 37 c26 [.tmp 4, .tmp 5] 2 := ⟨⟨Tryd.f26, _, Tryd.func26, rfl, by kernel_rfl, Tryd.ntmps26, by kernel_rfl, by kernel_rfl⟩, by decide⟩

/-- linnet/linnetlaw12.Few -/
abbrev r27_0 : List CO := [
  ⟨some 1, .box (.t 0), none⟩,
  ⟨some 2, .alloc ([.s (.slice none 0 0), .s (.int .i64 0)]), none⟩]
abbrev r27_1 : List CO := [
  ⟨some 3, .faddr 0 (.t 1), none⟩,
  ⟨some 4, .load false 1 (.t 3), none⟩,
  ⟨some 5, .len (.t 4), none⟩,
  ⟨some 6, .bin .gtr (.t 5) (.c (.p (.s (.int .i64 200)))), none⟩,
  ⟨some 7, .mv (.t 6), none⟩,
  ⟨some 8, .faddr 0 (.t 1), some (7, true)⟩,
  ⟨some 9, .load false 1 (.t 8), some (7, true)⟩,
  ⟨some 10, .len (.t 9), some (7, true)⟩,
  ⟨some 11, .bin .lss (.t 10) (.c (.p (.s (.int .i64 4000)))), some (7, true)⟩,
  ⟨some 12, .pick (.t 7) (.t 11) (.c (.p (.s (.bool false)))), none⟩,
  ⟨some 13, .mv (.t 12), none⟩,
  ⟨some 14, .faddr 0 (.t 1), some (13, false)⟩,
  ⟨some 15, .load false 1 (.t 14), some (13, false)⟩,
  ⟨some 16, .len (.t 15), some (13, false)⟩,
  ⟨some 17, .bin .gtr (.t 16) (.c (.p (.s (.int .i64 4100)))), some (13, false)⟩,
  ⟨some 18, .pick (.t 13) (.c (.p (.s (.bool true)))) (.t 17), none⟩]
abbrev r27_2 : List CO := [
  ⟨some 19, .faddr 0 (.t 1), none⟩,
  ⟨some 20, .load false 1 (.t 19), none⟩,
  ⟨some 21, .slice 1 (.t 20) none (some (.c (.p (.s (.int .i64 200))))), none⟩,
  ⟨some 22, .faddr 0 (.t 1), none⟩,
  ⟨none, .store 1 (.t 22) (.t 21), none⟩]
abbrev r27_3 : List CO := [
  ⟨some 23, .load true 2 (.t 1), none⟩,
  ⟨none, .store 2 (.t 2) (.t 23), none⟩]
abbrev c27 : CC := .seq (.reg r27_0) (.seq (.seq (.reg r27_1) (.rest [1, 2, 18] (.cond (.t 18) (.reg r27_2) (.skip)))) (.rest [1, 2] (.seq (.reg r27_3) (.ret))))
theorem F27 : Fun Tryd.prog 27 24 c27 [.cell 2 true 2] 1 := ⟨⟨Tryd.f27, _, Tryd.func27, rfl, by kernel_rfl, Tryd.ntmps27, by kernel_rfl, by kernel_rfl⟩, by decide⟩

/-- linnet/linnetlaw01.Few -/
abbrev r28_0 : List CO := [
  ⟨some 2, .mv (.c (.p (.s (.slice none 0 0)))), none⟩]
abbrev r28_1 : List CO := [
  ⟨some 3, .mv (.t 0), none⟩,
  ⟨some 4, .len (.t 3), none⟩,
  ⟨some 5, .bin .gtr (.t 4) (.c (.p (.s (.int .i64 200)))), none⟩]
abbrev r28_2 : List CO := [
  ⟨some 6, .mv (.t 0), none⟩,
  ⟨some 7, .slice 1 (.t 6) none (some (.c (.p (.s (.int .i64 200))))), none⟩,
  ⟨some 2, .mv (.t 7), none⟩]
abbrev r28_3 : List CO := [
  ⟨some 8, .mv (.t 0), none⟩,
  ⟨some 2, .mv (.t 8), none⟩]
abbrev c28 : CC := .seq (.reg r28_0) (.seq (.seq (.reg r28_1) (.cond (.t 5) (.seq (.reg r28_2) (.ret)) (.skip))) (.rest [0] (.seq (.reg r28_3) (.ret))))
theorem F28 : Fun Tryd.prog 28 9 c28 [.tmp 2] 1 := ⟨⟨Tryd.f28, _, Tryd.func28, rfl, by kernel_rfl, Tryd.ntmps28, by kernel_rfl, by kernel_rfl⟩, by decide⟩

/-- slices.EqualFunc[[]linnet/api.Event,[]linnet/api.Event,linnet/api.Event,linnet/api.Event] -/
abbrev r29_0 : List CO := [
  ⟨some 6, .mv (.c (.p (.s (.bool false)))), none⟩]
abbrev r29_1 : List CO := [
  ⟨some 10, .mv (.t 0), none⟩,
  ⟨some 11, .len (.t 10), none⟩,
  ⟨some 12, .mv (.t 1), none⟩,
  ⟨some 13, .len (.t 12), none⟩,
  ⟨some 14, .bin .neq (.t 11) (.t 13), none⟩]
abbrev r29_2 : List CO := [
  ⟨some 6, .mv (.c (.p (.s (.bool false)))), none⟩]
abbrev r29_3 : List CO := [
  ⟨some 15, .mv (.t 0), none⟩,
  ⟨some 16, .len (.t 15), none⟩,
  ⟨some 17, .mv (.c (.p (.s (.int .i64 0)))), none⟩]
abbrev r29_4 : List CO := [
  ⟨some 18, .bin .lss (.t 17) (.t 16), none⟩]
abbrev r29_5 : List CO := [
  ⟨some 19, .mv (.t 17), none⟩,
  ⟨some 20, .iaddrS 3 (.t 15) (.t 17), none⟩,
  ⟨some 21, .load true 3 (.t 20), none⟩,
  ⟨some 8, .alloc ([.s (.int .i64 0), .s (.int .i64 0), .s (.slice none 0 0)]), none⟩,
  ⟨some 7, .mv (.t 19), none⟩,
  ⟨none, .store 3 (.t 8) (.t 21), none⟩]
abbrev r29_6 : List CO := [
  ⟨some 22, .mv (.t 1), none⟩,
  ⟨some 23, .mv (.t 7), none⟩,
  ⟨some 24, .iaddrS 3 (.t 22) (.t 23), none⟩,
  ⟨some 25, .load true 3 (.t 24), none⟩,
  ⟨some 9, .alloc ([.s (.int .i64 0), .s (.int .i64 0), .s (.slice none 0 0)]), none⟩,
  ⟨none, .store 3 (.t 9) (.t 25), none⟩]
abbrev r29_7 : List CO := [
  ⟨some 26, .mv (.t 2), none⟩,
  ⟨some 27, .load true 3 (.t 8), none⟩,
  ⟨some 28, .load true 3 (.t 9), none⟩,
  ⟨some 29, .call (.t 26) [.t 27, .t 28], none⟩,
  ⟨some 30, .un .not (.t 29), none⟩]
abbrev r29_8 : List CO := [
  ⟨some 6, .mv (.c (.p (.s (.bool false)))), none⟩]
abbrev k29_1 : CC := .seq (.reg r29_5) (.rest [1, 2, 7, 8, 15, 16, 17] (.seq (.reg r29_6) (.rest [1, 2, 8, 9, 15, 16, 17] (.seq (.reg r29_7) (.rest [1, 2, 15, 16, 17, 30] (.cond (.t 30) (.seq (.reg r29_8) (.ret)) (.skip)))))))
abbrev r29_9 : List CO := [
  ⟨some 31, .bin .add (.t 17) (.c (.p (.s (.int .i64 1)))), none⟩,
  ⟨some 17, .mv (.t 31), none⟩]
abbrev l29_11 : CC := .seq (.reg r29_4) (.seq (.cond (.t 18) (.skip) (.exit 0)) (.seq (.block 1 k29_1) (.rest [1, 2, 15, 16, 17] (.reg r29_9))))
abbrev k29_0 : CC := .loop l29_11
abbrev r29_10 : List CO := [
  ⟨some 6, .mv (.c (.p (.s (.bool true)))), none⟩]
abbrev c29 : CC := .seq (.reg r29_0) (.seq (.seq (.reg r29_1) (.rest [0, 1, 2, 14] (.cond (.t 14) (.seq (.reg r29_2) (.ret)) (.skip)))) (.rest [0, 1, 2] (.seq (.seq (.reg r29_3) (.block 0 k29_0)) (.rest [] (.seq (.reg r29_10) (.ret))))))
theorem F29 : Fun Tryd.prog 29 32 c29 [.tmp 6] 3 := ⟨⟨Tryd.f29, _, Tryd.func29, rfl, by kernel_rfl, Tryd.ntmps29, by kernel_rfl, by kernel_rfl⟩, by decide⟩

/-- linnet/editor.Alike$1 -/
abbrev r30_0 : List CO := [
  ⟨some 2, .box (.t 0), none⟩,
  ⟨some 3, .box (.t 1), none⟩,
  ⟨some 4, .mv (.c (.p (.s (.bool false)))), none⟩]
abbrev r30_1 : List CO := [
  ⟨some 5, .faddr 0 (.t 2), none⟩,
  ⟨some 6, .load false 1 (.t 5), none⟩,
  ⟨some 7, .faddr 0 (.t 3), none⟩,
  ⟨some 8, .load false 1 (.t 7), none⟩,
  ⟨some 9, .bin .eql (.t 6) (.t 8), none⟩,
  ⟨some 10, .mv (.t 9), none⟩,
  ⟨some 11, .faddr 1 (.t 2), some (10, true)⟩,
  ⟨some 12, .load false 1 (.t 11), some (10, true)⟩,
  ⟨some 13, .faddr 1 (.t 3), some (10, true)⟩,
  ⟨some 14, .load false 1 (.t 13), some (10, true)⟩,
  ⟨some 15, .bin .eql (.t 12) (.t 14), some (10, true)⟩,
  ⟨some 16, .pick (.t 10) (.t 15) (.c (.p (.s (.bool false)))), none⟩,
  ⟨some 17, .mv (.t 16), none⟩,
  ⟨some 18, .faddr 2 (.t 2), some (17, true)⟩,
  ⟨some 19, .load false 1 (.t 18), some (17, true)⟩,
  ⟨some 20, .faddr 2 (.t 3), some (17, true)⟩,
  ⟨some 21, .load false 1 (.t 20), some (17, true)⟩,
  ⟨some 22, .call (.c (.fn (.func 31) [] [])) [.t 19, .t 21], some (17, true)⟩,
  ⟨some 23, .pick (.t 17) (.t 22) (.c (.p (.s (.bool false)))), none⟩,
  ⟨some 4, .mv (.t 23), none⟩]
abbrev c30 : CC := .seq (.reg r30_0) (.seq (.reg r30_1) (.rest [4] (.ret)))
theorem F30 : Fun Tryd.prog 30 24 c30 [.tmp 4] 2 := ⟨⟨Tryd.f30, _, Tryd.func30, rfl, by kernel_rfl, Tryd.ntmps30, by kernel_rfl, by kernel_rfl⟩, by decide⟩

/-- bytes.Equal -/
abbrev r31_0 : List CO := [
  ⟨some 4, .mv (.c (.p (.s (.bool false)))), none⟩]
abbrev r31_1 : List CO := [
  ⟨some 5, .mv (.t 0), none⟩,
  ⟨some 6, .toStr (.t 5), none⟩,
  ⟨some 7, .mv (.t 1), none⟩,
  ⟨some 8, .toStr (.t 7), none⟩,
  ⟨some 9, .bin .eql (.t 6) (.t 8), none⟩,
  ⟨some 4, .mv (.t 9), none⟩]
abbrev c31 : CC := .seq (.reg r31_0) (.seq (.reg r31_1) (.rest [4] (.ret)))
theorem F31 : Fun Tryd.prog 31 10 c31 [.tmp 4] 2 := ⟨⟨Tryd.f31, _, Tryd.func31, rfl, by kernel_rfl, Tryd.ntmps31, by kernel_rfl, by kernel_rfl⟩, by decide⟩

/-- linnet/table.Standard -/
abbrev r32_0 : List CO := [
  ⟨some 0, .alloc (tz62), none⟩]
abbrev r32_1 : List CO := [
  ⟨some 1, .alloc (tz62), none⟩]
abbrev r32_2 : List CO := [
  ⟨some 4, .mv (.c (.p (.s (.int .i64 0)))), none⟩]
abbrev r32_3 : List CO := [
  ⟨some 5, .bin .lss (.t 4) (.c (.p (.s (.int .i64 31)))), none⟩]
abbrev r32_4 : List CO := [
  ⟨some 6, .mv (.t 4), none⟩,
  ⟨some 2, .mv (.t 6), none⟩]
abbrev r32_5 : List CO := [
  ⟨some 7, .mv (.t 2), none⟩,
  ⟨some 8, .iaddrA 1 31 (.g 0) (.t 7), none⟩,
  ⟨some 9, .load false 1 (.t 8), none⟩,
  ⟨some 3, .mv (.t 9), none⟩]
abbrev r32_6 : List CO := [
  ⟨some 10, .mv (.t 3), none⟩,
  ⟨some 11, .bin .gtr (.t 10) (.c (.p (.s (.int .u8 0)))), none⟩]
abbrev r32_7 : List CO := [
  ⟨some 12, .mv (.t 2), none⟩,
  ⟨some 13, .mv (.t 3), none⟩,
  ⟨some 14, .build ([.s (.int .i64 0), .s (.int .u8 0)]) [(0, 1, .c (.p (.s (.int .i64 2)))), (1, 1, .t 13)], none⟩,
  ⟨some 15, .iaddrA 2 31 (.t 1) (.t 12), none⟩,
  ⟨none, .store 2 (.t 15) (.t 14), none⟩]
abbrev k32_1 : CC := .seq (.reg r32_4) (.seq (.reg r32_5) (.rest [0, 1, 2, 3, 4] (.seq (.reg r32_6) (.cond (.t 11) (.reg r32_7) (.skip)))))
abbrev r32_8 : List CO := [
  ⟨some 16, .bin .add (.t 4) (.c (.p (.s (.int .i64 1)))), none⟩,
  ⟨some 4, .mv (.t 16), none⟩]
abbrev l32_10 : CC := .seq (.reg r32_3) (.seq (.cond (.t 5) (.skip) (.exit 0)) (.seq (.block 1 k32_1) (.rest [0, 1, 4] (.reg r32_8))))
abbrev k32_0 : CC := .loop l32_10
abbrev r32_9 : List CO := [
  ⟨some 17, .load true 62 (.t 1), none⟩,
  ⟨none, .store 62 (.t 0) (.t 17), none⟩]
abbrev c32 : CC := .seq (.reg r32_0) (.seq (.reg r32_1) (.seq (.seq (.reg r32_2) (.block 0 k32_0)) (.rest [0, 1] (.seq (.reg r32_9) (.ret)))))
theorem F32 : Fun Tryd.prog 32 18 c32 [.cell 0 true 62] 0 := ⟨⟨Tryd.f32, _, Tryd.func32, rfl, by kernel_rfl, Tryd.ntmps32, by kernel_rfl, by kernel_rfl⟩, by decide⟩

/-- (*linnet/editor.work).typed -/
abbrev r33_0 : List CO := [
  ⟨some 7, .mv (.t 0), none⟩,
  ⟨some 8, .nilchk (.t 7), none⟩,
  ⟨some 9, .faddr 0 (.t 8), none⟩,
  ⟨some 10, .faddr 0 (.t 9), none⟩,
  ⟨some 11, .load true 2 (.t 10), none⟩,
  ⟨some 12, .mv (.t 0), none⟩,
  ⟨some 13, .nilchk (.t 12), none⟩,
  ⟨some 14, .faddr 4 (.t 13), none⟩,
  ⟨some 15, .load false 1 (.t 14), none⟩,
  ⟨some 16, .mv (.t 0), none⟩,
  ⟨some 17, .nilchk (.t 16), none⟩,
  ⟨some 18, .faddr 0 (.t 17), none⟩,
  ⟨some 19, .faddr 2 (.t 18), none⟩,
  ⟨some 20, .load false 1 (.t 19), none⟩,
  ⟨some 21, .mv (.t 1), none⟩,
  ⟨some 22, .call (.c (.fn (.func 17) [] [])) [.t 11, .t 15, .t 20, .t 21], none⟩,
  ⟨some 6, .mv (.t 22), none⟩,
  ⟨some 23, .extract 0 (.t 6), none⟩,
  ⟨some 24, .extract 1 (.t 6), none⟩,
  ⟨some 4, .alloc ([.s (.slice none 0 0), .s (.int .i64 0)]), none⟩,
  ⟨none, .store 2 (.t 4) (.t 23), none⟩,
  ⟨some 5, .mv (.t 24), none⟩]
abbrev b33_0 : List (List Nat) := [[], [0], [1], [2], [3], [], [5], [6], [7], [], [9], [10], [11], [12], [], [4, 8, 13, 14], [15], [16], [16], [], [19, 17, 15, 0, 1, 2, 3, 4, 5, 6, 7, 8, 9, 10, 11, 12, 13, 14, 15, 16, 17, 19], [18, 20, 0, 1, 2, 3, 4, 5, 6, 7, 8, 9, 10, 11, 12, 13, 14, 15, 16, 17, 18, 19, 20]]
abbrev r33_1 : List CO := [
  ⟨some 25, .mv (.t 0), none⟩,
  ⟨some 26, .mv (.t 0), none⟩,
  ⟨some 27, .load true 2 (.t 4), none⟩,
  ⟨some 28, .mv (.t 5), none⟩,
  ⟨some 29, .un .not (.t 28), none⟩,
  ⟨some 30, .nilchk (.t 25), none⟩,
  ⟨some 31, .faddr 0 (.t 30), none⟩,
  ⟨some 32, .faddr 0 (.t 31), none⟩,
  ⟨none, .store 2 (.t 32) (.t 27), none⟩,
  ⟨some 33, .nilchk (.t 26), none⟩,
  ⟨some 34, .faddr 6 (.t 33), none⟩,
  ⟨none, .store 1 (.t 34) (.t 29), none⟩]
abbrev c33 : CC := .seq (.regd r33_0 b33_0) (.rest [0, 4, 5] (.reg r33_1))
theorem F33 : Fun Tryd.prog 33 35 c33 [] 2 := ⟨⟨Tryd.f33, _, Tryd.func33, rfl, by kernel_rfl, Tryd.ntmps33, by kernel_rfl, by kernel_rfl⟩, by decide⟩

/-- (*linnet/editor.work).means -/
abbrev r34_1 : List CO := [
  ⟨some 21, .mv (.t 1), none⟩,
  ⟨some 22, .bin .eql (.t 21) (.c (.p (.s (.int .i64 0)))), none⟩,
  ⟨some 23, .mv (.t 22), none⟩,
  ⟨some 24, .mv (.t 1), some (23, false)⟩,
  ⟨some 25, .bin .eql (.t 24) (.c (.p (.s (.int .i64 17)))), some (23, false)⟩,
  ⟨some 26, .pick (.t 23) (.c (.p (.s (.bool true)))) (.t 25), none⟩,
  ⟨some 27, .mv (.t 26), none⟩,
  ⟨some 28, .mv (.t 1), some (27, false)⟩,
  ⟨some 29, .bin .eql (.t 28) (.c (.p (.s (.int .i64 18)))), some (27, false)⟩,
  ⟨some 30, .pick (.t 27) (.c (.p (.s (.bool true)))) (.t 29), none⟩,
  ⟨some 20, .mv (.t 30), none⟩]
abbrev r34_2 : List CO := [
  ⟨some 31, .mv (.t 0), none⟩,
  ⟨some 32, .mv (.t 2), none⟩,
  ⟨some 33, .call (.c (.fn (.func 33) [] [])) [.t 31, .t 32], none⟩]
abbrev r34_3 : List CO := [
  ⟨some 35, .mv (.t 1), none⟩,
  ⟨some 36, .bin .eql (.t 35) (.c (.p (.s (.int .i64 31)))), none⟩,
  ⟨some 34, .mv (.t 36), none⟩]
abbrev r34_4 : List CO := [
  ⟨some 37, .mv (.t 0), none⟩,
  ⟨some 38, .mv (.t 0), none⟩,
  ⟨some 39, .nilchk (.t 38), none⟩,
  ⟨some 40, .faddr 0 (.t 39), none⟩,
  ⟨some 41, .faddr 0 (.t 40), none⟩,
  ⟨some 42, .faddr 0 (.t 41), none⟩,
  ⟨some 43, .load false 1 (.t 42), none⟩,
  ⟨some 44, .build ([.s (.int .i64 0), .s (.int .i64 0), .s (.slice none 0 0)]) [(0, 1, .c (.p (.s (.int .i64 1)))), (2, 1, .t 43)], none⟩,
  ⟨some 45, .call (.c (.fn (.func 41) [] [])) [.t 37, .t 44], none⟩]
abbrev r34_5 : List CO := [
  ⟨some 47, .mv (.t 1), none⟩,
  ⟨some 48, .bin .leq (.t 47) (.c (.p (.s (.int .i64 9)))), none⟩,
  ⟨some 46, .mv (.t 48), none⟩]
abbrev r34_6 : List CO := [
  ⟨some 49, .mv (.t 0), none⟩,
  ⟨some 50, .mv (.t 1), none⟩,
  ⟨some 51, .call (.c (.fn (.func 37) [] [])) [.t 49, .t 50], none⟩]
abbrev r34_7 : List CO := [
  ⟨some 53, .mv (.t 1), none⟩,
  ⟨some 54, .bin .eql (.t 53) (.c (.p (.s (.int .i64 14)))), none⟩,
  ⟨some 52, .mv (.t 54), none⟩]
abbrev r34_8 : List CO := [
  ⟨some 55, .mv (.t 0), none⟩,
  ⟨some 56, .nilchk (.t 55), none⟩,
  ⟨some 57, .faddr 0 (.t 56), none⟩,
  ⟨some 58, .faddr 3 (.t 57), none⟩,
  ⟨none, .store 1 (.t 58) (.c (.p (.s (.bool true)))), none⟩]
abbrev r34_9 : List CO := [
  ⟨some 60, .mv (.t 1), none⟩,
  ⟨some 61, .bin .eql (.t 60) (.c (.p (.s (.int .i64 25)))), none⟩,
  ⟨some 62, .mv (.t 61), none⟩,
  ⟨some 63, .mv (.t 1), some (62, false)⟩,
  ⟨some 64, .bin .eql (.t 63) (.c (.p (.s (.int .i64 26)))), some (62, false)⟩,
  ⟨some 65, .pick (.t 62) (.c (.p (.s (.bool true)))) (.t 64), none⟩,
  ⟨some 59, .mv (.t 65), none⟩]
abbrev r34_10 : List CO := [
  ⟨some 66, .mv (.t 0), none⟩,
  ⟨some 67, .mv (.t 1), none⟩,
  ⟨some 68, .bin .eql (.t 67) (.c (.p (.s (.int .i64 26)))), none⟩,
  ⟨some 69, .nilchk (.t 66), none⟩,
  ⟨some 70, .faddr 0 (.t 69), none⟩,
  ⟨some 71, .faddr 2 (.t 70), none⟩,
  ⟨none, .store 1 (.t 71) (.t 68), none⟩]
abbrev r34_0 : List CO := [
  ⟨some 7, .mv (.t 0), none⟩,
  ⟨some 8, .mv (.t 0), none⟩,
  ⟨some 9, .nilchk (.t 8), none⟩,
  ⟨some 10, .faddr 0 (.t 9), none⟩,
  ⟨some 11, .faddr 0 (.t 10), none⟩,
  ⟨some 12, .load true 2 (.t 11), none⟩,
  ⟨some 13, .mv (.t 1), none⟩,
  ⟨some 14, .call (.c (.fn (.func 42) [] [])) [.t 12, .t 13], none⟩,
  ⟨some 6, .mv (.t 14), none⟩,
  ⟨some 15, .extract 0 (.t 6), none⟩,
  ⟨some 16, .extract 1 (.t 6), none⟩,
  ⟨some 17, .nilchk (.t 7), none⟩,
  ⟨some 18, .faddr 0 (.t 17), none⟩,
  ⟨some 19, .faddr 0 (.t 18), none⟩,
  ⟨none, .store 2 (.t 19) (.t 15), none⟩]
abbrev k34_0 : CC := .seq (.reg r34_1) (.rest [0, 1, 2, 20] (.cond (.t 20) (.reg r34_2) (.seq (.reg r34_3) (.cond (.t 34) (.reg r34_4) (.seq (.reg r34_5) (.cond (.t 46) (.reg r34_6) (.seq (.reg r34_7) (.cond (.t 52) (.reg r34_8) (.seq (.reg r34_9) (.rest [0, 1, 59] (.cond (.t 59) (.reg r34_10) (.reg r34_0))))))))))))
abbrev c34 : CC := .block 0 k34_0
theorem F34 : Fun Tryd.prog 34 72 c34 [] 3 := ⟨⟨Tryd.f34, _, Tryd.func34, rfl, by kernel_rfl, Tryd.ntmps34, by kernel_rfl, by kernel_rfl⟩, by decide⟩

/-- linnet/line.Check -/
abbrev r35_0 : List CO := [
  ⟨some 1, .box (.t 0), none⟩,
  ⟨some 2, .mv (.c (.p (.s (.int .i64 0)))), none⟩]
abbrev r35_1 : List CO := [
  ⟨some 3, .faddr 0 (.t 1), none⟩,
  ⟨some 4, .load false 1 (.t 3), none⟩,
  ⟨some 5, .len (.t 4), none⟩,
  ⟨some 6, .bin .gtr (.t 5) (.c (.p (.s (.int .i64 4096)))), none⟩,
  ⟨some 7, .mv (.t 6), none⟩,
  ⟨some 8, .faddr 1 (.t 1), some (7, false)⟩,
  ⟨some 9, .load false 1 (.t 8), some (7, false)⟩,
  ⟨some 10, .bin .lss (.t 9) (.c (.p (.s (.int .i64 0)))), some (7, false)⟩,
  ⟨some 11, .pick (.t 7) (.c (.p (.s (.bool true)))) (.t 10), none⟩,
  ⟨some 12, .mv (.t 11), none⟩,
  ⟨some 13, .faddr 1 (.t 1), some (12, false)⟩,
  ⟨some 14, .load false 1 (.t 13), some (12, false)⟩,
  ⟨some 15, .faddr 0 (.t 1), some (12, false)⟩,
  ⟨some 16, .load false 1 (.t 15), some (12, false)⟩,
  ⟨some 17, .len (.t 16), some (12, false)⟩,
  ⟨some 18, .bin .gtr (.t 14) (.t 17), some (12, false)⟩,
  ⟨some 19, .pick (.t 12) (.c (.p (.s (.bool true)))) (.t 18), none⟩]
abbrev r35_2 : List CO := [
  ⟨some 2, .mv (.c (.p (.s (.int .i64 1)))), none⟩]
abbrev r35_3 : List CO := [
  ⟨some 2, .mv (.c (.p (.s (.int .i64 0)))), none⟩]
abbrev c35 : CC := .seq (.reg r35_0) (.seq (.seq (.reg r35_1) (.rest [19] (.cond (.t 19) (.seq (.reg r35_2) (.ret)) (.skip)))) (.rest [] (.seq (.reg r35_3) (.ret))))
theorem F35 : Fun Tryd.prog 35 20 c35 [.tmp 2] 1 := ⟨⟨Tryd.f35, _, Tryd.func35, rfl, by kernel_rfl, Tryd.ntmps35, by kernel_rfl, by kernel_rfl⟩, by decide⟩

/-- bytes.Clone -/
abbrev r36_0 : List CO := [
  ⟨some 2, .mv (.c (.p (.s (.slice none 0 0)))), none⟩]
abbrev r36_1 : List CO := [
  ⟨some 3, .mv (.t 0), none⟩,
  ⟨some 4, .isnil false (.t 3), none⟩]
abbrev r36_2 : List CO := [
  ⟨some 2, .mv (.c (.p (.s (.slice none 0 0)))), none⟩]
abbrev r36_3 : List CO := [
  ⟨some 5, .bslice 1 0 ([.s (.int .u8 0)]) [], none⟩,
  ⟨some 6, .mv (.t 0), none⟩,
  ⟨some 7, .append 1 1 ([.s (.int .u8 0)]) (.t 5) (.t 6), none⟩,
  ⟨some 2, .mv (.t 7), none⟩]
abbrev c36 : CC := .seq (.reg r36_0) (.seq (.seq (.reg r36_1) (.cond (.t 4) (.seq (.reg r36_2) (.ret)) (.skip))) (.seq (.reg r36_3) (.rest [2] (.ret))))
theorem F36 : Fun Tryd.prog 36 8 c36 [.tmp 2] 1 := ⟨⟨Tryd.f36, _, Tryd.func36, rfl, by kernel_rfl, Tryd.ntmps36, by kernel_rfl, by kernel_rfl⟩, by decide⟩

/-- (*linnet/editor.work).signal -/
abbrev r37_0 : List CO := [
  ⟨some 6, .mv (.t 0), none⟩,
  ⟨some 7, .mkfn (.func 41) [.t 6] [], none⟩,
  ⟨some 4, .mv (.t 7), none⟩]
abbrev r37_1 : List CO := [
  ⟨some 8, .mv (.t 1), none⟩,
  ⟨some 9, .build ([.s (.int .i64 0), .s (.int .i64 0), .s (.slice none 0 0)]) [(0, 1, .c (.p (.s (.int .i64 3)))), (1, 1, .t 8)], none⟩,
  ⟨some 5, .alloc ([.s (.int .i64 0), .s (.int .i64 0), .s (.slice none 0 0)]), none⟩,
  ⟨none, .store 3 (.t 5) (.t 9), none⟩]
abbrev r37_2 : List CO := [
  ⟨some 10, .mv (.t 1), none⟩]
abbrev r37_3 : List CO := [
  ⟨some 12, .bin .eql (.t 10) (.c (.p (.s (.int .i64 4)))), none⟩,
  ⟨some 11, .mv (.t 12), none⟩]
abbrev r37_4 : List CO := [
  ⟨some 13, .bin .eql (.t 10) (.c (.p (.s (.int .i64 5)))), none⟩,
  ⟨some 11, .mv (.t 13), none⟩]
abbrev r37_5 : List CO := [
  ⟨some 14, .bin .eql (.t 10) (.c (.p (.s (.int .i64 6)))), none⟩,
  ⟨some 11, .mv (.t 14), none⟩]
abbrev r37_6 : List CO := [
  ⟨some 15, .mv (.t 0), none⟩,
  ⟨some 16, .mkfn (.func 43) [.t 15] [], none⟩,
  ⟨some 4, .mv (.t 16), none⟩]
abbrev r37_7 : List CO := [
  ⟨some 18, .bin .eql (.t 10) (.c (.p (.s (.int .i64 8)))), none⟩,
  ⟨some 17, .mv (.t 18), none⟩]
abbrev r37_8 : List CO := [
  ⟨some 19, .mv (.t 0), none⟩,
  ⟨some 20, .nilchk (.t 19), none⟩,
  ⟨some 21, .faddr 0 (.t 20), none⟩,
  ⟨some 22, .faddr 0 (.t 21), none⟩,
  ⟨some 23, .faddr 0 (.t 22), none⟩,
  ⟨some 24, .load false 1 (.t 23), none⟩,
  ⟨some 25, .len (.t 24), none⟩,
  ⟨some 26, .bin .gtr (.t 25) (.c (.p (.s (.int .i64 0)))), none⟩]
abbrev r37_9 : List CO := [
  ⟨some 27, .mv (.t 0), none⟩,
  ⟨some 28, .nilchk (.t 27), none⟩,
  ⟨some 29, .faddr 0 (.t 28), none⟩,
  ⟨some 30, .faddr 0 (.t 29), none⟩,
  ⟨some 31, .faddr 0 (.t 30), none⟩,
  ⟨some 32, .load false 1 (.t 31), none⟩,
  ⟨some 33, .build ([.s (.int .i64 0), .s (.int .i64 0), .s (.slice none 0 0)]) [(0, 1, .c (.p (.s (.int .i64 2)))), (2, 1, .t 32)], none⟩,
  ⟨none, .store 3 (.t 5) (.t 33), none⟩]
abbrev k37_0 : CC := .seq (.seq (.reg r37_3) (.cond (.t 11) (.skip) (.seq (.reg r37_4) (.cond (.t 11) (.skip) (.reg r37_5))))) (.rest [0, 4, 5, 10, 11] (.cond (.t 11) (.reg r37_6) (.seq (.reg r37_7) (.cond (.t 17) (.seq (.reg r37_8) (.rest [0, 4, 5, 26] (.cond (.t 26) (.reg r37_9) (.skip)))) (.skip)))))
abbrev r37_10 : List CO := [
  ⟨some 34, .mv (.t 4), none⟩,
  ⟨some 35, .load true 3 (.t 5), none⟩,
  ⟨some 36, .call (.t 34) [.t 35], none⟩]
abbrev c37 : CC := .seq (.reg r37_0) (.seq (.reg r37_1) (.rest [0, 1, 4, 5] (.seq (.seq (.reg r37_2) (.block 0 k37_0)) (.rest [4, 5] (.reg r37_10)))))
theorem F37 : Fun Tryd.prog 37 37 c37 [] 2 := ⟨⟨Tryd.f37, _, Tryd.func37, rfl, by kernel_rfl, Tryd.ntmps37, by kernel_rfl, by kernel_rfl⟩, by decide⟩

/-- linnet/linnetref12.May -/
abbrev r38_0 : List CO := [
  ⟨some 1, .box (.t 0), none⟩,
  ⟨some 2, .mv (.c (.p (.s (.bool false)))), none⟩]
abbrev r38_1 : List CO := [
  ⟨some 3, .faddr 0 (.t 1), none⟩,
  ⟨some 4, .load false 1 (.t 3), none⟩,
  ⟨some 5, .len (.t 4), none⟩,
  ⟨some 6, .bin .leq (.t 5) (.c (.p (.s (.int .i64 4096)))), none⟩,
  ⟨some 7, .mv (.t 6), none⟩,
  ⟨some 8, .faddr 1 (.t 1), some (7, true)⟩,
  ⟨some 9, .load false 1 (.t 8), some (7, true)⟩,
  ⟨some 10, .bin .geq (.t 9) (.c (.p (.s (.int .i64 0)))), some (7, true)⟩,
  ⟨some 11, .pick (.t 7) (.t 10) (.c (.p (.s (.bool false)))), none⟩,
  ⟨some 12, .mv (.t 11), none⟩,
  ⟨some 13, .faddr 1 (.t 1), some (12, true)⟩,
  ⟨some 14, .load false 1 (.t 13), some (12, true)⟩,
  ⟨some 15, .faddr 0 (.t 1), some (12, true)⟩,
  ⟨some 16, .load false 1 (.t 15), some (12, true)⟩,
  ⟨some 17, .len (.t 16), some (12, true)⟩,
  ⟨some 18, .bin .leq (.t 14) (.t 17), some (12, true)⟩,
  ⟨some 19, .pick (.t 12) (.t 18) (.c (.p (.s (.bool false)))), none⟩,
  ⟨some 2, .mv (.t 19), none⟩]
abbrev c38 : CC := .seq (.reg r38_0) (.seq (.reg r38_1) (.rest [2] (.ret)))
theorem F38 : Fun Tryd.prog 38 20 c38 [.tmp 2] 1 := ⟨⟨Tryd.f38, _, Tryd.func38, rfl, by kernel_rfl, Tryd.ntmps38, by kernel_rfl, by kernel_rfl⟩, by decide⟩

/-- linnet/linnetref13.Key -/
abbrev r39_0 : List CO := [
  ⟨some 4, .box (.t 0), none⟩,
  ⟨some 6, .box (.t 2), none⟩,
  ⟨some 8, .alloc ([.s (.slice none 0 0), .s (.int .i64 0), .s (.bool false), .s (.bool false)]), none⟩,
  ⟨some 9, .mv (.c (.p (.s (.slice none 0 0)))), none⟩,
  ⟨some 10, .mv (.c (.p (.s (.bool false)))), none⟩]
abbrev r39_1 : List CO := [
  ⟨some 16, .load true 62 (.t 4), none⟩,
  ⟨some 17, .mv (.t 3), none⟩,
  ⟨some 18, .call (.c (.fn (.func 44) [] [])) [.t 16, .t 17], none⟩,
  ⟨some 11, .mv (.t 18), none⟩]
abbrev r39_2 : List CO := [
  ⟨some 19, .faddr 3 (.t 6), none⟩,
  ⟨some 20, .load false 1 (.t 19), none⟩,
  ⟨some 21, .mv (.t 20), none⟩,
  ⟨some 22, .mv (.t 11), some (21, false)⟩,
  ⟨some 23, .bin .eql (.t 22) (.c (.p (.s (.int .i64 0)))), some (21, false)⟩,
  ⟨some 24, .pick (.t 21) (.c (.p (.s (.bool true)))) (.t 23), none⟩,
  ⟨some 25, .mv (.t 24), none⟩,
  ⟨some 26, .mv (.t 11), some (25, false)⟩,
  ⟨some 27, .bin .eql (.t 26) (.c (.p (.s (.int .i64 17)))), some (25, false)⟩,
  ⟨some 28, .pick (.t 25) (.c (.p (.s (.bool true)))) (.t 27), none⟩,
  ⟨some 29, .mv (.t 28), none⟩,
  ⟨some 30, .mv (.t 11), some (29, false)⟩,
  ⟨some 31, .bin .eql (.t 30) (.c (.p (.s (.int .i64 18)))), some (29, false)⟩,
  ⟨some 32, .pick (.t 29) (.c (.p (.s (.bool true)))) (.t 31), none⟩]
abbrev r39_3 : List CO := [
  ⟨some 33, .load true 4 (.t 6), none⟩,
  ⟨some 34, .mv (.t 1), none⟩,
  ⟨some 35, .mv (.t 3), none⟩,
  ⟨some 36, .call (.c (.fn (.func 45) [] [])) [.t 33, .t 34, .t 35], none⟩,
  ⟨some 37, .extract 0 (.t 36), none⟩,
  ⟨some 38, .extract 1 (.t 36), none⟩,
  ⟨some 39, .extract 2 (.t 36), none⟩,
  ⟨none, .store 4 (.t 8) (.t 37), none⟩,
  ⟨some 9, .mv (.t 38), none⟩,
  ⟨some 10, .mv (.t 39), none⟩]
abbrev r39_4 : List CO := [
  ⟨some 40, .mv (.t 11), none⟩,
  ⟨some 41, .bin .eql (.t 40) (.c (.p (.s (.int .i64 31)))), none⟩]
abbrev r39_5 : List CO := [
  ⟨some 42, .build ([.s (.slice none 0 0), .s (.int .i64 0), .s (.bool false), .s (.bool false)]) [], none⟩,
  ⟨some 43, .faddr 0 (.t 6), none⟩,
  ⟨some 44, .faddr 0 (.t 43), none⟩,
  ⟨some 45, .load false 1 (.t 44), none⟩,
  ⟨some 46, .build ([.s (.int .i64 0), .s (.int .i64 0), .s (.slice none 0 0)]) [(0, 1, .c (.p (.s (.int .i64 1)))), (2, 1, .t 45)], none⟩,
  ⟨some 47, .bslice 3 1 ([.s (.int .i64 0), .s (.int .i64 0), .s (.slice none 0 0)]) [(0, .t 46)], none⟩,
  ⟨none, .store 4 (.t 8) (.t 42), none⟩,
  ⟨some 9, .mv (.t 47), none⟩,
  ⟨some 10, .mv (.c (.p (.s (.bool false)))), none⟩]
abbrev b39_5 : List (List Nat) := [[], [], [1], [2], [3], [4], [0, 0], [5, 6, 0, 1, 2, 3, 4, 5, 6], [7, 0, 1, 2, 3, 4, 5, 6, 7]]
abbrev r39_6 : List CO := [
  ⟨some 48, .mv (.t 11), none⟩,
  ⟨some 49, .bin .leq (.t 48) (.c (.p (.s (.int .i64 9)))), none⟩]
abbrev r39_7 : List CO := [
  ⟨some 51, .load true 4 (.t 6), none⟩,
  ⟨some 52, .mv (.t 11), none⟩,
  ⟨some 53, .call (.c (.fn (.func 25) [] [])) [.t 51, .t 52], none⟩,
  ⟨some 50, .mv (.t 53), none⟩,
  ⟨some 54, .extract 0 (.t 50), none⟩,
  ⟨some 55, .extract 1 (.t 50), none⟩,
  ⟨some 12, .alloc ([.s (.slice none 0 0), .s (.int .i64 0), .s (.bool false), .s (.bool false)]), none⟩,
  ⟨none, .store 4 (.t 12) (.t 54), none⟩,
  ⟨some 13, .mv (.t 55), none⟩]
abbrev r39_8 : List CO := [
  ⟨some 56, .load true 4 (.t 12), none⟩,
  ⟨some 57, .mv (.t 13), none⟩,
  ⟨none, .store 4 (.t 8) (.t 56), none⟩,
  ⟨some 9, .mv (.t 57), none⟩,
  ⟨some 10, .mv (.c (.p (.s (.bool false)))), none⟩]
abbrev r39_9 : List CO := [
  ⟨some 58, .mv (.t 11), none⟩,
  ⟨some 59, .bin .eql (.t 58) (.c (.p (.s (.int .i64 14)))), none⟩]
abbrev r39_10 : List CO := [
  ⟨some 60, .faddr 0 (.t 6), none⟩,
  ⟨some 61, .load true 2 (.t 60), none⟩,
  ⟨some 62, .faddr 2 (.t 6), none⟩,
  ⟨some 63, .load false 1 (.t 62), none⟩,
  ⟨some 64, .build ([.s (.slice none 0 0), .s (.int .i64 0), .s (.bool false), .s (.bool false)]) [(0, 2, .t 61), (2, 1, .t 63), (3, 1, .c (.p (.s (.bool true))))], none⟩,
  ⟨none, .store 4 (.t 8) (.t 64), none⟩,
  ⟨some 9, .mv (.c (.p (.s (.slice none 0 0)))), none⟩,
  ⟨some 10, .mv (.c (.p (.s (.bool false)))), none⟩]
abbrev r39_11 : List CO := [
  ⟨some 65, .mv (.t 11), none⟩,
  ⟨some 66, .bin .eql (.t 65) (.c (.p (.s (.int .i64 25)))), none⟩,
  ⟨some 67, .mv (.t 66), none⟩,
  ⟨some 68, .mv (.t 11), some (67, false)⟩,
  ⟨some 69, .bin .eql (.t 68) (.c (.p (.s (.int .i64 26)))), some (67, false)⟩,
  ⟨some 70, .pick (.t 67) (.c (.p (.s (.bool true)))) (.t 69), none⟩]
abbrev r39_12 : List CO := [
  ⟨some 71, .faddr 0 (.t 6), none⟩,
  ⟨some 72, .load true 2 (.t 71), none⟩,
  ⟨some 73, .mv (.t 11), none⟩,
  ⟨some 74, .bin .eql (.t 73) (.c (.p (.s (.int .i64 26)))), none⟩,
  ⟨some 75, .build ([.s (.slice none 0 0), .s (.int .i64 0), .s (.bool false), .s (.bool false)]) [(0, 2, .t 72), (2, 1, .t 74)], none⟩,
  ⟨none, .store 4 (.t 8) (.t 75), none⟩,
  ⟨some 9, .mv (.c (.p (.s (.slice none 0 0)))), none⟩,
  ⟨some 10, .mv (.c (.p (.s (.bool false)))), none⟩]
abbrev r39_13 : List CO := [
  ⟨some 77, .faddr 0 (.t 6), none⟩,
  ⟨some 78, .load true 2 (.t 77), none⟩,
  ⟨some 79, .mv (.t 11), none⟩,
  ⟨some 80, .call (.c (.fn (.func 46) [] [])) [.t 78, .t 79], none⟩,
  ⟨some 76, .mv (.t 80), none⟩,
  ⟨some 81, .extract 0 (.t 76), none⟩,
  ⟨some 82, .extract 1 (.t 76), none⟩,
  ⟨some 14, .alloc ([.s (.slice none 0 0), .s (.int .i64 0)]), none⟩,
  ⟨none, .store 2 (.t 14) (.t 81), none⟩,
  ⟨some 15, .mv (.t 82), none⟩]
abbrev r39_14 : List CO := [
  ⟨some 83, .load true 2 (.t 14), none⟩,
  ⟨some 84, .faddr 2 (.t 6), none⟩,
  ⟨some 85, .load false 1 (.t 84), none⟩,
  ⟨some 86, .build ([.s (.slice none 0 0), .s (.int .i64 0), .s (.bool false), .s (.bool false)]) [(0, 2, .t 83), (2, 1, .t 85)], none⟩,
  ⟨none, .store 4 (.t 8) (.t 86), none⟩,
  ⟨some 9, .mv (.c (.p (.s (.slice none 0 0)))), none⟩,
  ⟨some 10, .mv (.c (.p (.s (.bool false)))), none⟩]
abbrev c39 : CC := .seq (.reg r39_0) (.rest [1, 3, 4, 6, 8] (.seq (.reg r39_1) (.rest [1, 3, 6, 8, 11] (.seq (.seq (.reg r39_2) (.rest [1, 3, 6, 8, 11, 32] (.cond (.t 32) (.seq (.reg r39_3) (.rest [8, 9, 10] (.ret))) (.skip)))) (.rest [6, 8, 11] (.seq (.seq (.reg r39_4) (.cond (.t 41) (.seq (.regd r39_5 b39_5) (.rest [8, 9, 10] (.ret))) (.skip))) (.rest [6, 8, 11] (.seq (.seq (.reg r39_6) (.cond (.t 49) (.seq (.reg r39_7) (.rest [8, 12, 13] (.seq (.reg r39_8) (.rest [8, 9, 10] (.ret))))) (.skip))) (.rest [6, 8, 11] (.seq (.seq (.reg r39_9) (.cond (.t 59) (.seq (.reg r39_10) (.rest [8, 9, 10] (.ret))) (.skip))) (.rest [6, 8, 11] (.seq (.seq (.reg r39_11) (.rest [6, 8, 11, 70] (.cond (.t 70) (.seq (.reg r39_12) (.rest [8, 9, 10] (.ret))) (.skip)))) (.rest [6, 8, 11] (.seq (.reg r39_13) (.rest [6, 8, 14] (.seq (.reg r39_14) (.rest [8, 9, 10] (.ret))))))))))))))))))
theorem F39 : Fun Tryd.prog 39 87 c39 [.cell 8 true 4, .tmp 9, .tmp 10] 4 := ⟨⟨Tryd.f39, _, Tryd.func39, rfl, by kernel_rfl, Tryd.ntmps39, by kernel_rfl, by kernel_rfl⟩, by decide⟩

/-- linnet/linnetref12.Same -/
abbrev r40_0 : List CO := [
  ⟨some 2, .box (.t 0), none⟩,
  ⟨some 3, .box (.t 1), none⟩,
  ⟨some 4, .mv (.c (.p (.s (.bool false)))), none⟩]
abbrev r40_1 : List CO := [
  ⟨some 5, .faddr 1 (.t 2), none⟩,
  ⟨some 6, .load false 1 (.t 5), none⟩,
  ⟨some 7, .faddr 1 (.t 3), none⟩,
  ⟨some 8, .load false 1 (.t 7), none⟩,
  ⟨some 9, .bin .eql (.t 6) (.t 8), none⟩,
  ⟨some 10, .mv (.t 9), none⟩,
  ⟨some 11, .faddr 0 (.t 2), some (10, true)⟩,
  ⟨some 12, .load false 1 (.t 11), some (10, true)⟩,
  ⟨some 13, .toStr (.t 12), some (10, true)⟩,
  ⟨some 14, .faddr 0 (.t 3), some (10, true)⟩,
  ⟨some 15, .load false 1 (.t 14), some (10, true)⟩,
  ⟨some 16, .toStr (.t 15), some (10, true)⟩,
  ⟨some 17, .bin .eql (.t 13) (.t 16), some (10, true)⟩,
  ⟨some 18, .pick (.t 10) (.t 17) (.c (.p (.s (.bool false)))), none⟩,
  ⟨some 4, .mv (.t 18), none⟩]
abbrev c40 : CC := .seq (.reg r40_0) (.seq (.reg r40_1) (.rest [4] (.ret)))
theorem F40 : Fun Tryd.prog 40 19 c40 [.tmp 4] 2 := ⟨⟨Tryd.f40, _, Tryd.func40, rfl, by kernel_rfl, Tryd.ntmps40, by kernel_rfl, by kernel_rfl⟩, by decide⟩

/-- (*linnet/editor.work).tell -/
abbrev r41_0 : List CO := [
  ⟨some 3, .box (.t 1), none⟩]
abbrev r41_1 : List CO := [
  ⟨some 4, .mv (.t 0), none⟩,
  ⟨some 5, .mv (.t 0), none⟩,
  ⟨some 6, .nilchk (.t 5), none⟩,
  ⟨some 7, .faddr 5 (.t 6), none⟩,
  ⟨some 8, .load false 1 (.t 7), none⟩,
  ⟨some 9, .load true 3 (.t 3), none⟩,
  ⟨some 10, .bslice 3 1 ([.s (.int .i64 0), .s (.int .i64 0), .s (.slice none 0 0)]) [(0, .t 9)], none⟩,
  ⟨some 11, .append 3 40 ([.s (.int .i64 0), .s (.int .i64 0), .s (.slice none 0 0)]) (.t 8) (.t 10), none⟩,
  ⟨some 12, .nilchk (.t 4), none⟩,
  ⟨some 13, .faddr 5 (.t 12), none⟩,
  ⟨none, .store 1 (.t 13) (.t 11), none⟩]
abbrev b41_1 : List (List Nat) := [[], [], [1], [2], [3], [], [5], [4, 6], [0, 0, 1, 2, 3, 4, 5, 6, 7], [8, 0, 1, 2, 3, 4, 5, 6, 7], [9, 7, 7, 0, 1, 2, 3, 4, 5, 6, 7]]
abbrev r41_2 : List CO := [
  ⟨some 14, .mv (.t 0), none⟩,
  ⟨some 15, .build ([.s (.slice none 0 0), .s (.int .i64 0), .s (.bool false), .s (.bool false)]) [], none⟩,
  ⟨some 16, .nilchk (.t 14), none⟩,
  ⟨some 17, .faddr 0 (.t 16), none⟩,
  ⟨none, .store 4 (.t 17) (.t 15), none⟩]
abbrev c41 : CC := .seq (.reg r41_0) (.seq (.regd r41_1 b41_1) (.rest [0] (.reg r41_2)))
theorem F41 : Fun Tryd.prog 41 18 c41 [] 2 := ⟨⟨Tryd.f41, _, Tryd.func41, rfl, by kernel_rfl, Tryd.ntmps41, by kernel_rfl, by kernel_rfl⟩, by decide⟩

/-- linnet/line.Do -/
abbrev r42_0 : List CO := [
  ⟨some 2, .box (.t 0), none⟩,
  ⟨some 4, .alloc ([.s (.slice none 0 0), .s (.int .i64 0)]), none⟩,
  ⟨some 5, .mv (.c (.p (.s (.bool false)))), none⟩]
abbrev r42_1 : List CO := [
  ⟨some 7, .call (.c (.fn (.func 47) [] [])) [], none⟩,
  ⟨some 8, .mv (.t 1), none⟩,
  ⟨some 9, .ext (.look (.nilFunc)) [.t 7, .t 8], none⟩,
  ⟨some 6, .mv (.t 9), none⟩]
abbrev r42_2 : List CO := [
  ⟨some 10, .load true 2 (.t 2), none⟩,
  ⟨some 11, .call (.c (.fn (.func 35) [] [])) [.t 10], none⟩,
  ⟨some 12, .bin .neq (.t 11) (.c (.p (.s (.int .i64 0)))), none⟩,
  ⟨some 13, .mv (.t 12), none⟩,
  ⟨some 14, .mv (.t 6), some (13, false)⟩,
  ⟨some 15, .ext (.fnil false) [.t 14], some (13, false)⟩,
  ⟨some 16, .pick (.t 13) (.c (.p (.s (.bool true)))) (.t 15), none⟩]
abbrev r42_3 : List CO := [
  ⟨some 17, .load true 2 (.t 2), none⟩,
  ⟨none, .store 2 (.t 4) (.t 17), none⟩,
  ⟨some 5, .mv (.c (.p (.s (.bool false)))), none⟩]
abbrev r42_4 : List CO := [
  ⟨some 18, .faddr 0 (.t 2), none⟩,
  ⟨some 19, .load false 1 (.t 18), none⟩,
  ⟨some 20, .call (.c (.fn (.func 36) [] [])) [.t 19], none⟩,
  ⟨some 21, .faddr 0 (.t 2), none⟩,
  ⟨none, .store 1 (.t 21) (.t 20), none⟩]
abbrev r42_5 : List CO := [
  ⟨some 22, .mv (.t 6), none⟩,
  ⟨some 23, .load true 2 (.t 2), none⟩,
  ⟨some 24, .call (.t 22) [.t 23], none⟩,
  ⟨none, .store 2 (.t 4) (.t 24), none⟩,
  ⟨some 5, .mv (.c (.p (.s (.bool true)))), none⟩]
abbrev c42 : CC := .seq (.reg r42_0) (.seq (.reg r42_1) (.rest [2, 4, 6] (.seq (.seq (.reg r42_2) (.rest [2, 4, 6, 16] (.cond (.t 16) (.seq (.reg r42_3) (.ret)) (.skip)))) (.rest [2, 4, 6] (.seq (.reg r42_4) (.rest [2, 4, 6] (.seq (.reg r42_5) (.rest [4, 5] (.ret)))))))))
theorem F42 : Fun Tryd.prog 42 25 c42 [.cell 4 true 2, .tmp 5] 2 := ⟨⟨Tryd.f42, _, Tryd.func42, rfl, by kernel_rfl, Tryd.ntmps42, by kernel_rfl, by kernel_rfl⟩, by decide⟩

/-- (*linnet/editor.work).keep -/
abbrev r43_0 : List CO := [
  ⟨some 3, .box (.t 1), none⟩]
abbrev r43_1 : List CO := [
  ⟨some 4, .mv (.t 0), none⟩,
  ⟨some 5, .mv (.t 0), none⟩,
  ⟨some 6, .nilchk (.t 5), none⟩,
  ⟨some 7, .faddr 5 (.t 6), none⟩,
  ⟨some 8, .load false 1 (.t 7), none⟩,
  ⟨some 9, .load true 3 (.t 3), none⟩,
  ⟨some 10, .bslice 3 1 ([.s (.int .i64 0), .s (.int .i64 0), .s (.slice none 0 0)]) [(0, .t 9)], none⟩,
  ⟨some 11, .append 3 40 ([.s (.int .i64 0), .s (.int .i64 0), .s (.slice none 0 0)]) (.t 8) (.t 10), none⟩,
  ⟨some 12, .nilchk (.t 4), none⟩,
  ⟨some 13, .faddr 5 (.t 12), none⟩,
  ⟨none, .store 1 (.t 13) (.t 11), none⟩]
abbrev b43_1 : List (List Nat) := [[], [], [1], [2], [3], [], [5], [4, 6], [0, 0, 1, 2, 3, 4, 5, 6, 7], [8, 0, 1, 2, 3, 4, 5, 6, 7], [9, 7, 7, 0, 1, 2, 3, 4, 5, 6, 7]]
abbrev r43_2 : List CO := [
  ⟨some 14, .mv (.t 0), none⟩,
  ⟨some 15, .nilchk (.t 14), none⟩,
  ⟨some 16, .faddr 0 (.t 15), none⟩,
  ⟨some 17, .faddr 3 (.t 16), none⟩,
  ⟨none, .store 1 (.t 17) (.c (.p (.s (.bool false)))), none⟩]
abbrev c43 : CC := .seq (.reg r43_0) (.seq (.regd r43_1 b43_1) (.rest [0] (.reg r43_2)))
theorem F43 : Fun Tryd.prog 43 18 c43 [] 2 := ⟨⟨Tryd.f43, _, Tryd.func43, rfl, by kernel_rfl, Tryd.ntmps43, by kernel_rfl, by kernel_rfl⟩, by decide⟩

/-- linnet/linnetref08.Meaning -/
abbrev r44_0 : List CO := [
  ⟨some 2, .box (.t 0), none⟩,
  ⟨some 4, .mv (.c (.p (.s (.int .i64 0)))), none⟩]
abbrev r44_1 : List CO := [
  ⟨some 8, .mv (.t 1), none⟩,
  ⟨some 9, .bin .eql (.t 8) (.c (.p (.s (.int .u8 13)))), none⟩]
abbrev r44_2 : List CO := [
  ⟨some 4, .mv (.c (.p (.s (.int .i64 31)))), none⟩]
abbrev r44_3 : List CO := [
  ⟨some 5, .mv (.c (.p (.s (.int .i64 30)))), none⟩]
abbrev r44_4 : List CO := [
  ⟨some 10, .mv (.t 5), none⟩,
  ⟨some 11, .bin .geq (.t 10) (.c (.p (.s (.int .i64 1)))), none⟩]
abbrev r44_6 : List CO := [
  ⟨some 6, .mv (.c (.p (.s (.bool false)))), none⟩]
abbrev r44_7 : List CO := [
  ⟨some 7, .mv (.c (.p (.s (.int .i64 1)))), none⟩]
abbrev r44_8 : List CO := [
  ⟨some 14, .mv (.t 7), none⟩,
  ⟨some 15, .mv (.t 5), none⟩,
  ⟨some 16, .bin .lss (.t 14) (.t 15), none⟩]
abbrev r44_10 : List CO := [
  ⟨some 19, .mv (.t 6), none⟩,
  ⟨some 20, .mv (.t 19), none⟩,
  ⟨some 21, .mv (.t 7), some (20, false)⟩,
  ⟨some 22, .iaddrA 2 31 (.t 2) (.t 21), some (20, false)⟩,
  ⟨some 23, .faddr 0 (.t 22), some (20, false)⟩,
  ⟨some 24, .load false 1 (.t 23), some (20, false)⟩,
  ⟨some 25, .bin .neq (.t 24) (.c (.p (.s (.int .i64 0)))), some (20, false)⟩,
  ⟨some 26, .mv (.t 25), some (20, false)⟩,
  ⟨some 27, .mv (.t 7), some (26, true)⟩,
  ⟨some 28, .iaddrA 2 31 (.t 2) (.t 27), some (26, true)⟩,
  ⟨some 29, .faddr 1 (.t 28), some (26, true)⟩,
  ⟨some 30, .load false 1 (.t 29), some (26, true)⟩,
  ⟨some 31, .mv (.t 1), some (26, true)⟩,
  ⟨some 32, .bin .eql (.t 30) (.t 31), some (26, true)⟩,
  ⟨some 33, .pick (.t 26) (.t 32) (.c (.p (.s (.bool false)))), some (20, false)⟩,
  ⟨some 34, .pick (.t 20) (.c (.p (.s (.bool true)))) (.t 33), none⟩,
  ⟨some 6, .mv (.t 34), none⟩]
abbrev k44_3 : CC := .reg r44_10
abbrev r44_9 : List CO := [
  ⟨some 17, .mv (.t 7), none⟩,
  ⟨some 18, .bin .add (.t 17) (.c (.p (.s (.int .i64 1)))), none⟩,
  ⟨some 7, .mv (.t 18), none⟩]
abbrev l44_11 : CC := .seq (.seq (.reg r44_8) (.cond (.t 16) (.skip) (.exit 2))) (.seq (.block 3 k44_3) (.rest [1, 2, 5, 6, 7] (.reg r44_9)))
abbrev k44_2 : CC := .loop l44_11
abbrev r44_11 : List CO := [
  ⟨some 35, .mv (.t 5), none⟩,
  ⟨some 36, .iaddrA 2 31 (.t 2) (.t 35), none⟩,
  ⟨some 37, .faddr 0 (.t 36), none⟩,
  ⟨some 38, .load false 1 (.t 37), none⟩,
  ⟨some 39, .bin .neq (.t 38) (.c (.p (.s (.int .i64 0)))), none⟩,
  ⟨some 40, .mv (.t 39), none⟩,
  ⟨some 41, .mv (.t 5), some (40, true)⟩,
  ⟨some 42, .iaddrA 2 31 (.t 2) (.t 41), some (40, true)⟩,
  ⟨some 43, .faddr 1 (.t 42), some (40, true)⟩,
  ⟨some 44, .load false 1 (.t 43), some (40, true)⟩,
  ⟨some 45, .mv (.t 1), some (40, true)⟩,
  ⟨some 46, .bin .eql (.t 44) (.t 45), some (40, true)⟩,
  ⟨some 47, .pick (.t 40) (.t 46) (.c (.p (.s (.bool false)))), none⟩,
  ⟨some 48, .mv (.t 47), none⟩,
  ⟨some 49, .mv (.t 6), some (48, true)⟩,
  ⟨some 50, .un .not (.t 49), some (48, true)⟩,
  ⟨some 51, .pick (.t 48) (.t 50) (.c (.p (.s (.bool false)))), none⟩]
abbrev r44_12 : List CO := [
  ⟨some 52, .mv (.t 5), none⟩,
  ⟨some 4, .mv (.t 52), none⟩]
abbrev k44_1 : CC := .seq (.reg r44_6) (.seq (.seq (.reg r44_7) (.block 2 k44_2)) (.rest [1, 2, 5, 6] (.seq (.reg r44_11) (.rest [1, 2, 5, 51] (.cond (.t 51) (.seq (.reg r44_12) (.ret)) (.skip))))))
abbrev r44_5 : List CO := [
  ⟨some 12, .mv (.t 5), none⟩,
  ⟨some 13, .bin .sub (.t 12) (.c (.p (.s (.int .i64 1)))), none⟩,
  ⟨some 5, .mv (.t 13), none⟩]
abbrev l44_17 : CC := .seq (.seq (.reg r44_4) (.cond (.t 11) (.skip) (.exit 0))) (.seq (.block 1 k44_1) (.rest [1, 2, 5] (.reg r44_5)))
abbrev k44_0 : CC := .loop l44_17
abbrev r44_13 : List CO := [
  ⟨some 4, .mv (.c (.p (.s (.int .i64 0)))), none⟩]
abbrev c44 : CC := .seq (.reg r44_0) (.seq (.seq (.reg r44_1) (.cond (.t 9) (.seq (.reg r44_2) (.ret)) (.skip))) (.seq (.seq (.reg r44_3) (.block 0 k44_0)) (.rest [] (.seq (.reg r44_13) (.ret)))))
theorem F44 : Fun Tryd.prog 44 53 c44 [.tmp 4] 2 := ⟨⟨Tryd.f44, _, Tryd.func44, rfl, by kernel_rfl, Tryd.ntmps44, by kernel_rfl, by kernel_rfl⟩, by decide⟩

/-- linnet/linnetref13.typed -/
abbrev r45_0 : List CO := [
  ⟨some 3, .box (.t 0), none⟩,
  ⟨some 6, .alloc ([.s (.slice none 0 0), .s (.int .i64 0), .s (.bool false), .s (.bool false)]), none⟩,
  ⟨some 7, .mv (.c (.p (.s (.slice none 0 0)))), none⟩,
  ⟨some 8, .mv (.c (.p (.s (.bool false)))), none⟩]
abbrev r45_1 : List CO := [
  ⟨some 12, .faddr 0 (.t 3), none⟩,
  ⟨some 13, .load true 2 (.t 12), none⟩,
  ⟨some 14, .mv (.t 1), none⟩,
  ⟨some 15, .faddr 2 (.t 3), none⟩,
  ⟨some 16, .load false 1 (.t 15), none⟩,
  ⟨some 17, .mv (.t 2), none⟩,
  ⟨some 18, .call (.c (.fn (.func 48) [] [])) [.t 13, .t 14, .t 16, .t 17], none⟩,
  ⟨some 11, .mv (.t 18), none⟩,
  ⟨some 19, .extract 0 (.t 11), none⟩,
  ⟨some 20, .extract 1 (.t 11), none⟩,
  ⟨some 9, .alloc ([.s (.slice none 0 0), .s (.int .i64 0)]), none⟩,
  ⟨none, .store 2 (.t 9) (.t 19), none⟩,
  ⟨some 10, .mv (.t 20), none⟩]
abbrev r45_2 : List CO := [
  ⟨some 21, .load true 2 (.t 9), none⟩,
  ⟨some 22, .faddr 2 (.t 3), none⟩,
  ⟨some 23, .load false 1 (.t 22), none⟩,
  ⟨some 24, .build ([.s (.slice none 0 0), .s (.int .i64 0), .s (.bool false), .s (.bool false)]) [(0, 2, .t 21), (2, 1, .t 23)], none⟩,
  ⟨some 25, .mv (.t 10), none⟩,
  ⟨some 26, .un .not (.t 25), none⟩,
  ⟨none, .store 4 (.t 6) (.t 24), none⟩,
  ⟨some 7, .mv (.c (.p (.s (.slice none 0 0)))), none⟩,
  ⟨some 8, .mv (.t 26), none⟩]
abbrev c45 : CC := .seq (.reg r45_0) (.rest [1, 2, 3, 6] (.seq (.reg r45_1) (.rest [3, 6, 9, 10] (.seq (.reg r45_2) (.rest [6, 7, 8] (.ret))))))
theorem F45 : Fun Tryd.prog 45 27 c45 [.cell 6 true 4, .tmp 7, .tmp 8] 3 := ⟨⟨Tryd.f45, _, Tryd.func45, rfl, by kernel_rfl, Tryd.ntmps45, by kernel_rfl, by kernel_rfl⟩, by decide⟩

/-- linnet/linnetref12.Do -/
abbrev r46_0 : List CO := [
  ⟨some 2, .box (.t 0), none⟩,
  ⟨some 4, .alloc ([.s (.slice none 0 0), .s (.int .i64 0)]), none⟩,
  ⟨some 5, .mv (.c (.p (.s (.bool false)))), none⟩]
abbrev r46_1 : List CO := [
  ⟨some 8, .faddr 0 (.t 2), none⟩,
  ⟨some 9, .load false 1 (.t 8), none⟩,
  ⟨some 10, .faddr 1 (.t 2), none⟩,
  ⟨some 11, .load false 1 (.t 10), none⟩,
  ⟨some 12, .slice 1 (.t 9) none (some (.t 11)), none⟩,
  ⟨some 13, .faddr 0 (.t 2), none⟩,
  ⟨some 14, .load false 1 (.t 13), none⟩,
  ⟨some 15, .faddr 1 (.t 2), none⟩,
  ⟨some 16, .load false 1 (.t 15), none⟩,
  ⟨some 17, .slice 1 (.t 14) (some (.t 16)) none, none⟩,
  ⟨some 6, .mv (.t 12), none⟩,
  ⟨some 7, .mv (.t 17), none⟩]
abbrev b46_1 : List (List Nat) := [[], [0], [], [2], [1, 3], [], [5], [], [7], [6, 8], [4, 0, 1, 2, 3, 4], [9, 10, 0, 1, 2, 3, 4, 5, 6, 7, 8, 9, 10]]
abbrev r46_2 : List CO := [
  ⟨some 18, .mv (.t 1), none⟩]
abbrev r46_3 : List CO := [
  ⟨some 20, .bin .eql (.t 18) (.c (.p (.s (.int .i64 10)))), none⟩,
  ⟨some 19, .mv (.t 20), none⟩]
abbrev r46_4 : List CO := [
  ⟨some 21, .mv (.t 6), none⟩,
  ⟨some 22, .mv (.t 6), none⟩,
  ⟨some 23, .len (.t 22), none⟩,
  ⟨some 24, .bin .sub (.t 23) (.c (.p (.s (.int .i64 1)))), none⟩,
  ⟨some 25, .minmax true (.t 24) (.c (.p (.s (.int .i64 0)))), none⟩,
  ⟨some 26, .slice 1 (.t 21) none (some (.t 25)), none⟩,
  ⟨some 27, .mv (.t 7), none⟩,
  ⟨some 28, .call (.c (.fn (.func 49) [] [])) [.t 26, .t 27], none⟩,
  ⟨none, .store 2 (.t 4) (.t 28), none⟩,
  ⟨some 5, .mv (.c (.p (.s (.bool true)))), none⟩]
abbrev r46_5 : List CO := [
  ⟨some 30, .bin .eql (.t 18) (.c (.p (.s (.int .i64 11)))), none⟩,
  ⟨some 29, .mv (.t 30), none⟩]
abbrev r46_6 : List CO := [
  ⟨some 31, .build ([.s (.slice none 0 0), .s (.int .i64 0)]) [], none⟩,
  ⟨none, .store 2 (.t 4) (.t 31), none⟩,
  ⟨some 5, .mv (.c (.p (.s (.bool true)))), none⟩]
abbrev r46_7 : List CO := [
  ⟨some 33, .bin .eql (.t 18) (.c (.p (.s (.int .i64 12)))), none⟩,
  ⟨some 32, .mv (.t 33), none⟩]
abbrev r46_8 : List CO := [
  ⟨some 34, .mv (.t 6), none⟩,
  ⟨some 35, .load true 2 (.t 2), none⟩,
  ⟨some 36, .call (.c (.fn (.func 50) [] [])) [.t 35], none⟩,
  ⟨some 37, .slice 1 (.t 34) none (some (.t 36)), none⟩,
  ⟨some 38, .mv (.t 7), none⟩,
  ⟨some 39, .call (.c (.fn (.func 49) [] [])) [.t 37, .t 38], none⟩,
  ⟨none, .store 2 (.t 4) (.t 39), none⟩,
  ⟨some 5, .mv (.c (.p (.s (.bool true)))), none⟩]
abbrev r46_9 : List CO := [
  ⟨some 41, .bin .eql (.t 18) (.c (.p (.s (.int .i64 19)))), none⟩,
  ⟨some 40, .mv (.t 41), none⟩]
abbrev r46_10 : List CO := [
  ⟨some 42, .faddr 0 (.t 2), none⟩,
  ⟨some 43, .load false 1 (.t 42), none⟩,
  ⟨some 44, .faddr 1 (.t 2), none⟩,
  ⟨some 45, .load false 1 (.t 44), none⟩,
  ⟨some 46, .bin .sub (.t 45) (.c (.p (.s (.int .i64 1)))), none⟩,
  ⟨some 47, .minmax true (.t 46) (.c (.p (.s (.int .i64 0)))), none⟩,
  ⟨some 48, .build ([.s (.slice none 0 0), .s (.int .i64 0)]) [(0, 1, .t 43), (1, 1, .t 47)], none⟩,
  ⟨none, .store 2 (.t 4) (.t 48), none⟩,
  ⟨some 5, .mv (.c (.p (.s (.bool true)))), none⟩]
abbrev r46_11 : List CO := [
  ⟨some 50, .bin .eql (.t 18) (.c (.p (.s (.int .i64 20)))), none⟩,
  ⟨some 49, .mv (.t 50), none⟩]
abbrev r46_12 : List CO := [
  ⟨some 51, .faddr 0 (.t 2), none⟩,
  ⟨some 52, .load false 1 (.t 51), none⟩,
  ⟨some 53, .faddr 1 (.t 2), none⟩,
  ⟨some 54, .load false 1 (.t 53), none⟩,
  ⟨some 55, .bin .add (.t 54) (.c (.p (.s (.int .i64 1)))), none⟩,
  ⟨some 56, .faddr 0 (.t 2), none⟩,
  ⟨some 57, .load false 1 (.t 56), none⟩,
  ⟨some 58, .len (.t 57), none⟩,
  ⟨some 59, .minmax false (.t 55) (.t 58), none⟩,
  ⟨some 60, .build ([.s (.slice none 0 0), .s (.int .i64 0)]) [(0, 1, .t 52), (1, 1, .t 59)], none⟩,
  ⟨none, .store 2 (.t 4) (.t 60), none⟩,
  ⟨some 5, .mv (.c (.p (.s (.bool true)))), none⟩]
abbrev r46_13 : List CO := [
  ⟨some 62, .bin .eql (.t 18) (.c (.p (.s (.int .i64 21)))), none⟩,
  ⟨some 61, .mv (.t 62), none⟩]
abbrev r46_14 : List CO := [
  ⟨some 63, .faddr 0 (.t 2), none⟩,
  ⟨some 64, .load false 1 (.t 63), none⟩,
  ⟨some 65, .load true 2 (.t 2), none⟩,
  ⟨some 66, .call (.c (.fn (.func 50) [] [])) [.t 65], none⟩,
  ⟨some 67, .build ([.s (.slice none 0 0), .s (.int .i64 0)]) [(0, 1, .t 64), (1, 1, .t 66)], none⟩,
  ⟨none, .store 2 (.t 4) (.t 67), none⟩,
  ⟨some 5, .mv (.c (.p (.s (.bool true)))), none⟩]
abbrev b46_14 : List (List Nat) := [[], [0], [], [2], [1, 3], [4, 3, 0, 1, 2, 3, 4], [5, 0, 1, 2, 3, 4, 5]]
abbrev r46_15 : List CO := [
  ⟨some 69, .bin .eql (.t 18) (.c (.p (.s (.int .i64 22)))), none⟩,
  ⟨some 68, .mv (.t 69), none⟩]
abbrev r46_16 : List CO := [
  ⟨some 70, .faddr 0 (.t 2), none⟩,
  ⟨some 71, .load false 1 (.t 70), none⟩,
  ⟨some 72, .load true 2 (.t 2), none⟩,
  ⟨some 73, .call (.c (.fn (.func 51) [] [])) [.t 72], none⟩,
  ⟨some 74, .build ([.s (.slice none 0 0), .s (.int .i64 0)]) [(0, 1, .t 71), (1, 1, .t 73)], none⟩,
  ⟨none, .store 2 (.t 4) (.t 74), none⟩,
  ⟨some 5, .mv (.c (.p (.s (.bool true)))), none⟩]
abbrev b46_16 : List (List Nat) := [[], [0], [], [2], [1, 3], [4, 3, 0, 1, 2, 3, 4], [5, 0, 1, 2, 3, 4, 5]]
abbrev r46_17 : List CO := [
  ⟨some 76, .bin .eql (.t 18) (.c (.p (.s (.int .i64 23)))), none⟩,
  ⟨some 75, .mv (.t 76), none⟩]
abbrev r46_18 : List CO := [
  ⟨some 77, .faddr 0 (.t 2), none⟩,
  ⟨some 78, .load false 1 (.t 77), none⟩,
  ⟨some 79, .build ([.s (.slice none 0 0), .s (.int .i64 0)]) [(0, 1, .t 78)], none⟩,
  ⟨none, .store 2 (.t 4) (.t 79), none⟩,
  ⟨some 5, .mv (.c (.p (.s (.bool true)))), none⟩]
abbrev r46_19 : List CO := [
  ⟨some 81, .bin .eql (.t 18) (.c (.p (.s (.int .i64 24)))), none⟩,
  ⟨some 80, .mv (.t 81), none⟩]
abbrev r46_20 : List CO := [
  ⟨some 82, .faddr 0 (.t 2), none⟩,
  ⟨some 83, .load false 1 (.t 82), none⟩,
  ⟨some 84, .faddr 0 (.t 2), none⟩,
  ⟨some 85, .load false 1 (.t 84), none⟩,
  ⟨some 86, .len (.t 85), none⟩,
  ⟨some 87, .build ([.s (.slice none 0 0), .s (.int .i64 0)]) [(0, 1, .t 83), (1, 1, .t 86)], none⟩,
  ⟨none, .store 2 (.t 4) (.t 87), none⟩,
  ⟨some 5, .mv (.c (.p (.s (.bool true)))), none⟩]
abbrev r46_21 : List CO := [
  ⟨some 89, .bin .eql (.t 18) (.c (.p (.s (.int .i64 27)))), none⟩,
  ⟨some 88, .mv (.t 89), none⟩]
abbrev r46_22 : List CO := [
  ⟨some 90, .mv (.t 6), none⟩,
  ⟨some 91, .mv (.t 7), none⟩,
  ⟨some 92, .mv (.t 7), none⟩,
  ⟨some 93, .len (.t 92), none⟩,
  ⟨some 94, .minmax false (.c (.p (.s (.int .i64 1)))) (.t 93), none⟩,
  ⟨some 95, .slice 1 (.t 91) (some (.t 94)) none, none⟩,
  ⟨some 96, .call (.c (.fn (.func 49) [] [])) [.t 90, .t 95], none⟩,
  ⟨none, .store 2 (.t 4) (.t 96), none⟩,
  ⟨some 5, .mv (.c (.p (.s (.bool true)))), none⟩]
abbrev r46_23 : List CO := [
  ⟨some 98, .bin .eql (.t 18) (.c (.p (.s (.int .i64 28)))), none⟩,
  ⟨some 97, .mv (.t 98), none⟩]
abbrev r46_24 : List CO := [
  ⟨some 99, .mv (.t 6), none⟩,
  ⟨some 100, .faddr 0 (.t 2), none⟩,
  ⟨some 101, .load false 1 (.t 100), none⟩,
  ⟨some 102, .load true 2 (.t 2), none⟩,
  ⟨some 103, .call (.c (.fn (.func 51) [] [])) [.t 102], none⟩,
  ⟨some 104, .slice 1 (.t 101) (some (.t 103)) none, none⟩,
  ⟨some 105, .call (.c (.fn (.func 49) [] [])) [.t 99, .t 104], none⟩,
  ⟨none, .store 2 (.t 4) (.t 105), none⟩,
  ⟨some 5, .mv (.c (.p (.s (.bool true)))), none⟩]
abbrev b46_24 : List (List Nat) := [[], [], [1], [], [3], [2, 4], [0, 5, 4], [6, 6, 0, 1, 2, 3, 4, 5, 6], [7, 0, 1, 2, 3, 4, 5, 6, 7]]
abbrev r46_25 : List CO := [
  ⟨some 107, .bin .eql (.t 18) (.c (.p (.s (.int .i64 29)))), none⟩,
  ⟨some 106, .mv (.t 107), none⟩]
abbrev r46_26 : List CO := [
  ⟨some 108, .mv (.t 7), none⟩,
  ⟨some 109, .call (.c (.fn (.func 49) [] [])) [.c (.p (.s (.slice none 0 0))), .t 108], none⟩,
  ⟨none, .store 2 (.t 4) (.t 109), none⟩,
  ⟨some 5, .mv (.c (.p (.s (.bool true)))), none⟩]
abbrev r46_27 : List CO := [
  ⟨some 111, .bin .eql (.t 18) (.c (.p (.s (.int .i64 30)))), none⟩,
  ⟨some 110, .mv (.t 111), none⟩]
abbrev r46_28 : List CO := [
  ⟨some 112, .mv (.t 6), none⟩,
  ⟨some 113, .call (.c (.fn (.func 49) [] [])) [.t 112, .c (.p (.s (.slice none 0 0)))], none⟩,
  ⟨none, .store 2 (.t 4) (.t 113), none⟩,
  ⟨some 5, .mv (.c (.p (.s (.bool true)))), none⟩]
abbrev k46_0 : CC := .seq (.reg r46_3) (.cond (.t 19) (.seq (.reg r46_4) (.rest [4, 5] (.ret))) (.seq (.reg r46_5) (.cond (.t 29) (.seq (.reg r46_6) (.ret)) (.seq (.reg r46_7) (.cond (.t 32) (.seq (.reg r46_8) (.rest [4, 5] (.ret))) (.seq (.reg r46_9) (.cond (.t 40) (.seq (.reg r46_10) (.rest [4, 5] (.ret))) (.seq (.reg r46_11) (.cond (.t 49) (.seq (.reg r46_12) (.rest [4, 5] (.ret))) (.seq (.reg r46_13) (.cond (.t 61) (.seq (.regd r46_14 b46_14) (.rest [4, 5] (.ret))) (.seq (.reg r46_15) (.cond (.t 68) (.seq (.regd r46_16 b46_16) (.rest [4, 5] (.ret))) (.seq (.reg r46_17) (.cond (.t 75) (.seq (.reg r46_18) (.rest [4, 5] (.ret))) (.seq (.reg r46_19) (.cond (.t 80) (.seq (.reg r46_20) (.rest [4, 5] (.ret))) (.seq (.reg r46_21) (.cond (.t 88) (.seq (.reg r46_22) (.rest [4, 5] (.ret))) (.seq (.reg r46_23) (.cond (.t 97) (.seq (.regd r46_24 b46_24) (.rest [4, 5] (.ret))) (.seq (.reg r46_25) (.cond (.t 106) (.seq (.reg r46_26) (.rest [4, 5] (.ret))) (.seq (.reg r46_27) (.cond (.t 110) (.seq (.reg r46_28) (.rest [4, 5] (.ret))) (.skip))))))))))))))))))))))))))
abbrev r46_29 : List CO := [
  ⟨some 114, .load true 2 (.t 2), none⟩,
  ⟨none, .store 2 (.t 4) (.t 114), none⟩,
  ⟨some 5, .mv (.c (.p (.s (.bool false)))), none⟩]
abbrev c46 : CC := .seq (.reg r46_0) (.seq (.regd r46_1 b46_1) (.rest [1, 2, 4, 6, 7] (.seq (.seq (.reg r46_2) (.block 0 k46_0)) (.rest [2, 4] (.seq (.reg r46_29) (.ret))))))
theorem F46 : Fun Tryd.prog 46 115 c46 [.cell 4 true 2, .tmp 5] 2 := ⟨⟨Tryd.f46, _, Tryd.func46, rfl, by kernel_rfl, Tryd.ntmps46, by kernel_rfl, by kernel_rfl⟩, by decide⟩

/-- linnet/linnetref12.Type -/
abbrev r48_0 : List CO := [
  ⟨some 4, .box (.t 0), none⟩,
  ⟨some 8, .alloc ([.s (.slice none 0 0), .s (.int .i64 0)]), none⟩,
  ⟨some 9, .mv (.c (.p (.s (.bool false)))), none⟩]
abbrev r48_1 : List CO := [
  ⟨some 12, .faddr 0 (.t 4), none⟩,
  ⟨some 13, .load false 1 (.t 12), none⟩,
  ⟨some 14, .faddr 1 (.t 4), none⟩,
  ⟨some 15, .load false 1 (.t 14), none⟩,
  ⟨some 16, .slice 1 (.t 13) none (some (.t 15)), none⟩,
  ⟨some 17, .faddr 0 (.t 4), none⟩,
  ⟨some 18, .load false 1 (.t 17), none⟩,
  ⟨some 19, .faddr 1 (.t 4), none⟩,
  ⟨some 20, .load false 1 (.t 19), none⟩,
  ⟨some 21, .slice 1 (.t 18) (some (.t 20)) none, none⟩,
  ⟨some 10, .mv (.t 16), none⟩,
  ⟨some 11, .mv (.t 21), none⟩]
abbrev b48_1 : List (List Nat) := [[], [0], [], [2], [1, 3], [], [5], [], [7], [6, 8], [4, 0, 1, 2, 3, 4], [9, 10, 0, 1, 2, 3, 4, 5, 6, 7, 8, 9, 10]]
abbrev r48_2 : List CO := [
  ⟨some 22, .mv (.t 2), none⟩,
  ⟨some 23, .mv (.t 22), none⟩,
  ⟨some 24, .mv (.t 11), some (23, true)⟩,
  ⟨some 25, .len (.t 24), some (23, true)⟩,
  ⟨some 26, .bin .gtr (.t 25) (.c (.p (.s (.int .i64 0)))), some (23, true)⟩,
  ⟨some 27, .pick (.t 23) (.t 26) (.c (.p (.s (.bool false)))), none⟩]
abbrev r48_3 : List CO := [
  ⟨some 28, .bslice 1 0 ([.s (.int .u8 0)]) [], none⟩,
  ⟨some 29, .mv (.t 10), none⟩,
  ⟨some 30, .append 1 1 ([.s (.int .u8 0)]) (.t 28) (.t 29), none⟩,
  ⟨some 31, .mv (.t 3), none⟩,
  ⟨some 32, .bslice 1 1 ([.s (.int .u8 0)]) [(0, .t 31)], none⟩,
  ⟨some 33, .append 1 1 ([.s (.int .u8 0)]) (.t 30) (.t 32), none⟩,
  ⟨some 34, .mv (.t 11), none⟩,
  ⟨some 35, .slice 1 (.t 34) (some (.c (.p (.s (.int .i64 1))))) none, none⟩,
  ⟨some 36, .call (.c (.fn (.func 49) [] [])) [.t 33, .t 35], none⟩,
  ⟨none, .store 2 (.t 8) (.t 36), none⟩,
  ⟨some 9, .mv (.c (.p (.s (.bool true)))), none⟩]
abbrev b48_3 : List (List Nat) := [[], [], [0, 1], [], [3], [2, 4, 2], [], [6], [5, 7, 5], [8, 8, 0, 1, 2, 3, 4, 5, 6, 7, 8], [9, 0, 1, 2, 3, 4, 5, 6, 7, 8, 9]]
abbrev r48_4 : List CO := [
  ⟨some 37, .faddr 0 (.t 4), none⟩,
  ⟨some 38, .load false 1 (.t 37), none⟩,
  ⟨some 39, .len (.t 38), none⟩,
  ⟨some 40, .mv (.t 1), none⟩,
  ⟨some 41, .bin .geq (.t 39) (.t 40), none⟩,
  ⟨some 42, .mv (.t 41), none⟩,
  ⟨some 43, .faddr 0 (.t 4), some (42, false)⟩,
  ⟨some 44, .load false 1 (.t 43), some (42, false)⟩,
  ⟨some 45, .len (.t 44), some (42, false)⟩,
  ⟨some 46, .bin .geq (.t 45) (.c (.p (.s (.int .i64 4096)))), some (42, false)⟩,
  ⟨some 47, .pick (.t 42) (.c (.p (.s (.bool true)))) (.t 46), none⟩]
abbrev r48_5 : List CO := [
  ⟨some 48, .load true 2 (.t 4), none⟩,
  ⟨none, .store 2 (.t 8) (.t 48), none⟩,
  ⟨some 9, .mv (.c (.p (.s (.bool false)))), none⟩]
abbrev r48_6 : List CO := [
  ⟨some 49, .bslice 1 0 ([.s (.int .u8 0)]) [], none⟩,
  ⟨some 50, .mv (.t 10), none⟩,
  ⟨some 51, .append 1 1 ([.s (.int .u8 0)]) (.t 49) (.t 50), none⟩,
  ⟨some 52, .mv (.t 3), none⟩,
  ⟨some 53, .bslice 1 1 ([.s (.int .u8 0)]) [(0, .t 52)], none⟩,
  ⟨some 54, .append 1 1 ([.s (.int .u8 0)]) (.t 51) (.t 53), none⟩,
  ⟨some 55, .mv (.t 11), none⟩,
  ⟨some 56, .call (.c (.fn (.func 49) [] [])) [.t 54, .t 55], none⟩,
  ⟨none, .store 2 (.t 8) (.t 56), none⟩,
  ⟨some 9, .mv (.c (.p (.s (.bool true)))), none⟩]
abbrev c48 : CC := .seq (.reg r48_0) (.seq (.regd r48_1 b48_1) (.rest [1, 2, 3, 4, 8, 10, 11] (.seq (.seq (.reg r48_2) (.rest [1, 3, 4, 8, 10, 11, 27] (.cond (.t 27) (.seq (.regd r48_3 b48_3) (.rest [8, 9] (.ret))) (.skip)))) (.rest [1, 3, 4, 8, 10, 11] (.seq (.seq (.reg r48_4) (.rest [3, 4, 8, 10, 11, 47] (.cond (.t 47) (.seq (.reg r48_5) (.ret)) (.skip)))) (.rest [3, 8, 10, 11] (.seq (.reg r48_6) (.rest [8, 9] (.ret)))))))))
theorem F48 : Fun Tryd.prog 48 57 c48 [.cell 8 true 2, .tmp 9] 4 := ⟨⟨Tryd.f48, _, Tryd.func48, rfl, by kernel_rfl, Tryd.ntmps48, by kernel_rfl, by kernel_rfl⟩, by decide⟩

/-- linnet/linnetref12.of -/
abbrev r49_0 : List CO := [
  ⟨some 4, .alloc ([.s (.slice none 0 0), .s (.int .i64 0)]), none⟩]
abbrev r49_1 : List CO := [
  ⟨some 5, .bslice 1 0 ([.s (.int .u8 0)]) [], none⟩,
  ⟨some 6, .mv (.t 0), none⟩,
  ⟨some 7, .append 1 1 ([.s (.int .u8 0)]) (.t 5) (.t 6), none⟩,
  ⟨some 8, .mv (.t 1), none⟩,
  ⟨some 9, .append 1 1 ([.s (.int .u8 0)]) (.t 7) (.t 8), none⟩,
  ⟨some 10, .mv (.t 0), none⟩,
  ⟨some 11, .len (.t 10), none⟩,
  ⟨some 12, .build ([.s (.slice none 0 0), .s (.int .i64 0)]) [(0, 1, .t 9), (1, 1, .t 11)], none⟩,
  ⟨none, .store 2 (.t 4) (.t 12), none⟩]
abbrev c49 : CC := .seq (.reg r49_0) (.seq (.reg r49_1) (.rest [4] (.ret)))
theorem F49 : Fun Tryd.prog 49 13 c49 [.cell 4 true 2] 2 := ⟨⟨Tryd.f49, _, Tryd.func49, rfl, by kernel_rfl, Tryd.ntmps49, by kernel_rfl, by kernel_rfl⟩, by decide⟩

/-- linnet/linnetref12.Back -/
abbrev r50_0 : List CO := [
  ⟨some 1, .box (.t 0), none⟩,
  ⟨some 2, .mv (.c (.p (.s (.int .i64 0)))), none⟩]
abbrev r50_1 : List CO := [
  ⟨some 4, .faddr 1 (.t 1), none⟩,
  ⟨some 5, .load false 1 (.t 4), none⟩,
  ⟨some 3, .mv (.t 5), none⟩]
abbrev r50_2 : List CO := [
  ⟨some 6, .mv (.t 3), none⟩,
  ⟨some 7, .bin .gtr (.t 6) (.c (.p (.s (.int .i64 0)))), none⟩,
  ⟨some 8, .mv (.t 7), none⟩,
  ⟨some 9, .faddr 0 (.t 1), some (8, true)⟩,
  ⟨some 10, .load false 1 (.t 9), some (8, true)⟩,
  ⟨some 11, .mv (.t 3), some (8, true)⟩,
  ⟨some 12, .bin .sub (.t 11) (.c (.p (.s (.int .i64 1)))), some (8, true)⟩,
  ⟨some 13, .iaddrS 1 (.t 10) (.t 12), some (8, true)⟩,
  ⟨some 14, .load false 1 (.t 13), some (8, true)⟩,
  ⟨some 15, .call (.c (.fn (.func 69) [] [])) [.t 14], some (8, true)⟩,
  ⟨some 16, .pick (.t 8) (.t 15) (.c (.p (.s (.bool false)))), none⟩]
abbrev r50_3 : List CO := [
  ⟨some 17, .mv (.t 3), none⟩,
  ⟨some 18, .bin .sub (.t 17) (.c (.p (.s (.int .i64 1)))), none⟩,
  ⟨some 3, .mv (.t 18), none⟩]
abbrev k50_1 : CC := .reg r50_3
abbrev l50_5 : CC := .seq (.seq (.reg r50_2) (.rest [1, 3, 16] (.cond (.t 16) (.skip) (.exit 0)))) (.rest [1, 3] (.block 1 k50_1))
abbrev k50_0 : CC := .loop l50_5
abbrev r50_4 : List CO := [
  ⟨some 19, .mv (.t 3), none⟩,
  ⟨some 20, .bin .gtr (.t 19) (.c (.p (.s (.int .i64 0)))), none⟩,
  ⟨some 21, .mv (.t 20), none⟩,
  ⟨some 22, .faddr 0 (.t 1), some (21, true)⟩,
  ⟨some 23, .load false 1 (.t 22), some (21, true)⟩,
  ⟨some 24, .mv (.t 3), some (21, true)⟩,
  ⟨some 25, .bin .sub (.t 24) (.c (.p (.s (.int .i64 1)))), some (21, true)⟩,
  ⟨some 26, .iaddrS 1 (.t 23) (.t 25), some (21, true)⟩,
  ⟨some 27, .load false 1 (.t 26), some (21, true)⟩,
  ⟨some 28, .call (.c (.fn (.func 69) [] [])) [.t 27], some (21, true)⟩,
  ⟨some 29, .un .not (.t 28), some (21, true)⟩,
  ⟨some 30, .pick (.t 21) (.t 29) (.c (.p (.s (.bool false)))), none⟩]
abbrev r50_5 : List CO := [
  ⟨some 31, .mv (.t 3), none⟩,
  ⟨some 32, .bin .sub (.t 31) (.c (.p (.s (.int .i64 1)))), none⟩,
  ⟨some 3, .mv (.t 32), none⟩]
abbrev k50_3 : CC := .reg r50_5
abbrev l50_10 : CC := .seq (.seq (.reg r50_4) (.rest [1, 3, 30] (.cond (.t 30) (.skip) (.exit 2)))) (.rest [1, 3] (.block 3 k50_3))
abbrev k50_2 : CC := .loop l50_10
abbrev r50_6 : List CO := [
  ⟨some 33, .mv (.t 3), none⟩,
  ⟨some 2, .mv (.t 33), none⟩]
abbrev c50 : CC := .seq (.reg r50_0) (.seq (.reg r50_1) (.seq (.block 0 k50_0) (.rest [1, 3] (.seq (.block 2 k50_2) (.rest [3] (.seq (.reg r50_6) (.ret)))))))
theorem F50 : Fun Tryd.prog 50 34 c50 [.tmp 2] 1 := ⟨⟨Tryd.f50, _, Tryd.func50, rfl, by kernel_rfl, Tryd.ntmps50, by kernel_rfl, by kernel_rfl⟩, by decide⟩

/-- linnet/linnetref12.On -/
abbrev r51_0 : List CO := [
  ⟨some 1, .box (.t 0), none⟩,
  ⟨some 2, .mv (.c (.p (.s (.int .i64 0)))), none⟩]
abbrev r51_1 : List CO := [
  ⟨some 4, .faddr 1 (.t 1), none⟩,
  ⟨some 5, .load false 1 (.t 4), none⟩,
  ⟨some 3, .mv (.t 5), none⟩]
abbrev r51_2 : List CO := [
  ⟨some 6, .mv (.t 3), none⟩,
  ⟨some 7, .faddr 0 (.t 1), none⟩,
  ⟨some 8, .load false 1 (.t 7), none⟩,
  ⟨some 9, .len (.t 8), none⟩,
  ⟨some 10, .bin .lss (.t 6) (.t 9), none⟩,
  ⟨some 11, .mv (.t 10), none⟩,
  ⟨some 12, .faddr 0 (.t 1), some (11, true)⟩,
  ⟨some 13, .load false 1 (.t 12), some (11, true)⟩,
  ⟨some 14, .mv (.t 3), some (11, true)⟩,
  ⟨some 15, .iaddrS 1 (.t 13) (.t 14), some (11, true)⟩,
  ⟨some 16, .load false 1 (.t 15), some (11, true)⟩,
  ⟨some 17, .call (.c (.fn (.func 69) [] [])) [.t 16], some (11, true)⟩,
  ⟨some 18, .un .not (.t 17), some (11, true)⟩,
  ⟨some 19, .pick (.t 11) (.t 18) (.c (.p (.s (.bool false)))), none⟩]
abbrev r51_3 : List CO := [
  ⟨some 20, .mv (.t 3), none⟩,
  ⟨some 21, .bin .add (.t 20) (.c (.p (.s (.int .i64 1)))), none⟩,
  ⟨some 3, .mv (.t 21), none⟩]
abbrev k51_1 : CC := .reg r51_3
abbrev l51_5 : CC := .seq (.seq (.reg r51_2) (.rest [1, 3, 19] (.cond (.t 19) (.skip) (.exit 0)))) (.rest [1, 3] (.block 1 k51_1))
abbrev k51_0 : CC := .loop l51_5
abbrev r51_4 : List CO := [
  ⟨some 22, .mv (.t 3), none⟩,
  ⟨some 23, .faddr 0 (.t 1), none⟩,
  ⟨some 24, .load false 1 (.t 23), none⟩,
  ⟨some 25, .len (.t 24), none⟩,
  ⟨some 26, .bin .lss (.t 22) (.t 25), none⟩,
  ⟨some 27, .mv (.t 26), none⟩,
  ⟨some 28, .faddr 0 (.t 1), some (27, true)⟩,
  ⟨some 29, .load false 1 (.t 28), some (27, true)⟩,
  ⟨some 30, .mv (.t 3), some (27, true)⟩,
  ⟨some 31, .iaddrS 1 (.t 29) (.t 30), some (27, true)⟩,
  ⟨some 32, .load false 1 (.t 31), some (27, true)⟩,
  ⟨some 33, .call (.c (.fn (.func 69) [] [])) [.t 32], some (27, true)⟩,
  ⟨some 34, .pick (.t 27) (.t 33) (.c (.p (.s (.bool false)))), none⟩]
abbrev r51_5 : List CO := [
  ⟨some 35, .mv (.t 3), none⟩,
  ⟨some 36, .bin .add (.t 35) (.c (.p (.s (.int .i64 1)))), none⟩,
  ⟨some 3, .mv (.t 36), none⟩]
abbrev k51_3 : CC := .reg r51_5
abbrev l51_10 : CC := .seq (.seq (.reg r51_4) (.rest [1, 3, 34] (.cond (.t 34) (.skip) (.exit 2)))) (.rest [1, 3] (.block 3 k51_3))
abbrev k51_2 : CC := .loop l51_10
abbrev r51_6 : List CO := [
  ⟨some 37, .mv (.t 3), none⟩,
  ⟨some 2, .mv (.t 37), none⟩]
abbrev c51 : CC := .seq (.reg r51_0) (.seq (.reg r51_1) (.seq (.block 0 k51_0) (.rest [1, 3] (.seq (.block 2 k51_2) (.rest [3] (.seq (.reg r51_6) (.ret)))))))
theorem F51 : Fun Tryd.prog 51 38 c51 [.tmp 2] 1 := ⟨⟨Tryd.f51, _, Tryd.func51, rfl, by kernel_rfl, Tryd.ntmps51, by kernel_rfl, by kernel_rfl⟩, by decide⟩

/-- linnet/line.does$1 -/
abbrev r52_0 : List CO := [
  ⟨some 1, .box (.t 0), none⟩,
  ⟨some 2, .alloc ([.s (.slice none 0 0), .s (.int .i64 0)]), none⟩]
abbrev r52_1 : List CO := [
  ⟨some 3, .load true 2 (.t 1), none⟩,
  ⟨some 4, .faddr 1 (.t 1), none⟩,
  ⟨some 5, .load false 1 (.t 4), none⟩,
  ⟨some 6, .bin .sub (.t 5) (.c (.p (.s (.int .i64 1)))), none⟩,
  ⟨some 7, .minmax true (.t 6) (.c (.p (.s (.int .i64 0)))), none⟩,
  ⟨some 8, .faddr 1 (.t 1), none⟩,
  ⟨some 9, .load false 1 (.t 8), none⟩,
  ⟨some 10, .call (.c (.fn (.func 53) [] [])) [.t 3, .t 7, .t 9], none⟩,
  ⟨none, .store 2 (.t 2) (.t 10), none⟩]
abbrev c52 : CC := .seq (.reg r52_0) (.seq (.reg r52_1) (.rest [2] (.ret)))
theorem F52 : Fun Tryd.prog 52 11 c52 [.cell 2 true 2] 1 := ⟨⟨Tryd.f52, _, Tryd.func52, rfl, by kernel_rfl, Tryd.ntmps52, by kernel_rfl, by kernel_rfl⟩, by decide⟩

/-- linnet/line.cut -/
abbrev r53_0 : List CO := [
  ⟨some 3, .box (.t 0), none⟩,
  ⟨some 6, .alloc ([.s (.slice none 0 0), .s (.int .i64 0)]), none⟩]
abbrev r53_1 : List CO := [
  ⟨some 7, .faddr 0 (.t 3), none⟩,
  ⟨some 8, .load false 1 (.t 7), none⟩,
  ⟨some 9, .mv (.t 1), none⟩,
  ⟨some 10, .slice 1 (.t 8) none (some (.t 9)), none⟩,
  ⟨some 11, .call (.c (.fn (.func 36) [] [])) [.t 10], none⟩,
  ⟨some 12, .faddr 0 (.t 3), none⟩,
  ⟨some 13, .load false 1 (.t 12), none⟩,
  ⟨some 14, .mv (.t 2), none⟩,
  ⟨some 15, .slice 1 (.t 13) (some (.t 14)) none, none⟩,
  ⟨some 16, .append 1 1 ([.s (.int .u8 0)]) (.t 11) (.t 15), none⟩,
  ⟨some 17, .mv (.t 1), none⟩,
  ⟨some 18, .build ([.s (.slice none 0 0), .s (.int .i64 0)]) [(0, 1, .t 16), (1, 1, .t 17)], none⟩,
  ⟨none, .store 2 (.t 6) (.t 18), none⟩]
abbrev b53_1 : List (List Nat) := [[], [0], [], [1, 2], [3], [], [5], [], [6, 7], [4, 8, 4], [], [9, 10], [11, 9, 0, 1, 2, 3, 4, 5, 6, 7, 8, 9, 10, 11]]
abbrev c53 : CC := .seq (.reg r53_0) (.seq (.regd r53_1 b53_1) (.rest [6] (.ret)))
theorem F53 : Fun Tryd.prog 53 19 c53 [.cell 6 true 2] 3 := ⟨⟨Tryd.f53, _, Tryd.func53, rfl, by kernel_rfl, Tryd.ntmps53, by kernel_rfl, by kernel_rfl⟩, by decide⟩

/-- linnet/line.does$2 -/
abbrev r54_0 : List CO := [
  ⟨some 1, .box (.t 0), none⟩,
  ⟨some 2, .alloc ([.s (.slice none 0 0), .s (.int .i64 0)]), none⟩]
abbrev r54_1 : List CO := [
  ⟨some 3, .load true 2 (.t 1), none⟩,
  ⟨some 4, .faddr 1 (.t 1), none⟩,
  ⟨some 5, .load false 1 (.t 4), none⟩,
  ⟨some 6, .faddr 1 (.t 1), none⟩,
  ⟨some 7, .load false 1 (.t 6), none⟩,
  ⟨some 8, .bin .add (.t 7) (.c (.p (.s (.int .i64 1)))), none⟩,
  ⟨some 9, .faddr 0 (.t 1), none⟩,
  ⟨some 10, .load false 1 (.t 9), none⟩,
  ⟨some 11, .len (.t 10), none⟩,
  ⟨some 12, .minmax false (.t 8) (.t 11), none⟩,
  ⟨some 13, .call (.c (.fn (.func 53) [] [])) [.t 3, .t 5, .t 12], none⟩,
  ⟨none, .store 2 (.t 2) (.t 13), none⟩]
abbrev c54 : CC := .seq (.reg r54_0) (.seq (.reg r54_1) (.rest [2] (.ret)))
theorem F54 : Fun Tryd.prog 54 14 c54 [.cell 2 true 2] 1 := ⟨⟨Tryd.f54, _, Tryd.func54, rfl, by kernel_rfl, Tryd.ntmps54, by kernel_rfl, by kernel_rfl⟩, by decide⟩

/-- linnet/line.does$3 -/
abbrev r55_0 : List CO := [
  ⟨some 1, .box (.t 0), none⟩,
  ⟨some 2, .alloc ([.s (.slice none 0 0), .s (.int .i64 0)]), none⟩]
abbrev r55_1 : List CO := [
  ⟨some 3, .load true 2 (.t 1), none⟩,
  ⟨some 4, .load true 2 (.t 1), none⟩,
  ⟨some 5, .call (.c (.fn (.func 56) [] [])) [.t 4], none⟩,
  ⟨some 6, .faddr 1 (.t 1), none⟩,
  ⟨some 7, .load false 1 (.t 6), none⟩,
  ⟨some 8, .call (.c (.fn (.func 53) [] [])) [.t 3, .t 5, .t 7], none⟩,
  ⟨none, .store 2 (.t 2) (.t 8), none⟩]
abbrev b55_1 : List (List Nat) := [[], [], [1], [], [3], [0, 2, 4, 2], [5, 5, 0, 1, 2, 3, 4, 5]]
abbrev c55 : CC := .seq (.reg r55_0) (.seq (.regd r55_1 b55_1) (.rest [2] (.ret)))
theorem F55 : Fun Tryd.prog 55 9 c55 [.cell 2 true 2] 1 := ⟨⟨Tryd.f55, _, Tryd.func55, rfl, by kernel_rfl, Tryd.ntmps55, by kernel_rfl, by kernel_rfl⟩, by decide⟩

/-- linnet/line.Back -/
abbrev r56_0 : List CO := [
  ⟨some 1, .box (.t 0), none⟩,
  ⟨some 2, .mv (.c (.p (.s (.int .i64 0)))), none⟩]
abbrev r56_1 : List CO := [
  ⟨some 4, .load true 2 (.t 1), none⟩,
  ⟨some 5, .call (.c (.fn (.func 35) [] [])) [.t 4], none⟩,
  ⟨some 6, .bin .neq (.t 5) (.c (.p (.s (.int .i64 0)))), none⟩]
abbrev r56_2 : List CO := [
  ⟨some 2, .mv (.c (.p (.s (.int .i64 0)))), none⟩]
abbrev r56_3 : List CO := [
  ⟨some 7, .faddr 0 (.t 1), none⟩,
  ⟨some 8, .load false 1 (.t 7), none⟩,
  ⟨some 9, .faddr 1 (.t 1), none⟩,
  ⟨some 10, .load false 1 (.t 9), none⟩,
  ⟨some 11, .slice 1 (.t 8) none (some (.t 10)), none⟩,
  ⟨some 12, .call (.c (.fn (.func 70) [] [])) [.t 11, .c (.p (.s (.string { data := #[32, 9] })))], none⟩,
  ⟨some 13, .len (.t 12), none⟩,
  ⟨some 3, .mv (.t 13), none⟩]
abbrev r56_4 : List CO := [
  ⟨some 14, .mv (.t 3), none⟩,
  ⟨some 15, .bin .gtr (.t 14) (.c (.p (.s (.int .i64 0)))), none⟩,
  ⟨some 16, .mv (.t 15), none⟩,
  ⟨some 17, .faddr 0 (.t 1), some (16, true)⟩,
  ⟨some 18, .load false 1 (.t 17), some (16, true)⟩,
  ⟨some 19, .mv (.t 3), some (16, true)⟩,
  ⟨some 20, .bin .sub (.t 19) (.c (.p (.s (.int .i64 1)))), some (16, true)⟩,
  ⟨some 21, .iaddrS 1 (.t 18) (.t 20), some (16, true)⟩,
  ⟨some 22, .load false 1 (.t 21), some (16, true)⟩,
  ⟨some 23, .call (.c (.fn (.func 71) [] [])) [.t 22], some (16, true)⟩,
  ⟨some 24, .un .not (.t 23), some (16, true)⟩,
  ⟨some 25, .pick (.t 16) (.t 24) (.c (.p (.s (.bool false)))), none⟩]
abbrev r56_5 : List CO := [
  ⟨some 26, .mv (.t 3), none⟩,
  ⟨some 27, .bin .sub (.t 26) (.c (.p (.s (.int .i64 1)))), none⟩,
  ⟨some 3, .mv (.t 27), none⟩]
abbrev k56_1 : CC := .reg r56_5
abbrev l56_7 : CC := .seq (.seq (.reg r56_4) (.rest [1, 3, 25] (.cond (.t 25) (.skip) (.exit 0)))) (.rest [1, 3] (.block 1 k56_1))
abbrev k56_0 : CC := .loop l56_7
abbrev r56_6 : List CO := [
  ⟨some 28, .mv (.t 3), none⟩,
  ⟨some 2, .mv (.t 28), none⟩]
abbrev c56 : CC := .seq (.reg r56_0) (.seq (.seq (.reg r56_1) (.cond (.t 6) (.seq (.reg r56_2) (.ret)) (.skip))) (.rest [1] (.seq (.reg r56_3) (.rest [1, 3] (.seq (.block 0 k56_0) (.rest [3] (.seq (.reg r56_6) (.ret))))))))
theorem F56 : Fun Tryd.prog 56 29 c56 [.tmp 2] 1 := ⟨⟨Tryd.f56, _, Tryd.func56, rfl, by kernel_rfl, Tryd.ntmps56, by kernel_rfl, by kernel_rfl⟩, by decide⟩

/-- linnet/line.does$4 -/
abbrev r57_0 : List CO := [
  ⟨some 1, .box (.t 0), none⟩,
  ⟨some 2, .alloc ([.s (.slice none 0 0), .s (.int .i64 0)]), none⟩]
abbrev r57_1 : List CO := [
  ⟨some 3, .load true 2 (.t 1), none⟩,
  ⟨some 4, .faddr 1 (.t 1), none⟩,
  ⟨some 5, .load false 1 (.t 4), none⟩,
  ⟨some 6, .load true 2 (.t 1), none⟩,
  ⟨some 7, .call (.c (.fn (.func 58) [] [])) [.t 6], none⟩,
  ⟨some 8, .call (.c (.fn (.func 53) [] [])) [.t 3, .t 5, .t 7], none⟩,
  ⟨none, .store 2 (.t 2) (.t 8), none⟩]
abbrev b57_1 : List (List Nat) := [[], [], [1], [], [3], [0, 2, 4, 4], [5, 5, 0, 1, 2, 3, 4, 5]]
abbrev c57 : CC := .seq (.reg r57_0) (.seq (.regd r57_1 b57_1) (.rest [2] (.ret)))
theorem F57 : Fun Tryd.prog 57 9 c57 [.cell 2 true 2] 1 := ⟨⟨Tryd.f57, _, Tryd.func57, rfl, by kernel_rfl, Tryd.ntmps57, by kernel_rfl, by kernel_rfl⟩, by decide⟩

/-- linnet/line.On -/
abbrev r58_0 : List CO := [
  ⟨some 1, .box (.t 0), none⟩,
  ⟨some 2, .mv (.c (.p (.s (.int .i64 0)))), none⟩]
abbrev r58_1 : List CO := [
  ⟨some 4, .load true 2 (.t 1), none⟩,
  ⟨some 5, .call (.c (.fn (.func 35) [] [])) [.t 4], none⟩,
  ⟨some 6, .bin .neq (.t 5) (.c (.p (.s (.int .i64 0)))), none⟩]
abbrev r58_2 : List CO := [
  ⟨some 2, .mv (.c (.p (.s (.int .i64 0)))), none⟩]
abbrev r58_3 : List CO := [
  ⟨some 7, .faddr 1 (.t 1), none⟩,
  ⟨some 8, .load false 1 (.t 7), none⟩,
  ⟨some 3, .mv (.t 8), none⟩]
abbrev r58_4 : List CO := [
  ⟨some 9, .mv (.t 3), none⟩,
  ⟨some 10, .faddr 0 (.t 1), none⟩,
  ⟨some 11, .load false 1 (.t 10), none⟩,
  ⟨some 12, .len (.t 11), none⟩,
  ⟨some 13, .bin .lss (.t 9) (.t 12), none⟩,
  ⟨some 14, .mv (.t 13), none⟩,
  ⟨some 15, .faddr 0 (.t 1), some (14, true)⟩,
  ⟨some 16, .load false 1 (.t 15), some (14, true)⟩,
  ⟨some 17, .mv (.t 3), some (14, true)⟩,
  ⟨some 18, .iaddrS 1 (.t 16) (.t 17), some (14, true)⟩,
  ⟨some 19, .load false 1 (.t 18), some (14, true)⟩,
  ⟨some 20, .call (.c (.fn (.func 71) [] [])) [.t 19], some (14, true)⟩,
  ⟨some 21, .un .not (.t 20), some (14, true)⟩,
  ⟨some 22, .pick (.t 14) (.t 21) (.c (.p (.s (.bool false)))), none⟩]
abbrev r58_5 : List CO := [
  ⟨some 23, .mv (.t 3), none⟩,
  ⟨some 24, .bin .add (.t 23) (.c (.p (.s (.int .i64 1)))), none⟩,
  ⟨some 3, .mv (.t 24), none⟩]
abbrev k58_1 : CC := .reg r58_5
abbrev l58_7 : CC := .seq (.seq (.reg r58_4) (.rest [1, 3, 22] (.cond (.t 22) (.skip) (.exit 0)))) (.rest [1, 3] (.block 1 k58_1))
abbrev k58_0 : CC := .loop l58_7
abbrev r58_6 : List CO := [
  ⟨some 25, .mv (.t 3), none⟩,
  ⟨some 26, .faddr 0 (.t 1), none⟩,
  ⟨some 27, .load false 1 (.t 26), none⟩,
  ⟨some 28, .len (.t 27), none⟩,
  ⟨some 29, .bin .lss (.t 25) (.t 28), none⟩,
  ⟨some 30, .mv (.t 29), none⟩,
  ⟨some 31, .faddr 0 (.t 1), some (30, true)⟩,
  ⟨some 32, .load false 1 (.t 31), some (30, true)⟩,
  ⟨some 33, .mv (.t 3), some (30, true)⟩,
  ⟨some 34, .iaddrS 1 (.t 32) (.t 33), some (30, true)⟩,
  ⟨some 35, .load false 1 (.t 34), some (30, true)⟩,
  ⟨some 36, .call (.c (.fn (.func 71) [] [])) [.t 35], some (30, true)⟩,
  ⟨some 37, .pick (.t 30) (.t 36) (.c (.p (.s (.bool false)))), none⟩]
abbrev r58_7 : List CO := [
  ⟨some 38, .mv (.t 3), none⟩,
  ⟨some 39, .bin .add (.t 38) (.c (.p (.s (.int .i64 1)))), none⟩,
  ⟨some 3, .mv (.t 39), none⟩]
abbrev k58_3 : CC := .reg r58_7
abbrev l58_12 : CC := .seq (.seq (.reg r58_6) (.rest [1, 3, 37] (.cond (.t 37) (.skip) (.exit 2)))) (.rest [1, 3] (.block 3 k58_3))
abbrev k58_2 : CC := .loop l58_12
abbrev r58_8 : List CO := [
  ⟨some 40, .mv (.t 3), none⟩,
  ⟨some 2, .mv (.t 40), none⟩]
abbrev c58 : CC := .seq (.reg r58_0) (.seq (.seq (.reg r58_1) (.cond (.t 6) (.seq (.reg r58_2) (.ret)) (.skip))) (.rest [1] (.seq (.reg r58_3) (.seq (.block 0 k58_0) (.rest [1, 3] (.seq (.block 2 k58_2) (.rest [3] (.seq (.reg r58_8) (.ret)))))))))
theorem F58 : Fun Tryd.prog 58 41 c58 [.tmp 2] 1 := ⟨⟨Tryd.f58, _, Tryd.func58, rfl, by kernel_rfl, Tryd.ntmps58, by kernel_rfl, by kernel_rfl⟩, by decide⟩

/-- linnet/line.does$5 -/
abbrev r59_0 : List CO := [
  ⟨some 1, .box (.t 0), none⟩,
  ⟨some 2, .alloc ([.s (.slice none 0 0), .s (.int .i64 0)]), none⟩]
abbrev r59_1 : List CO := [
  ⟨some 3, .load true 2 (.t 1), none⟩,
  ⟨some 4, .faddr 1 (.t 1), none⟩,
  ⟨some 5, .load false 1 (.t 4), none⟩,
  ⟨some 6, .call (.c (.fn (.func 53) [] [])) [.t 3, .c (.p (.s (.int .i64 0))), .t 5], none⟩,
  ⟨none, .store 2 (.t 2) (.t 6), none⟩]
abbrev c59 : CC := .seq (.reg r59_0) (.seq (.reg r59_1) (.rest [2] (.ret)))
theorem F59 : Fun Tryd.prog 59 7 c59 [.cell 2 true 2] 1 := ⟨⟨Tryd.f59, _, Tryd.func59, rfl, by kernel_rfl, Tryd.ntmps59, by kernel_rfl, by kernel_rfl⟩, by decide⟩

/-- linnet/line.does$6 -/
abbrev r60_0 : List CO := [
  ⟨some 1, .box (.t 0), none⟩,
  ⟨some 2, .alloc ([.s (.slice none 0 0), .s (.int .i64 0)]), none⟩]
abbrev r60_1 : List CO := [
  ⟨some 3, .load true 2 (.t 1), none⟩,
  ⟨some 4, .faddr 1 (.t 1), none⟩,
  ⟨some 5, .load false 1 (.t 4), none⟩,
  ⟨some 6, .faddr 0 (.t 1), none⟩,
  ⟨some 7, .load false 1 (.t 6), none⟩,
  ⟨some 8, .len (.t 7), none⟩,
  ⟨some 9, .call (.c (.fn (.func 53) [] [])) [.t 3, .t 5, .t 8], none⟩,
  ⟨none, .store 2 (.t 2) (.t 9), none⟩]
abbrev c60 : CC := .seq (.reg r60_0) (.seq (.reg r60_1) (.rest [2] (.ret)))
theorem F60 : Fun Tryd.prog 60 10 c60 [.cell 2 true 2] 1 := ⟨⟨Tryd.f60, _, Tryd.func60, rfl, by kernel_rfl, Tryd.ntmps60, by kernel_rfl, by kernel_rfl⟩, by decide⟩

/-- linnet/line.does$7 -/
abbrev r61_0 : List CO := [
  ⟨some 1, .box (.t 0), none⟩,
  ⟨some 2, .alloc ([.s (.slice none 0 0), .s (.int .i64 0)]), none⟩]
abbrev r61_1 : List CO := [
  ⟨some 3, .build ([.s (.slice none 0 0), .s (.int .i64 0)]) [], none⟩,
  ⟨none, .store 2 (.t 2) (.t 3), none⟩]
abbrev c61 : CC := .seq (.reg r61_0) (.seq (.reg r61_1) (.ret))
theorem F61 : Fun Tryd.prog 61 4 c61 [.cell 2 true 2] 1 := ⟨⟨Tryd.f61, _, Tryd.func61, rfl, by kernel_rfl, Tryd.ntmps61, by kernel_rfl, by kernel_rfl⟩, by decide⟩

/-- linnet/line.does$8 -/
abbrev r62_0 : List CO := [
  ⟨some 1, .box (.t 0), none⟩,
  ⟨some 2, .alloc ([.s (.slice none 0 0), .s (.int .i64 0)]), none⟩]
abbrev r62_1 : List CO := [
  ⟨some 3, .load true 2 (.t 1), none⟩,
  ⟨some 4, .faddr 1 (.t 1), none⟩,
  ⟨some 5, .load false 1 (.t 4), none⟩,
  ⟨some 6, .bin .sub (.t 5) (.c (.p (.s (.int .i64 1)))), none⟩,
  ⟨some 7, .call (.c (.fn (.func 63) [] [])) [.t 3, .t 6], none⟩,
  ⟨none, .store 2 (.t 2) (.t 7), none⟩]
abbrev c62 : CC := .seq (.reg r62_0) (.seq (.reg r62_1) (.rest [2] (.ret)))
theorem F62 : Fun Tryd.prog 62 8 c62 [.cell 2 true 2] 1 := ⟨⟨Tryd.f62, _, Tryd.func62, rfl, by kernel_rfl, Tryd.ntmps62, by kernel_rfl, by kernel_rfl⟩, by decide⟩

/-- linnet/line.to -/
abbrev r63_0 : List CO := [
  ⟨some 2, .box (.t 0), none⟩,
  ⟨some 4, .alloc ([.s (.slice none 0 0), .s (.int .i64 0)]), none⟩]
abbrev r63_1 : List CO := [
  ⟨some 5, .faddr 0 (.t 2), none⟩,
  ⟨some 6, .load false 1 (.t 5), none⟩,
  ⟨some 7, .mv (.t 1), none⟩,
  ⟨some 8, .faddr 0 (.t 2), none⟩,
  ⟨some 9, .load false 1 (.t 8), none⟩,
  ⟨some 10, .len (.t 9), none⟩,
  ⟨some 11, .minmax false (.t 7) (.t 10), none⟩,
  ⟨some 12, .minmax true (.c (.p (.s (.int .i64 0)))) (.t 11), none⟩,
  ⟨some 13, .build ([.s (.slice none 0 0), .s (.int .i64 0)]) [(0, 1, .t 6), (1, 1, .t 12)], none⟩,
  ⟨none, .store 2 (.t 4) (.t 13), none⟩]
abbrev c63 : CC := .seq (.reg r63_0) (.seq (.reg r63_1) (.rest [4] (.ret)))
theorem F63 : Fun Tryd.prog 63 14 c63 [.cell 4 true 2] 2 := ⟨⟨Tryd.f63, _, Tryd.func63, rfl, by kernel_rfl, Tryd.ntmps63, by kernel_rfl, by kernel_rfl⟩, by decide⟩

/-- linnet/line.does$9 -/
abbrev r64_0 : List CO := [
  ⟨some 1, .box (.t 0), none⟩,
  ⟨some 2, .alloc ([.s (.slice none 0 0), .s (.int .i64 0)]), none⟩]
abbrev r64_1 : List CO := [
  ⟨some 3, .load true 2 (.t 1), none⟩,
  ⟨some 4, .faddr 1 (.t 1), none⟩,
  ⟨some 5, .load false 1 (.t 4), none⟩,
  ⟨some 6, .bin .add (.t 5) (.c (.p (.s (.int .i64 1)))), none⟩,
  ⟨some 7, .call (.c (.fn (.func 63) [] [])) [.t 3, .t 6], none⟩,
  ⟨none, .store 2 (.t 2) (.t 7), none⟩]
abbrev c64 : CC := .seq (.reg r64_0) (.seq (.reg r64_1) (.rest [2] (.ret)))
theorem F64 : Fun Tryd.prog 64 8 c64 [.cell 2 true 2] 1 := ⟨⟨Tryd.f64, _, Tryd.func64, rfl, by kernel_rfl, Tryd.ntmps64, by kernel_rfl, by kernel_rfl⟩, by decide⟩

/-- linnet/line.does$10 -/
abbrev r65_0 : List CO := [
  ⟨some 1, .box (.t 0), none⟩,
  ⟨some 2, .alloc ([.s (.slice none 0 0), .s (.int .i64 0)]), none⟩]
abbrev r65_1 : List CO := [
  ⟨some 3, .load true 2 (.t 1), none⟩,
  ⟨some 4, .load true 2 (.t 1), none⟩,
  ⟨some 5, .call (.c (.fn (.func 56) [] [])) [.t 4], none⟩,
  ⟨some 6, .call (.c (.fn (.func 63) [] [])) [.t 3, .t 5], none⟩,
  ⟨none, .store 2 (.t 2) (.t 6), none⟩]
abbrev b65_1 : List (List Nat) := [[], [], [1], [0, 2, 2], [3, 3, 0, 1, 2, 3]]
abbrev c65 : CC := .seq (.reg r65_0) (.seq (.regd r65_1 b65_1) (.rest [2] (.ret)))
theorem F65 : Fun Tryd.prog 65 7 c65 [.cell 2 true 2] 1 := ⟨⟨Tryd.f65, _, Tryd.func65, rfl, by kernel_rfl, Tryd.ntmps65, by kernel_rfl, by kernel_rfl⟩, by decide⟩

/-- linnet/line.does$11 -/
abbrev r66_0 : List CO := [
  ⟨some 1, .box (.t 0), none⟩,
  ⟨some 2, .alloc ([.s (.slice none 0 0), .s (.int .i64 0)]), none⟩]
abbrev r66_1 : List CO := [
  ⟨some 3, .load true 2 (.t 1), none⟩,
  ⟨some 4, .load true 2 (.t 1), none⟩,
  ⟨some 5, .call (.c (.fn (.func 58) [] [])) [.t 4], none⟩,
  ⟨some 6, .call (.c (.fn (.func 63) [] [])) [.t 3, .t 5], none⟩,
  ⟨none, .store 2 (.t 2) (.t 6), none⟩]
abbrev b66_1 : List (List Nat) := [[], [], [1], [0, 2, 2], [3, 3, 0, 1, 2, 3]]
abbrev c66 : CC := .seq (.reg r66_0) (.seq (.regd r66_1 b66_1) (.rest [2] (.ret)))
theorem F66 : Fun Tryd.prog 66 7 c66 [.cell 2 true 2] 1 := ⟨⟨Tryd.f66, _, Tryd.func66, rfl, by kernel_rfl, Tryd.ntmps66, by kernel_rfl, by kernel_rfl⟩, by decide⟩

/-- linnet/line.does$12 -/
abbrev r67_0 : List CO := [
  ⟨some 1, .box (.t 0), none⟩,
  ⟨some 2, .alloc ([.s (.slice none 0 0), .s (.int .i64 0)]), none⟩]
abbrev r67_1 : List CO := [
  ⟨some 3, .load true 2 (.t 1), none⟩,
  ⟨some 4, .call (.c (.fn (.func 63) [] [])) [.t 3, .c (.p (.s (.int .i64 0)))], none⟩,
  ⟨none, .store 2 (.t 2) (.t 4), none⟩]
abbrev c67 : CC := .seq (.reg r67_0) (.seq (.reg r67_1) (.ret))
theorem F67 : Fun Tryd.prog 67 5 c67 [.cell 2 true 2] 1 := ⟨⟨Tryd.f67, _, Tryd.func67, rfl, by kernel_rfl, Tryd.ntmps67, by kernel_rfl, by kernel_rfl⟩, by decide⟩

/-- linnet/line.does$13 -/
abbrev r68_0 : List CO := [
  ⟨some 1, .box (.t 0), none⟩,
  ⟨some 2, .alloc ([.s (.slice none 0 0), .s (.int .i64 0)]), none⟩]
abbrev r68_1 : List CO := [
  ⟨some 3, .load true 2 (.t 1), none⟩,
  ⟨some 4, .faddr 0 (.t 1), none⟩,
  ⟨some 5, .load false 1 (.t 4), none⟩,
  ⟨some 6, .len (.t 5), none⟩,
  ⟨some 7, .call (.c (.fn (.func 63) [] [])) [.t 3, .t 6], none⟩,
  ⟨none, .store 2 (.t 2) (.t 7), none⟩]
abbrev c68 : CC := .seq (.reg r68_0) (.seq (.reg r68_1) (.rest [2] (.ret)))
theorem F68 : Fun Tryd.prog 68 8 c68 [.cell 2 true 2] 1 := ⟨⟨Tryd.f68, _, Tryd.func68, rfl, by kernel_rfl, Tryd.ntmps68, by kernel_rfl, by kernel_rfl⟩, by decide⟩

/-- linnet/linnetref12.blank -/
abbrev r69_0 : List CO := [
  ⟨some 2, .mv (.c (.p (.s (.bool false)))), none⟩]
abbrev r69_1 : List CO := [
  ⟨some 3, .mv (.t 0), none⟩,
  ⟨some 4, .bin .eql (.t 3) (.c (.p (.s (.int .u8 32)))), none⟩,
  ⟨some 5, .mv (.t 4), none⟩,
  ⟨some 6, .mv (.t 0), some (5, false)⟩,
  ⟨some 7, .bin .eql (.t 6) (.c (.p (.s (.int .u8 9)))), some (5, false)⟩,
  ⟨some 8, .pick (.t 5) (.c (.p (.s (.bool true)))) (.t 7), none⟩,
  ⟨some 2, .mv (.t 8), none⟩]
abbrev c69 : CC := .seq (.reg r69_0) (.seq (.reg r69_1) (.rest [2] (.ret)))
theorem F69 : Fun Tryd.prog 69 9 c69 [.tmp 2] 1 := ⟨⟨Tryd.f69, _, Tryd.func69, rfl, by kernel_rfl, Tryd.ntmps69, by kernel_rfl, by kernel_rfl⟩, by decide⟩

/-- bytes.TrimRight -/
abbrev r70_0 : List CO := [
  ⟨some 4, .mv (.c (.p (.s (.slice none 0 0)))), none⟩]
abbrev r70_1 : List CO := [
  ⟨some 7, .mv (.t 0), none⟩,
  ⟨some 8, .len (.t 7), none⟩,
  ⟨some 9, .bin .eql (.t 8) (.c (.p (.s (.int .i64 0)))), none⟩,
  ⟨some 10, .mv (.t 9), none⟩,
  ⟨some 11, .mv (.t 1), some (10, false)⟩,
  ⟨some 12, .bin .eql (.t 11) (.c (.p (.s (.string { data := #[] })))), some (10, false)⟩,
  ⟨some 13, .pick (.t 10) (.c (.p (.s (.bool true)))) (.t 12), none⟩]
abbrev r70_2 : List CO := [
  ⟨some 14, .mv (.t 0), none⟩,
  ⟨some 4, .mv (.t 14), none⟩]
abbrev r70_3 : List CO := [
  ⟨some 15, .mv (.t 1), none⟩,
  ⟨some 16, .slen (.t 15), none⟩,
  ⟨some 17, .bin .eql (.t 16) (.c (.p (.s (.int .i64 1)))), none⟩,
  ⟨some 18, .mv (.t 17), none⟩,
  ⟨some 19, .mv (.t 1), some (18, true)⟩,
  ⟨some 20, .sindex (.t 19) (.c (.p (.s (.int .i64 0)))), some (18, true)⟩,
  ⟨some 21, .bin .lss (.t 20) (.c (.p (.s (.int .u8 128)))), some (18, true)⟩,
  ⟨some 22, .pick (.t 18) (.t 21) (.c (.p (.s (.bool false)))), none⟩]
abbrev r70_4 : List CO := [
  ⟨some 23, .mv (.t 0), none⟩,
  ⟨some 24, .mv (.t 1), none⟩,
  ⟨some 25, .sindex (.t 24) (.c (.p (.s (.int .i64 0)))), none⟩,
  ⟨some 26, .call (.c (.fn (.func 72) [] [])) [.t 23, .t 25], none⟩,
  ⟨some 4, .mv (.t 26), none⟩]
abbrev r70_5 : List CO := [
  ⟨some 28, .mv (.t 1), none⟩,
  ⟨some 29, .call (.c (.fn (.func 73) [] [])) [.t 28], none⟩,
  ⟨some 27, .mv (.t 29), none⟩,
  ⟨some 30, .extract 0 (.t 27), none⟩,
  ⟨some 31, .extract 1 (.t 27), none⟩,
  ⟨some 5, .alloc (List.replicate 256 (.s (.bool false))), none⟩,
  ⟨none, .store 256 (.t 5) (.t 30), none⟩,
  ⟨some 6, .mv (.t 31), none⟩]
abbrev r70_6 : List CO := [
  ⟨some 32, .mv (.t 6), none⟩]
abbrev r70_7 : List CO := [
  ⟨some 33, .mv (.t 0), none⟩,
  ⟨some 34, .call (.c (.fn (.func 74) [] [])) [.t 33, .t 5], none⟩,
  ⟨some 4, .mv (.t 34), none⟩]
abbrev r70_8 : List CO := [
  ⟨some 35, .mv (.t 0), none⟩,
  ⟨some 36, .mv (.t 1), none⟩,
  ⟨some 37, .call (.c (.fn (.func 75) [] [])) [.t 35, .t 36], none⟩,
  ⟨some 4, .mv (.t 37), none⟩]
abbrev c70 : CC := .seq (.reg r70_0) (.seq (.seq (.reg r70_1) (.rest [0, 1, 13] (.cond (.t 13) (.seq (.reg r70_2) (.ret)) (.skip)))) (.rest [0, 1] (.seq (.seq (.reg r70_3) (.rest [0, 1, 22] (.cond (.t 22) (.seq (.reg r70_4) (.rest [4] (.ret))) (.skip)))) (.rest [0, 1] (.seq (.seq (.reg r70_5) (.rest [0, 1, 5, 6] (.seq (.reg r70_6) (.cond (.t 32) (.seq (.reg r70_7) (.ret)) (.skip))))) (.rest [0, 1] (.seq (.reg r70_8) (.rest [4] (.ret)))))))))
theorem F70 : Fun Tryd.prog 70 38 c70 [.tmp 4] 2 := ⟨⟨Tryd.f70, _, Tryd.func70, rfl, by kernel_rfl, Tryd.ntmps70, by kernel_rfl, by kernel_rfl⟩, by decide⟩

/-- linnet/line.blank -/
abbrev r71_0 : List CO := [
  ⟨some 2, .mv (.c (.p (.s (.bool false)))), none⟩]
abbrev r71_1 : List CO := [
  ⟨some 3, .mv (.t 0), none⟩,
  ⟨some 4, .bin .eql (.t 3) (.c (.p (.s (.int .u8 32)))), none⟩,
  ⟨some 5, .mv (.t 4), none⟩,
  ⟨some 6, .mv (.t 0), some (5, false)⟩,
  ⟨some 7, .bin .eql (.t 6) (.c (.p (.s (.int .u8 9)))), some (5, false)⟩,
  ⟨some 8, .pick (.t 5) (.c (.p (.s (.bool true)))) (.t 7), none⟩,
  ⟨some 2, .mv (.t 8), none⟩]
abbrev c71 : CC := .seq (.reg r71_0) (.seq (.reg r71_1) (.rest [2] (.ret)))
theorem F71 : Fun Tryd.prog 71 9 c71 [.tmp 2] 1 := ⟨⟨Tryd.f71, _, Tryd.func71, rfl, by kernel_rfl, Tryd.ntmps71, by kernel_rfl, by kernel_rfl⟩, by decide⟩

/-- bytes.trimRightByte -/
abbrev r72_0 : List CO := [
  ⟨some 4, .mv (.c (.p (.s (.slice none 0 0)))), none⟩]
abbrev r72_1 : List CO := [
  ⟨some 5, .mv (.t 0), none⟩,
  ⟨some 6, .len (.t 5), none⟩,
  ⟨some 7, .bin .gtr (.t 6) (.c (.p (.s (.int .i64 0)))), none⟩,
  ⟨some 8, .mv (.t 7), none⟩,
  ⟨some 9, .mv (.t 0), some (8, true)⟩,
  ⟨some 10, .mv (.t 0), some (8, true)⟩,
  ⟨some 11, .len (.t 10), some (8, true)⟩,
  ⟨some 12, .bin .sub (.t 11) (.c (.p (.s (.int .i64 1)))), some (8, true)⟩,
  ⟨some 13, .iaddrS 1 (.t 9) (.t 12), some (8, true)⟩,
  ⟨some 14, .load false 1 (.t 13), some (8, true)⟩,
  ⟨some 15, .mv (.t 1), some (8, true)⟩,
  ⟨some 16, .bin .eql (.t 14) (.t 15), some (8, true)⟩,
  ⟨some 17, .pick (.t 8) (.t 16) (.c (.p (.s (.bool false)))), none⟩]
abbrev r72_2 : List CO := [
  ⟨some 18, .mv (.t 0), none⟩,
  ⟨some 19, .mv (.t 0), none⟩,
  ⟨some 20, .len (.t 19), none⟩,
  ⟨some 21, .bin .sub (.t 20) (.c (.p (.s (.int .i64 1)))), none⟩,
  ⟨some 22, .slice 1 (.t 18) none (some (.t 21)), none⟩,
  ⟨some 0, .mv (.t 22), none⟩]
abbrev k72_1 : CC := .reg r72_2
abbrev l72_4 : CC := .seq (.seq (.reg r72_1) (.rest [0, 1, 17] (.cond (.t 17) (.skip) (.exit 0)))) (.rest [0, 1] (.block 1 k72_1))
abbrev k72_0 : CC := .loop l72_4
abbrev r72_3 : List CO := [
  ⟨some 23, .mv (.t 0), none⟩,
  ⟨some 4, .mv (.t 23), none⟩]
abbrev c72 : CC := .seq (.reg r72_0) (.seq (.block 0 k72_0) (.rest [0] (.seq (.reg r72_3) (.ret))))
theorem F72 : Fun Tryd.prog 72 24 c72 [.tmp 4] 2 := ⟨⟨Tryd.f72, _, Tryd.func72, rfl, by kernel_rfl, Tryd.ntmps72, by kernel_rfl, by kernel_rfl⟩, by decide⟩

/-- bytes.makeASCIISet -/
abbrev r73_0 : List CO := [
  ⟨some 2, .alloc (List.replicate 256 (.s (.bool false))), none⟩,
  ⟨some 3, .mv (.c (.p (.s (.bool false)))), none⟩]
abbrev r73_1 : List CO := [
  ⟨some 4, .mv (.c (.p (.s (.int .i64 0)))), none⟩]
abbrev r73_2 : List CO := [
  ⟨some 6, .mv (.t 4), none⟩,
  ⟨some 7, .mv (.t 0), none⟩,
  ⟨some 8, .slen (.t 7), none⟩,
  ⟨some 9, .bin .lss (.t 6) (.t 8), none⟩]
abbrev r73_4 : List CO := [
  ⟨some 12, .mv (.t 0), none⟩,
  ⟨some 13, .mv (.t 4), none⟩,
  ⟨some 14, .sindex (.t 12) (.t 13), none⟩,
  ⟨some 5, .mv (.t 14), none⟩]
abbrev r73_5 : List CO := [
  ⟨some 15, .mv (.t 5), none⟩,
  ⟨some 16, .bin .geq (.t 15) (.c (.p (.s (.int .u8 128)))), none⟩]
abbrev r73_6 : List CO := [
  ⟨some 17, .load true 256 (.t 2), none⟩,
  ⟨none, .store 256 (.t 2) (.t 17), none⟩,
  ⟨some 3, .mv (.c (.p (.s (.bool false)))), none⟩]
abbrev r73_7 : List CO := [
  ⟨some 18, .mv (.t 5), none⟩,
  ⟨some 19, .iaddrA 1 256 (.t 2) (.t 18), none⟩,
  ⟨none, .store 1 (.t 19) (.c (.p (.s (.bool true)))), none⟩]
abbrev k73_1 : CC := .seq (.reg r73_4) (.rest [0, 2, 4, 5] (.seq (.seq (.reg r73_5) (.cond (.t 16) (.seq (.reg r73_6) (.ret)) (.skip))) (.rest [0, 2, 4, 5] (.reg r73_7))))
abbrev r73_3 : List CO := [
  ⟨some 10, .mv (.t 4), none⟩,
  ⟨some 11, .bin .add (.t 10) (.c (.p (.s (.int .i64 1)))), none⟩,
  ⟨some 4, .mv (.t 11), none⟩]
abbrev l73_9 : CC := .seq (.seq (.reg r73_2) (.rest [0, 2, 4, 9] (.cond (.t 9) (.skip) (.exit 0)))) (.rest [0, 2, 4] (.seq (.block 1 k73_1) (.rest [0, 2, 4] (.reg r73_3))))
abbrev k73_0 : CC := .loop l73_9
abbrev r73_8 : List CO := [
  ⟨some 20, .load true 256 (.t 2), none⟩,
  ⟨none, .store 256 (.t 2) (.t 20), none⟩,
  ⟨some 3, .mv (.c (.p (.s (.bool true)))), none⟩]
abbrev c73 : CC := .seq (.reg r73_0) (.seq (.seq (.reg r73_1) (.block 0 k73_0)) (.rest [2] (.seq (.reg r73_8) (.ret))))
theorem F73 : Fun Tryd.prog 73 21 c73 [.cell 2 true 256, .tmp 3] 1 := ⟨⟨Tryd.f73, _, Tryd.func73, rfl, by kernel_rfl, Tryd.ntmps73, by kernel_rfl, by kernel_rfl⟩, by decide⟩

/-- bytes.trimRightASCII -/
abbrev r74_0 : List CO := [
  ⟨some 4, .mv (.c (.p (.s (.slice none 0 0)))), none⟩]
abbrev r74_1 : List CO := [
  ⟨some 5, .mv (.t 0), none⟩,
  ⟨some 6, .len (.t 5), none⟩,
  ⟨some 7, .bin .gtr (.t 6) (.c (.p (.s (.int .i64 0)))), none⟩]
abbrev r74_2 : List CO := [
  ⟨some 8, .mv (.t 1), none⟩,
  ⟨some 9, .mv (.t 0), none⟩,
  ⟨some 10, .mv (.t 0), none⟩,
  ⟨some 11, .len (.t 10), none⟩,
  ⟨some 12, .bin .sub (.t 11) (.c (.p (.s (.int .i64 1)))), none⟩,
  ⟨some 13, .iaddrS 1 (.t 9) (.t 12), none⟩,
  ⟨some 14, .load false 1 (.t 13), none⟩,
  ⟨some 15, .call (.c (.fn (.func 76) [] [])) [.t 8, .t 14], none⟩,
  ⟨some 16, .un .not (.t 15), none⟩]
abbrev r74_3 : List CO := [
  ⟨some 17, .mv (.t 0), none⟩,
  ⟨some 18, .mv (.t 0), none⟩,
  ⟨some 19, .len (.t 18), none⟩,
  ⟨some 20, .bin .sub (.t 19) (.c (.p (.s (.int .i64 1)))), none⟩,
  ⟨some 21, .slice 1 (.t 17) none (some (.t 20)), none⟩,
  ⟨some 0, .mv (.t 21), none⟩]
abbrev k74_1 : CC := .seq (.seq (.reg r74_2) (.rest [0, 1, 16] (.cond (.t 16) (.exit 0) (.skip)))) (.rest [0, 1] (.reg r74_3))
abbrev l74_5 : CC := .seq (.seq (.reg r74_1) (.cond (.t 7) (.skip) (.exit 0))) (.block 1 k74_1)
abbrev k74_0 : CC := .loop l74_5
abbrev r74_4 : List CO := [
  ⟨some 22, .mv (.t 0), none⟩,
  ⟨some 4, .mv (.t 22), none⟩]
abbrev c74 : CC := .seq (.reg r74_0) (.seq (.block 0 k74_0) (.rest [0] (.seq (.reg r74_4) (.ret))))
theorem F74 : Fun Tryd.prog 74 23 c74 [.tmp 4] 2 := ⟨⟨Tryd.f74, _, Tryd.func74, rfl, by kernel_rfl, Tryd.ntmps74, by kernel_rfl, by kernel_rfl⟩, by decide⟩

/-- bytes.trimRightUnicode -/
abbrev r75_0 : List CO := [
  ⟨some 4, .mv (.c (.p (.s (.slice none 0 0)))), none⟩]
abbrev r75_1 : List CO := [
  ⟨some 7, .mv (.t 0), none⟩,
  ⟨some 8, .len (.t 7), none⟩,
  ⟨some 9, .bin .gtr (.t 8) (.c (.p (.s (.int .i64 0)))), none⟩]
abbrev r75_2 : List CO := [
  ⟨some 10, .mv (.t 0), none⟩,
  ⟨some 11, .mv (.t 0), none⟩,
  ⟨some 12, .len (.t 11), none⟩,
  ⟨some 13, .bin .sub (.t 12) (.c (.p (.s (.int .i64 1)))), none⟩,
  ⟨some 14, .iaddrS 1 (.t 10) (.t 13), none⟩,
  ⟨some 15, .load false 1 (.t 14), none⟩,
  ⟨some 16, .toInt .i32 (.t 15), none⟩,
  ⟨some 5, .mv (.t 16), none⟩,
  ⟨some 6, .mv (.c (.p (.s (.int .i64 1)))), none⟩]
abbrev r75_3 : List CO := [
  ⟨some 17, .mv (.t 5), none⟩,
  ⟨some 18, .bin .geq (.t 17) (.c (.p (.s (.int .i32 128)))), none⟩]
abbrev r75_4 : List CO := [
  ⟨some 20, .mv (.t 0), none⟩,
  ⟨some 21, .call (.c (.fn (.func 77) [] [])) [.t 20], none⟩,
  ⟨some 19, .mv (.t 21), none⟩,
  ⟨some 22, .extract 0 (.t 19), none⟩,
  ⟨some 23, .extract 1 (.t 19), none⟩,
  ⟨some 5, .mv (.t 22), none⟩,
  ⟨some 6, .mv (.t 23), none⟩]
abbrev r75_5 : List CO := [
  ⟨some 24, .mv (.t 1), none⟩,
  ⟨some 25, .mv (.t 5), none⟩,
  ⟨some 26, .call (.c (.fn (.func 78) [] [])) [.t 24, .t 25], none⟩,
  ⟨some 27, .un .not (.t 26), none⟩]
abbrev r75_6 : List CO := [
  ⟨some 28, .mv (.t 0), none⟩,
  ⟨some 29, .mv (.t 0), none⟩,
  ⟨some 30, .len (.t 29), none⟩,
  ⟨some 31, .mv (.t 6), none⟩,
  ⟨some 32, .bin .sub (.t 30) (.t 31), none⟩,
  ⟨some 33, .slice 1 (.t 28) none (some (.t 32)), none⟩,
  ⟨some 0, .mv (.t 33), none⟩]
abbrev k75_1 : CC := .seq (.reg r75_2) (.rest [0, 1, 5, 6] (.seq (.seq (.reg r75_3) (.cond (.t 18) (.reg r75_4) (.skip))) (.rest [0, 1, 5, 6] (.seq (.seq (.reg r75_5) (.rest [0, 1, 6, 27] (.cond (.t 27) (.exit 0) (.skip)))) (.rest [0, 1, 6] (.reg r75_6))))))
abbrev l75_8 : CC := .seq (.seq (.reg r75_1) (.cond (.t 9) (.skip) (.exit 0))) (.block 1 k75_1)
abbrev k75_0 : CC := .loop l75_8
abbrev r75_7 : List CO := [
  ⟨some 34, .mv (.t 0), none⟩,
  ⟨some 4, .mv (.t 34), none⟩]
abbrev c75 : CC := .seq (.reg r75_0) (.seq (.block 0 k75_0) (.rest [0] (.seq (.reg r75_7) (.ret))))
theorem F75 : Fun Tryd.prog 75 35 c75 [.tmp 4] 2 := ⟨⟨Tryd.f75, _, Tryd.func75, rfl, by kernel_rfl, Tryd.ntmps75, by kernel_rfl, by kernel_rfl⟩, by decide⟩

/-- (*bytes.asciiSet).contains -/
abbrev r76_0 : List CO := [
  ⟨some 4, .mv (.c (.p (.s (.bool false)))), none⟩]
abbrev r76_1 : List CO := [
  ⟨some 5, .mv (.t 0), none⟩,
  ⟨some 6, .mv (.t 1), none⟩,
  ⟨some 7, .nilchk (.t 5), none⟩,
  ⟨some 8, .iaddrA 1 256 (.t 7) (.t 6), none⟩,
  ⟨some 9, .load false 1 (.t 8), none⟩,
  ⟨some 4, .mv (.t 9), none⟩]
abbrev c76 : CC := .seq (.reg r76_0) (.seq (.reg r76_1) (.rest [4] (.ret)))
theorem F76 : Fun Tryd.prog 76 10 c76 [.tmp 4] 2 := ⟨⟨Tryd.f76, _, Tryd.func76, rfl, by kernel_rfl, Tryd.ntmps76, by kernel_rfl, by kernel_rfl⟩, by decide⟩

/-- unicode/utf8.DecodeLastRune -/
abbrev r77_0 : List CO := [
  ⟨some 2, .mv (.c (.p (.s (.int .i32 0)))), none⟩,
  ⟨some 3, .mv (.c (.p (.s (.int .i64 0)))), none⟩]
abbrev r77_1 : List CO := [
  ⟨some 7, .mv (.t 0), none⟩,
  ⟨some 8, .len (.t 7), none⟩,
  ⟨some 4, .mv (.t 8), none⟩]
abbrev r77_2 : List CO := [
  ⟨some 9, .mv (.t 4), none⟩,
  ⟨some 10, .bin .eql (.t 9) (.c (.p (.s (.int .i64 0)))), none⟩]
abbrev r77_3 : List CO := [
  ⟨some 2, .mv (.c (.p (.s (.int .i32 65533)))), none⟩,
  ⟨some 3, .mv (.c (.p (.s (.int .i64 0)))), none⟩]
abbrev r77_4 : List CO := [
  ⟨some 11, .mv (.t 4), none⟩,
  ⟨some 12, .bin .sub (.t 11) (.c (.p (.s (.int .i64 1)))), none⟩,
  ⟨some 5, .mv (.t 12), none⟩]
abbrev r77_5 : List CO := [
  ⟨some 13, .mv (.t 0), none⟩,
  ⟨some 14, .mv (.t 5), none⟩,
  ⟨some 15, .iaddrS 1 (.t 13) (.t 14), none⟩,
  ⟨some 16, .load false 1 (.t 15), none⟩,
  ⟨some 17, .toInt .i32 (.t 16), none⟩,
  ⟨some 2, .mv (.t 17), none⟩]
abbrev r77_6 : List CO := [
  ⟨some 18, .mv (.t 2), none⟩,
  ⟨some 19, .bin .lss (.t 18) (.c (.p (.s (.int .i32 128)))), none⟩]
abbrev r77_7 : List CO := [
  ⟨some 20, .mv (.t 2), none⟩,
  ⟨some 2, .mv (.t 20), none⟩,
  ⟨some 3, .mv (.c (.p (.s (.int .i64 1)))), none⟩]
abbrev r77_8 : List CO := [
  ⟨some 21, .mv (.t 4), none⟩,
  ⟨some 22, .bin .sub (.t 21) (.c (.p (.s (.int .i64 4)))), none⟩,
  ⟨some 23, .minmax true (.t 22) (.c (.p (.s (.int .i64 0)))), none⟩,
  ⟨some 6, .mv (.t 23), none⟩]
abbrev r77_9 : List CO := [
  ⟨some 24, .mv (.t 5), none⟩,
  ⟨some 25, .bin .sub (.t 24) (.c (.p (.s (.int .i64 1)))), none⟩,
  ⟨some 5, .mv (.t 25), none⟩]
abbrev r77_10 : List CO := [
  ⟨some 26, .mv (.t 5), none⟩,
  ⟨some 27, .mv (.t 6), none⟩,
  ⟨some 28, .bin .geq (.t 26) (.t 27), none⟩]
abbrev r77_12 : List CO := [
  ⟨some 31, .mv (.t 0), none⟩,
  ⟨some 32, .mv (.t 5), none⟩,
  ⟨some 33, .iaddrS 1 (.t 31) (.t 32), none⟩,
  ⟨some 34, .load false 1 (.t 33), none⟩,
  ⟨some 35, .call (.c (.fn (.func 79) [] [])) [.t 34], none⟩]
abbrev k77_1 : CC := .seq (.reg r77_12) (.rest [0, 4, 5, 6, 35] (.cond (.t 35) (.exit 0) (.skip)))
abbrev r77_11 : List CO := [
  ⟨some 29, .mv (.t 5), none⟩,
  ⟨some 30, .bin .sub (.t 29) (.c (.p (.s (.int .i64 1)))), none⟩,
  ⟨some 5, .mv (.t 30), none⟩]
abbrev l77_14 : CC := .seq (.seq (.reg r77_10) (.cond (.t 28) (.skip) (.exit 0))) (.seq (.block 1 k77_1) (.rest [0, 4, 5, 6] (.reg r77_11)))
abbrev k77_0 : CC := .loop l77_14
abbrev r77_13 : List CO := [
  ⟨some 36, .mv (.t 5), none⟩,
  ⟨some 37, .bin .lss (.t 36) (.c (.p (.s (.int .i64 0)))), none⟩]
abbrev r77_14 : List CO := [
  ⟨some 5, .mv (.c (.p (.s (.int .i64 0)))), none⟩]
abbrev r77_15 : List CO := [
  ⟨some 39, .mv (.t 0), none⟩,
  ⟨some 40, .mv (.t 5), none⟩,
  ⟨some 41, .mv (.t 4), none⟩,
  ⟨some 42, .slice 1 (.t 39) (some (.t 40)) (some (.t 41)), none⟩,
  ⟨some 43, .call (.c (.fn (.func 80) [] [])) [.t 42], none⟩,
  ⟨some 38, .mv (.t 43), none⟩,
  ⟨some 44, .extract 0 (.t 38), none⟩,
  ⟨some 45, .extract 1 (.t 38), none⟩,
  ⟨some 2, .mv (.t 44), none⟩,
  ⟨some 3, .mv (.t 45), none⟩]
abbrev r77_16 : List CO := [
  ⟨some 46, .mv (.t 5), none⟩,
  ⟨some 47, .mv (.t 3), none⟩,
  ⟨some 48, .bin .add (.t 46) (.t 47), none⟩,
  ⟨some 49, .mv (.t 4), none⟩,
  ⟨some 50, .bin .neq (.t 48) (.t 49), none⟩]
abbrev r77_17 : List CO := [
  ⟨some 2, .mv (.c (.p (.s (.int .i32 65533)))), none⟩,
  ⟨some 3, .mv (.c (.p (.s (.int .i64 1)))), none⟩]
abbrev r77_18 : List CO := [
  ⟨some 51, .mv (.t 2), none⟩,
  ⟨some 52, .mv (.t 3), none⟩,
  ⟨some 2, .mv (.t 51), none⟩,
  ⟨some 3, .mv (.t 52), none⟩]
abbrev c77 : CC := .seq (.reg r77_0) (.seq (.reg r77_1) (.seq (.seq (.reg r77_2) (.cond (.t 10) (.seq (.reg r77_3) (.ret)) (.skip))) (.rest [0, 4] (.seq (.reg r77_4) (.seq (.reg r77_5) (.rest [0, 2, 4, 5] (.seq (.seq (.reg r77_6) (.cond (.t 19) (.seq (.reg r77_7) (.ret)) (.skip))) (.rest [0, 4, 5] (.seq (.reg r77_8) (.rest [0, 4, 5, 6] (.seq (.seq (.reg r77_9) (.block 0 k77_0)) (.rest [0, 4, 5] (.seq (.seq (.reg r77_13) (.cond (.t 37) (.reg r77_14) (.skip))) (.seq (.reg r77_15) (.rest [2, 3, 4, 5] (.seq (.seq (.reg r77_16) (.rest [2, 3, 50] (.cond (.t 50) (.seq (.reg r77_17) (.ret)) (.skip)))) (.rest [2, 3] (.seq (.reg r77_18) (.rest [2, 3] (.ret))))))))))))))))))))
theorem F77 : Fun Tryd.prog 77 53 c77 [.tmp 2, .tmp 3] 1 := ⟨⟨Tryd.f77, _, Tryd.func77, rfl, by kernel_rfl, Tryd.ntmps77, by kernel_rfl, by kernel_rfl⟩, by decide⟩

/-- unicode/utf8.RuneStart -/
abbrev r79_0 : List CO := [
  ⟨some 2, .mv (.c (.p (.s (.bool false)))), none⟩]
abbrev r79_1 : List CO := [
  ⟨some 3, .mv (.t 0), none⟩,
  ⟨some 4, .bin .and (.t 3) (.c (.p (.s (.int .u8 192)))), none⟩,
  ⟨some 5, .bin .neq (.t 4) (.c (.p (.s (.int .u8 128)))), none⟩,
  ⟨some 2, .mv (.t 5), none⟩]
abbrev c79 : CC := .seq (.reg r79_0) (.seq (.reg r79_1) (.rest [2] (.ret)))
theorem F79 : Fun Tryd.prog 79 6 c79 [.tmp 2] 1 := ⟨⟨Tryd.f79, _, Tryd.func79, rfl, by kernel_rfl, Tryd.ntmps79, by kernel_rfl, by kernel_rfl⟩, by decide⟩

/-- unicode/utf8.DecodeRune -/
abbrev r80_0 : List CO := [
  ⟨some 2, .mv (.c (.p (.s (.int .i32 0)))), none⟩,
  ⟨some 3, .mv (.c (.p (.s (.int .i64 0)))), none⟩]
abbrev r80_1 : List CO := [
  ⟨some 6, .mv (.t 0), none⟩,
  ⟨some 7, .len (.t 6), none⟩,
  ⟨some 8, .mv (.c (.p (.s (.int .i64 0)))), none⟩]
abbrev r80_2 : List CO := [
  ⟨some 9, .bin .lss (.t 8) (.t 7), none⟩]
abbrev r80_3 : List CO := [
  ⟨some 10, .iaddrS 1 (.t 6) (.t 8), none⟩,
  ⟨some 11, .load false 1 (.t 10), none⟩,
  ⟨some 5, .mv (.t 11), none⟩]
abbrev r80_4 : List CO := [
  ⟨some 12, .mv (.t 5), none⟩,
  ⟨some 13, .bin .lss (.t 12) (.c (.p (.s (.int .u8 128)))), none⟩]
abbrev r80_5 : List CO := [
  ⟨some 14, .mv (.t 5), none⟩,
  ⟨some 15, .toInt .i32 (.t 14), none⟩,
  ⟨some 2, .mv (.t 15), none⟩,
  ⟨some 3, .mv (.c (.p (.s (.int .i64 1)))), none⟩]
abbrev k80_1 : CC := .seq (.reg r80_3) (.seq (.seq (.reg r80_4) (.cond (.t 13) (.seq (.reg r80_5) (.rest [2, 3] (.ret))) (.skip))) (.rest [0] (.exit 0)))
abbrev r80_6 : List CO := [
  ⟨some 16, .bin .add (.t 8) (.c (.p (.s (.int .i64 1)))), none⟩,
  ⟨some 8, .mv (.t 16), none⟩]
abbrev l80_8 : CC := .seq (.reg r80_2) (.seq (.cond (.t 9) (.skip) (.exit 0)) (.seq (.block 1 k80_1) (.rest [0, 6, 7, 8] (.reg r80_6))))
abbrev k80_0 : CC := .loop l80_8
abbrev r80_7 : List CO := [
  ⟨some 18, .mv (.t 0), none⟩,
  ⟨some 19, .call (.c (.fn (.func 81) [] [])) [.t 18], none⟩,
  ⟨some 17, .mv (.t 19), none⟩,
  ⟨some 20, .extract 0 (.t 17), none⟩,
  ⟨some 21, .extract 1 (.t 17), none⟩,
  ⟨some 2, .mv (.t 20), none⟩,
  ⟨some 3, .mv (.t 21), none⟩]
abbrev c80 : CC := .seq (.reg r80_0) (.seq (.seq (.reg r80_1) (.block 0 k80_0)) (.rest [0] (.seq (.reg r80_7) (.rest [2, 3] (.ret)))))
theorem F80 : Fun Tryd.prog 80 22 c80 [.tmp 2, .tmp 3] 1 := ⟨⟨Tryd.f80, _, Tryd.func80, rfl, by kernel_rfl, Tryd.ntmps80, by kernel_rfl, by kernel_rfl⟩, by decide⟩

/-- unicode/utf8.decodeRuneSlow -/
abbrev r81_0 : List CO := [
  ⟨some 2, .mv (.c (.p (.s (.int .i32 0)))), none⟩,
  ⟨some 3, .mv (.c (.p (.s (.int .i64 0)))), none⟩]
abbrev r81_1 : List CO := [
  ⟨some 13, .mv (.t 0), none⟩,
  ⟨some 14, .len (.t 13), none⟩,
  ⟨some 4, .mv (.t 14), none⟩]
abbrev r81_2 : List CO := [
  ⟨some 15, .mv (.t 4), none⟩,
  ⟨some 16, .bin .lss (.t 15) (.c (.p (.s (.int .i64 1)))), none⟩]
abbrev r81_3 : List CO := [
  ⟨some 2, .mv (.c (.p (.s (.int .i32 65533)))), none⟩,
  ⟨some 3, .mv (.c (.p (.s (.int .i64 0)))), none⟩]
abbrev r81_4 : List CO := [
  ⟨some 17, .mv (.t 0), none⟩,
  ⟨some 18, .iaddrS 1 (.t 17) (.c (.p (.s (.int .i64 0)))), none⟩,
  ⟨some 19, .load false 1 (.t 18), none⟩,
  ⟨some 5, .mv (.t 19), none⟩]
abbrev r81_5 : List CO := [
  ⟨some 20, .mv (.t 5), none⟩,
  ⟨some 21, .iaddrA 1 256 (.g 1) (.t 20), none⟩,
  ⟨some 22, .load false 1 (.t 21), none⟩,
  ⟨some 6, .mv (.t 22), none⟩]
abbrev r81_6 : List CO := [
  ⟨some 23, .mv (.t 6), none⟩,
  ⟨some 24, .bin .geq (.t 23) (.c (.p (.s (.int .u8 240)))), none⟩]
abbrev r81_7 : List CO := [
  ⟨some 25, .mv (.t 6), none⟩,
  ⟨some 26, .toInt .i32 (.t 25), none⟩,
  ⟨some 27, .bin .shl (.t 26) (.c (.p (.s (.int .u64 31)))), none⟩,
  ⟨some 28, .bin .shr (.t 27) (.c (.p (.s (.int .u64 31)))), none⟩,
  ⟨some 7, .mv (.t 28), none⟩]
abbrev r81_8 : List CO := [
  ⟨some 29, .mv (.t 0), none⟩,
  ⟨some 30, .iaddrS 1 (.t 29) (.c (.p (.s (.int .i64 0)))), none⟩,
  ⟨some 31, .load false 1 (.t 30), none⟩,
  ⟨some 32, .toInt .i32 (.t 31), none⟩,
  ⟨some 33, .mv (.t 7), none⟩,
  ⟨some 34, .bin .andNot (.t 32) (.t 33), none⟩,
  ⟨some 35, .mv (.t 7), none⟩,
  ⟨some 36, .bin .and (.c (.p (.s (.int .i32 65533)))) (.t 35), none⟩,
  ⟨some 37, .bin .or (.t 34) (.t 36), none⟩,
  ⟨some 2, .mv (.t 37), none⟩,
  ⟨some 3, .mv (.c (.p (.s (.int .i64 1)))), none⟩]
abbrev r81_9 : List CO := [
  ⟨some 38, .mv (.t 6), none⟩,
  ⟨some 39, .bin .and (.t 38) (.c (.p (.s (.int .u8 7)))), none⟩,
  ⟨some 40, .toInt .i64 (.t 39), none⟩,
  ⟨some 8, .mv (.t 40), none⟩]
abbrev r81_10 : List CO := [
  ⟨some 41, .mv (.t 6), none⟩,
  ⟨some 42, .bin .shr (.t 41) (.c (.p (.s (.int .u64 4)))), none⟩,
  ⟨some 43, .iaddrA 2 16 (.g 2) (.t 42), none⟩,
  ⟨some 44, .load true 2 (.t 43), none⟩,
  ⟨some 9, .alloc ([.s (.int .u8 0), .s (.int .u8 0)]), none⟩,
  ⟨none, .store 2 (.t 9) (.t 44), none⟩]
abbrev r81_11 : List CO := [
  ⟨some 45, .mv (.t 4), none⟩,
  ⟨some 46, .mv (.t 8), none⟩,
  ⟨some 47, .bin .lss (.t 45) (.t 46), none⟩]
abbrev r81_12 : List CO := [
  ⟨some 2, .mv (.c (.p (.s (.int .i32 65533)))), none⟩,
  ⟨some 3, .mv (.c (.p (.s (.int .i64 1)))), none⟩]
abbrev r81_13 : List CO := [
  ⟨some 48, .mv (.t 0), none⟩,
  ⟨some 49, .iaddrS 1 (.t 48) (.c (.p (.s (.int .i64 1)))), none⟩,
  ⟨some 50, .load false 1 (.t 49), none⟩,
  ⟨some 10, .mv (.t 50), none⟩]
abbrev r81_14 : List CO := [
  ⟨some 51, .mv (.t 10), none⟩,
  ⟨some 52, .faddr 0 (.t 9), none⟩,
  ⟨some 53, .load false 1 (.t 52), none⟩,
  ⟨some 54, .bin .lss (.t 51) (.t 53), none⟩,
  ⟨some 55, .mv (.t 54), none⟩,
  ⟨some 56, .faddr 1 (.t 9), some (55, false)⟩,
  ⟨some 57, .load false 1 (.t 56), some (55, false)⟩,
  ⟨some 58, .mv (.t 10), some (55, false)⟩,
  ⟨some 59, .bin .lss (.t 57) (.t 58), some (55, false)⟩,
  ⟨some 60, .pick (.t 55) (.c (.p (.s (.bool true)))) (.t 59), none⟩]
abbrev r81_15 : List CO := [
  ⟨some 2, .mv (.c (.p (.s (.int .i32 65533)))), none⟩,
  ⟨some 3, .mv (.c (.p (.s (.int .i64 1)))), none⟩]
abbrev r81_16 : List CO := [
  ⟨some 61, .mv (.t 8), none⟩,
  ⟨some 62, .bin .leq (.t 61) (.c (.p (.s (.int .i64 2)))), none⟩]
abbrev r81_17 : List CO := [
  ⟨some 63, .mv (.t 5), none⟩,
  ⟨some 64, .bin .and (.t 63) (.c (.p (.s (.int .u8 31)))), none⟩,
  ⟨some 65, .toInt .i32 (.t 64), none⟩,
  ⟨some 66, .bin .shl (.t 65) (.c (.p (.s (.int .u64 6)))), none⟩,
  ⟨some 67, .mv (.t 10), none⟩,
  ⟨some 68, .bin .and (.t 67) (.c (.p (.s (.int .u8 63)))), none⟩,
  ⟨some 69, .toInt .i32 (.t 68), none⟩,
  ⟨some 70, .bin .or (.t 66) (.t 69), none⟩,
  ⟨some 2, .mv (.t 70), none⟩,
  ⟨some 3, .mv (.c (.p (.s (.int .i64 2)))), none⟩]
abbrev r81_18 : List CO := [
  ⟨some 71, .mv (.t 0), none⟩,
  ⟨some 72, .iaddrS 1 (.t 71) (.c (.p (.s (.int .i64 2)))), none⟩,
  ⟨some 73, .load false 1 (.t 72), none⟩,
  ⟨some 11, .mv (.t 73), none⟩]
abbrev r81_19 : List CO := [
  ⟨some 74, .mv (.t 11), none⟩,
  ⟨some 75, .bin .lss (.t 74) (.c (.p (.s (.int .u8 128)))), none⟩,
  ⟨some 76, .mv (.t 75), none⟩,
  ⟨some 77, .mv (.t 11), some (76, false)⟩,
  ⟨some 78, .bin .lss (.c (.p (.s (.int .u8 191)))) (.t 77), some (76, false)⟩,
  ⟨some 79, .pick (.t 76) (.c (.p (.s (.bool true)))) (.t 78), none⟩]
abbrev r81_20 : List CO := [
  ⟨some 2, .mv (.c (.p (.s (.int .i32 65533)))), none⟩,
  ⟨some 3, .mv (.c (.p (.s (.int .i64 1)))), none⟩]
abbrev r81_21 : List CO := [
  ⟨some 80, .mv (.t 8), none⟩,
  ⟨some 81, .bin .leq (.t 80) (.c (.p (.s (.int .i64 3)))), none⟩]
abbrev r81_22 : List CO := [
  ⟨some 82, .mv (.t 5), none⟩,
  ⟨some 83, .bin .and (.t 82) (.c (.p (.s (.int .u8 15)))), none⟩,
  ⟨some 84, .toInt .i32 (.t 83), none⟩,
  ⟨some 85, .bin .shl (.t 84) (.c (.p (.s (.int .u64 12)))), none⟩,
  ⟨some 86, .mv (.t 10), none⟩,
  ⟨some 87, .bin .and (.t 86) (.c (.p (.s (.int .u8 63)))), none⟩,
  ⟨some 88, .toInt .i32 (.t 87), none⟩,
  ⟨some 89, .bin .shl (.t 88) (.c (.p (.s (.int .u64 6)))), none⟩,
  ⟨some 90, .bin .or (.t 85) (.t 89), none⟩,
  ⟨some 91, .mv (.t 11), none⟩,
  ⟨some 92, .bin .and (.t 91) (.c (.p (.s (.int .u8 63)))), none⟩,
  ⟨some 93, .toInt .i32 (.t 92), none⟩,
  ⟨some 94, .bin .or (.t 90) (.t 93), none⟩,
  ⟨some 2, .mv (.t 94), none⟩,
  ⟨some 3, .mv (.c (.p (.s (.int .i64 3)))), none⟩]
abbrev r81_23 : List CO := [
  ⟨some 95, .mv (.t 0), none⟩,
  ⟨some 96, .iaddrS 1 (.t 95) (.c (.p (.s (.int .i64 3)))), none⟩,
  ⟨some 97, .load false 1 (.t 96), none⟩,
  ⟨some 12, .mv (.t 97), none⟩]
abbrev r81_24 : List CO := [
  ⟨some 98, .mv (.t 12), none⟩,
  ⟨some 99, .bin .lss (.t 98) (.c (.p (.s (.int .u8 128)))), none⟩,
  ⟨some 100, .mv (.t 99), none⟩,
  ⟨some 101, .mv (.t 12), some (100, false)⟩,
  ⟨some 102, .bin .lss (.c (.p (.s (.int .u8 191)))) (.t 101), some (100, false)⟩,
  ⟨some 103, .pick (.t 100) (.c (.p (.s (.bool true)))) (.t 102), none⟩]
abbrev r81_25 : List CO := [
  ⟨some 2, .mv (.c (.p (.s (.int .i32 65533)))), none⟩,
  ⟨some 3, .mv (.c (.p (.s (.int .i64 1)))), none⟩]
abbrev r81_26 : List CO := [
  ⟨some 104, .mv (.t 5), none⟩,
  ⟨some 105, .bin .and (.t 104) (.c (.p (.s (.int .u8 7)))), none⟩,
  ⟨some 106, .toInt .i32 (.t 105), none⟩,
  ⟨some 107, .bin .shl (.t 106) (.c (.p (.s (.int .u64 18)))), none⟩,
  ⟨some 108, .mv (.t 10), none⟩,
  ⟨some 109, .bin .and (.t 108) (.c (.p (.s (.int .u8 63)))), none⟩,
  ⟨some 110, .toInt .i32 (.t 109), none⟩,
  ⟨some 111, .bin .shl (.t 110) (.c (.p (.s (.int .u64 12)))), none⟩,
  ⟨some 112, .bin .or (.t 107) (.t 111), none⟩,
  ⟨some 113, .mv (.t 11), none⟩,
  ⟨some 114, .bin .and (.t 113) (.c (.p (.s (.int .u8 63)))), none⟩,
  ⟨some 115, .toInt .i32 (.t 114), none⟩,
  ⟨some 116, .bin .shl (.t 115) (.c (.p (.s (.int .u64 6)))), none⟩,
  ⟨some 117, .bin .or (.t 112) (.t 116), none⟩,
  ⟨some 118, .mv (.t 12), none⟩,
  ⟨some 119, .bin .and (.t 118) (.c (.p (.s (.int .u8 63)))), none⟩,
  ⟨some 120, .toInt .i32 (.t 119), none⟩,
  ⟨some 121, .bin .or (.t 117) (.t 120), none⟩,
  ⟨some 2, .mv (.t 121), none⟩,
  ⟨some 3, .mv (.c (.p (.s (.int .i64 4)))), none⟩]
abbrev c81 : CC := .seq (.reg r81_0) (.seq (.reg r81_1) (.seq (.seq (.reg r81_2) (.cond (.t 16) (.seq (.reg r81_3) (.ret)) (.skip))) (.rest [0, 4] (.seq (.reg r81_4) (.rest [0, 4, 5] (.seq (.reg r81_5) (.rest [0, 4, 5, 6] (.seq (.seq (.reg r81_6) (.cond (.t 24) (.seq (.reg r81_7) (.rest [0, 7] (.seq (.reg r81_8) (.rest [2, 3] (.ret))))) (.skip))) (.rest [0, 4, 5, 6] (.seq (.reg r81_9) (.rest [0, 4, 5, 6, 8] (.seq (.reg r81_10) (.rest [0, 4, 5, 8, 9] (.seq (.seq (.reg r81_11) (.cond (.t 47) (.seq (.reg r81_12) (.ret)) (.skip))) (.rest [0, 5, 8, 9] (.seq (.reg r81_13) (.rest [0, 5, 8, 9, 10] (.seq (.seq (.reg r81_14) (.rest [0, 5, 8, 10, 60] (.cond (.t 60) (.seq (.reg r81_15) (.ret)) (.skip)))) (.rest [0, 5, 8, 10] (.seq (.seq (.reg r81_16) (.cond (.t 62) (.seq (.reg r81_17) (.rest [2, 3] (.ret))) (.skip))) (.rest [0, 5, 8, 10] (.seq (.reg r81_18) (.rest [0, 5, 8, 10, 11] (.seq (.seq (.reg r81_19) (.rest [0, 5, 8, 10, 11, 79] (.cond (.t 79) (.seq (.reg r81_20) (.ret)) (.skip)))) (.rest [0, 5, 8, 10, 11] (.seq (.seq (.reg r81_21) (.cond (.t 81) (.seq (.reg r81_22) (.rest [2, 3] (.ret))) (.skip))) (.rest [0, 5, 10, 11] (.seq (.reg r81_23) (.rest [5, 10, 11, 12] (.seq (.seq (.reg r81_24) (.rest [5, 10, 11, 12, 103] (.cond (.t 103) (.seq (.reg r81_25) (.ret)) (.skip)))) (.rest [5, 10, 11, 12] (.seq (.reg r81_26) (.rest [2, 3] (.ret))))))))))))))))))))))))))))))))))
theorem F81 : Fun Tryd.prog 81 122 c81 [.tmp 2, .tmp 3] 1 := ⟨⟨Tryd.f81, _, Tryd.func81, rfl, by kernel_rfl, Tryd.ntmps81, by kernel_rfl, by kernel_rfl⟩, by decide⟩

end Go.Proofs.YthbblbjfbcmdlaaDoor
