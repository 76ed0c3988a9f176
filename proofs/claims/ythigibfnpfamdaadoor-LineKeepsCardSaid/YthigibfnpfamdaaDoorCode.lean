/- Code of functions of the given program in compact form, printed by a program of this repository (wip/tools/gen.py) out of what Lean prints of the loaded functions; each is checked by the kernel. -/
import Derived.Test.YthigibfnpfamdaaDoorZ3
import Derived.Test.YthigibfnpfamdaaDoorProg
import Derived.KernelRfl
namespace Go.Proofs.YthigibfnpfamdaaDoor
open Go Go.Shade

/-- linnet/linnetlaw12.LineParts -/
abbrev r3_0 : List CO := [
  ⟨some 1, .box (.t 0), none⟩,
  ⟨some 2, .mv (.c (.p (.s (.bool false)))), none⟩]
abbrev r3_1 : List CO := [
  ⟨some 18, .load true 2 (.t 1), none⟩,
  ⟨some 19, .call (.c (.fn (.func 10) [] [])) [.t 18], none⟩,
  ⟨none, .store 2 (.t 1) (.t 19), none⟩]
abbrev r3_2 : List CO := [
  ⟨some 20, .load true 2 (.t 1), none⟩,
  ⟨some 21, .call (.c (.fn (.func 11) [] [])) [.t 20], none⟩,
  ⟨some 22, .bin .neq (.t 21) (.c (.p (.s (.int .i64 0)))), none⟩]
abbrev r3_3 : List CO := [
  ⟨some 23, .call (.c (.fn (.func 12) [] [])) [], none⟩,
  ⟨some 2, .mv (.t 23), none⟩]
abbrev r3_4 : List CO := [
  ⟨some 24, .faddr 0 (.t 1), none⟩,
  ⟨some 25, .load false 1 (.t 24), none⟩,
  ⟨some 26, .faddr 1 (.t 1), none⟩,
  ⟨some 27, .load false 1 (.t 26), none⟩,
  ⟨some 28, .slice 1 (.t 25) none (some (.t 27)), none⟩,
  ⟨some 29, .toStr (.t 28), none⟩,
  ⟨some 30, .faddr 0 (.t 1), none⟩,
  ⟨some 31, .load false 1 (.t 30), none⟩,
  ⟨some 32, .faddr 1 (.t 1), none⟩,
  ⟨some 33, .load false 1 (.t 32), none⟩,
  ⟨some 34, .slice 1 (.t 31) (some (.t 33)) none, none⟩,
  ⟨some 35, .toStr (.t 34), none⟩,
  ⟨some 3, .mv (.t 29), none⟩,
  ⟨some 4, .mv (.t 35), none⟩]
abbrev b3_4 : List (List Nat) := [[], [0], [], [2], [1, 3], [4], [], [6], [], [8], [7, 9], [10], [5, 0, 1, 2, 3, 4, 5], [11, 12, 0, 1, 2, 3, 4, 5, 6, 7, 8, 9, 10, 11, 12]]
abbrev r3_5 : List CO := [
  ⟨some 37, .load true 2 (.t 1), none⟩,
  ⟨some 38, .call (.c (.fn (.func 13) [] [])) [.t 37, .c (.p (.s (.int .i64 29)))], none⟩,
  ⟨some 36, .mv (.t 38), none⟩,
  ⟨some 39, .extract 0 (.t 36), none⟩,
  ⟨some 40, .extract 1 (.t 36), none⟩,
  ⟨some 5, .alloc ([.s (.slice none 0 0), .s (.int .i64 0)]), none⟩,
  ⟨none, .store 2 (.t 5) (.t 39), none⟩,
  ⟨some 6, .mv (.t 40), none⟩]
abbrev r3_6 : List CO := [
  ⟨some 42, .load true 2 (.t 1), none⟩,
  ⟨some 43, .call (.c (.fn (.func 13) [] [])) [.t 42, .c (.p (.s (.int .i64 30)))], none⟩,
  ⟨some 41, .mv (.t 43), none⟩,
  ⟨some 44, .extract 0 (.t 41), none⟩,
  ⟨some 45, .extract 1 (.t 41), none⟩,
  ⟨some 7, .alloc ([.s (.slice none 0 0), .s (.int .i64 0)]), none⟩,
  ⟨none, .store 2 (.t 7) (.t 44), none⟩,
  ⟨some 8, .mv (.t 45), none⟩]
abbrev r3_7 : List CO := [
  ⟨some 47, .load true 2 (.t 1), none⟩,
  ⟨some 48, .call (.c (.fn (.func 13) [] [])) [.t 47, .c (.p (.s (.int .i64 12)))], none⟩,
  ⟨some 46, .mv (.t 48), none⟩,
  ⟨some 49, .extract 0 (.t 46), none⟩,
  ⟨some 50, .extract 1 (.t 46), none⟩,
  ⟨some 9, .alloc ([.s (.slice none 0 0), .s (.int .i64 0)]), none⟩,
  ⟨none, .store 2 (.t 9) (.t 49), none⟩,
  ⟨some 10, .mv (.t 50), none⟩]
abbrev r3_8 : List CO := [
  ⟨some 52, .load true 2 (.t 1), none⟩,
  ⟨some 53, .call (.c (.fn (.func 13) [] [])) [.t 52, .c (.p (.s (.int .i64 28)))], none⟩,
  ⟨some 51, .mv (.t 53), none⟩,
  ⟨some 54, .extract 0 (.t 51), none⟩,
  ⟨some 55, .extract 1 (.t 51), none⟩,
  ⟨some 11, .alloc ([.s (.slice none 0 0), .s (.int .i64 0)]), none⟩,
  ⟨none, .store 2 (.t 11) (.t 54), none⟩,
  ⟨some 12, .mv (.t 55), none⟩]
abbrev r3_9 : List CO := [
  ⟨some 57, .load true 2 (.t 1), none⟩,
  ⟨some 58, .call (.c (.fn (.func 13) [] [])) [.t 57, .c (.p (.s (.int .i64 11)))], none⟩,
  ⟨some 56, .mv (.t 58), none⟩,
  ⟨some 59, .extract 0 (.t 56), none⟩,
  ⟨some 60, .extract 1 (.t 56), none⟩,
  ⟨some 13, .alloc ([.s (.slice none 0 0), .s (.int .i64 0)]), none⟩,
  ⟨none, .store 2 (.t 13) (.t 59), none⟩,
  ⟨some 14, .mv (.t 60), none⟩]
abbrev r3_10 : List CO := [
  ⟨some 61, .faddr 0 (.t 5), none⟩,
  ⟨some 62, .load false 1 (.t 61), none⟩,
  ⟨some 63, .toStr (.t 62), none⟩,
  ⟨some 64, .mv (.t 4), none⟩,
  ⟨some 65, .bin .eql (.t 63) (.t 64), none⟩,
  ⟨some 66, .mv (.t 65), none⟩,
  ⟨some 67, .faddr 1 (.t 5), some (66, true)⟩,
  ⟨some 68, .load false 1 (.t 67), some (66, true)⟩,
  ⟨some 69, .bin .eql (.t 68) (.c (.p (.s (.int .i64 0)))), some (66, true)⟩,
  ⟨some 70, .pick (.t 66) (.t 69) (.c (.p (.s (.bool false)))), none⟩,
  ⟨some 71, .mv (.t 70), none⟩,
  ⟨some 72, .faddr 0 (.t 7), some (71, true)⟩,
  ⟨some 73, .load false 1 (.t 72), some (71, true)⟩,
  ⟨some 74, .toStr (.t 73), some (71, true)⟩,
  ⟨some 75, .mv (.t 3), some (71, true)⟩,
  ⟨some 76, .bin .eql (.t 74) (.t 75), some (71, true)⟩,
  ⟨some 77, .pick (.t 71) (.t 76) (.c (.p (.s (.bool false)))), none⟩,
  ⟨some 78, .mv (.t 77), none⟩,
  ⟨some 79, .faddr 1 (.t 7), some (78, true)⟩,
  ⟨some 80, .load false 1 (.t 79), some (78, true)⟩,
  ⟨some 81, .faddr 1 (.t 1), some (78, true)⟩,
  ⟨some 82, .load false 1 (.t 81), some (78, true)⟩,
  ⟨some 83, .bin .eql (.t 80) (.t 82), some (78, true)⟩,
  ⟨some 84, .pick (.t 78) (.t 83) (.c (.p (.s (.bool false)))), none⟩,
  ⟨some 85, .mv (.t 84), none⟩,
  ⟨some 86, .faddr 0 (.t 13), some (85, true)⟩,
  ⟨some 87, .load false 1 (.t 86), some (85, true)⟩,
  ⟨some 88, .len (.t 87), some (85, true)⟩,
  ⟨some 89, .bin .eql (.t 88) (.c (.p (.s (.int .i64 0)))), some (85, true)⟩,
  ⟨some 90, .pick (.t 85) (.t 89) (.c (.p (.s (.bool false)))), none⟩,
  ⟨some 91, .mv (.t 90), none⟩,
  ⟨some 92, .faddr 1 (.t 13), some (91, true)⟩,
  ⟨some 93, .load false 1 (.t 92), some (91, true)⟩,
  ⟨some 94, .bin .eql (.t 93) (.c (.p (.s (.int .i64 0)))), some (91, true)⟩,
  ⟨some 95, .pick (.t 91) (.t 94) (.c (.p (.s (.bool false)))), none⟩,
  ⟨some 15, .mv (.t 95), none⟩]
abbrev r3_11 : List CO := [
  ⟨some 96, .load true 2 (.t 1), none⟩,
  ⟨some 97, .call (.c (.fn (.func 14) [] [])) [.t 96], none⟩,
  ⟨some 98, .load true 2 (.t 1), none⟩,
  ⟨some 99, .call (.c (.fn (.func 15) [] [])) [.t 98], none⟩,
  ⟨some 16, .mv (.t 97), none⟩,
  ⟨some 17, .mv (.t 99), none⟩]
abbrev b3_11 : List (List Nat) := [[], [0], [], [2, 1], [1, 3, 0, 1], [3, 4, 0, 1, 2, 3, 4]]
abbrev r3_12 : List CO := [
  ⟨some 100, .mv (.t 16), none⟩,
  ⟨some 101, .bin .lss (.t 100) (.c (.p (.s (.int .i64 0)))), none⟩,
  ⟨some 102, .mv (.t 101), none⟩,
  ⟨some 103, .mv (.t 16), some (102, false)⟩,
  ⟨some 104, .faddr 1 (.t 1), some (102, false)⟩,
  ⟨some 105, .load false 1 (.t 104), some (102, false)⟩,
  ⟨some 106, .bin .gtr (.t 103) (.t 105), some (102, false)⟩,
  ⟨some 107, .pick (.t 102) (.c (.p (.s (.bool true)))) (.t 106), none⟩,
  ⟨some 108, .mv (.t 107), none⟩,
  ⟨some 109, .mv (.t 17), some (108, false)⟩,
  ⟨some 110, .faddr 1 (.t 1), some (108, false)⟩,
  ⟨some 111, .load false 1 (.t 110), some (108, false)⟩,
  ⟨some 112, .bin .lss (.t 109) (.t 111), some (108, false)⟩,
  ⟨some 113, .pick (.t 108) (.c (.p (.s (.bool true)))) (.t 112), none⟩,
  ⟨some 114, .mv (.t 113), none⟩,
  ⟨some 115, .mv (.t 17), some (114, false)⟩,
  ⟨some 116, .faddr 0 (.t 1), some (114, false)⟩,
  ⟨some 117, .load false 1 (.t 116), some (114, false)⟩,
  ⟨some 118, .len (.t 117), some (114, false)⟩,
  ⟨some 119, .bin .gtr (.t 115) (.t 118), some (114, false)⟩,
  ⟨some 120, .pick (.t 114) (.c (.p (.s (.bool true)))) (.t 119), none⟩]
abbrev r3_13 : List CO := [
  ⟨some 2, .mv (.c (.p (.s (.bool false)))), none⟩]
abbrev r3_14 : List CO := [
  ⟨some 121, .mv (.t 15), none⟩,
  ⟨some 122, .mv (.t 121), none⟩,
  ⟨some 123, .faddr 0 (.t 9), some (122, true)⟩,
  ⟨some 124, .load false 1 (.t 123), some (122, true)⟩,
  ⟨some 125, .toStr (.t 124), some (122, true)⟩,
  ⟨some 126, .mv (.t 3), some (122, true)⟩,
  ⟨some 127, .mv (.t 16), some (122, true)⟩,
  ⟨some 128, .ext (.sslice false true) [.t 126, .t 127], some (122, true)⟩,
  ⟨some 129, .mv (.t 4), some (122, true)⟩,
  ⟨some 130, .bin .add (.t 128) (.t 129), some (122, true)⟩,
  ⟨some 131, .bin .eql (.t 125) (.t 130), some (122, true)⟩,
  ⟨some 132, .pick (.t 122) (.t 131) (.c (.p (.s (.bool false)))), none⟩,
  ⟨some 133, .mv (.t 132), none⟩,
  ⟨some 134, .faddr 1 (.t 9), some (133, true)⟩,
  ⟨some 135, .load false 1 (.t 134), some (133, true)⟩,
  ⟨some 136, .mv (.t 16), some (133, true)⟩,
  ⟨some 137, .bin .eql (.t 135) (.t 136), some (133, true)⟩,
  ⟨some 138, .pick (.t 133) (.t 137) (.c (.p (.s (.bool false)))), none⟩,
  ⟨some 139, .mv (.t 138), none⟩,
  ⟨some 140, .faddr 0 (.t 11), some (139, true)⟩,
  ⟨some 141, .load false 1 (.t 140), some (139, true)⟩,
  ⟨some 142, .toStr (.t 141), some (139, true)⟩,
  ⟨some 143, .mv (.t 3), some (139, true)⟩,
  ⟨some 144, .faddr 0 (.t 1), some (139, true)⟩,
  ⟨some 145, .load false 1 (.t 144), some (139, true)⟩,
  ⟨some 146, .mv (.t 17), some (139, true)⟩,
  ⟨some 147, .slice 1 (.t 145) (some (.t 146)) none, some (139, true)⟩,
  ⟨some 148, .toStr (.t 147), some (139, true)⟩,
  ⟨some 149, .bin .add (.t 143) (.t 148), some (139, true)⟩,
  ⟨some 150, .bin .eql (.t 142) (.t 149), some (139, true)⟩,
  ⟨some 151, .pick (.t 139) (.t 150) (.c (.p (.s (.bool false)))), none⟩,
  ⟨some 152, .mv (.t 151), none⟩,
  ⟨some 153, .faddr 1 (.t 11), some (152, true)⟩,
  ⟨some 154, .load false 1 (.t 153), some (152, true)⟩,
  ⟨some 155, .faddr 1 (.t 1), some (152, true)⟩,
  ⟨some 156, .load false 1 (.t 155), some (152, true)⟩,
  ⟨some 157, .bin .eql (.t 154) (.t 156), some (152, true)⟩,
  ⟨some 158, .pick (.t 152) (.t 157) (.c (.p (.s (.bool false)))), none⟩,
  ⟨some 159, .mv (.t 158), none⟩,
  ⟨some 160, .call (.c (.fn (.func 12) [] [])) [], some (159, true)⟩,
  ⟨some 161, .pick (.t 159) (.t 160) (.c (.p (.s (.bool false)))), none⟩,
  ⟨some 2, .mv (.t 161), none⟩]
abbrev b3_14 : List (List Nat) := [[], [0], [1], [2, 1], [3, 1], [1], [1], [5, 6, 1], [1], [7, 8, 1], [4, 9, 1], [1, 10], [11, 1], [12], [13, 12], [12], [14, 15, 12], [12, 16], [17, 12], [18], [19, 18], [20, 18], [18], [18], [23, 18], [18], [24, 25, 18], [26, 18], [22, 27, 18], [21, 28, 18], [18, 29], [30, 18], [31], [32, 31], [31], [34, 31], [33, 35, 31], [31, 36], [37, 31], [38, 38], [38, 39], [40, 39, 0, 1, 2, 3, 4, 5, 6, 7, 8, 9, 10, 11, 12, 13, 14, 15, 16, 17, 18, 19, 20, 21, 22, 23, 24, 25, 26, 27, 28, 29, 30, 31, 32, 33, 34, 35, 36, 37, 38, 39, 40]]
abbrev c3 : CC := .seq (.reg r3_0) (.seq (.reg r3_1) (.seq (.seq (.reg r3_2) (.cond (.t 22) (.seq (.reg r3_3) (.ret)) (.skip))) (.rest [1] (.seq (.regd r3_4 b3_4) (.rest [1, 3, 4] (.seq (.reg r3_5) (.rest [1, 3, 4, 5] (.seq (.reg r3_6) (.rest [1, 3, 4, 5, 7] (.seq (.reg r3_7) (.rest [1, 3, 4, 5, 7, 9] (.seq (.reg r3_8) (.rest [1, 3, 4, 5, 7, 9, 11] (.seq (.reg r3_9) (.rest [1, 3, 4, 5, 7, 9, 11, 13] (.seq (.reg r3_10) (.rest [1, 3, 4, 9, 11, 15] (.seq (.regd r3_11 b3_11) (.rest [1, 3, 4, 9, 11, 15, 16, 17] (.seq (.seq (.reg r3_12) (.rest [1, 3, 4, 9, 11, 15, 16, 17, 120] (.cond (.t 120) (.seq (.reg r3_13) (.ret)) (.skip)))) (.rest [1, 3, 4, 9, 11, 15, 16, 17] (.seq (.regd r3_14 b3_14) (.rest [2] (.ret))))))))))))))))))))))))
theorem F3 : Fun Tryd.prog 3 162 c3 [.tmp 2] 1 := ⟨⟨Tryd.f3, _, Tryd.func3, rfl, by kernel_rfl, Tryd.ntmps3, by kernel_rfl, by kernel_rfl⟩, by decide⟩

/-- linnet/linnetlaw12.LineMoves -/
abbrev r4_0 : List CO := [
  ⟨some 2, .box (.t 0), none⟩,
  ⟨some 4, .mv (.c (.p (.s (.bool false)))), none⟩]
abbrev r4_1 : List CO := [
  ⟨some 15, .load true 2 (.t 2), none⟩,
  ⟨some 16, .call (.c (.fn (.func 10) [] [])) [.t 15], none⟩,
  ⟨none, .store 2 (.t 2) (.t 16), none⟩]
abbrev r4_2 : List CO := [
  ⟨some 17, .faddr 0 (.t 2), none⟩,
  ⟨some 18, .load false 1 (.t 17), none⟩,
  ⟨some 19, .len (.t 18), none⟩,
  ⟨some 20, .bin .gtr (.t 19) (.c (.p (.s (.int .i64 200)))), none⟩,
  ⟨some 21, .mv (.t 20), none⟩,
  ⟨some 22, .load true 2 (.t 2), some (21, false)⟩,
  ⟨some 23, .call (.c (.fn (.func 11) [] [])) [.t 22], some (21, false)⟩,
  ⟨some 24, .bin .neq (.t 23) (.c (.p (.s (.int .i64 0)))), some (21, false)⟩,
  ⟨some 25, .pick (.t 21) (.c (.p (.s (.bool true)))) (.t 24), none⟩]
abbrev r4_3 : List CO := [
  ⟨some 26, .call (.c (.fn (.func 12) [] [])) [], none⟩,
  ⟨some 4, .mv (.t 26), none⟩]
abbrev r4_4 : List CO := [
  ⟨some 27, .load true 2 (.t 2), none⟩,
  ⟨some 5, .alloc ([.s (.slice none 0 0), .s (.int .i64 0)]), none⟩,
  ⟨none, .store 2 (.t 5) (.t 27), none⟩]
abbrev r4_5 : List CO := [
  ⟨some 28, .bslice 1 6 ([.s (.int .i64 0)]) [(0, .c (.p (.s (.int .i64 19)))), (1, .c (.p (.s (.int .i64 20)))), (2, .c (.p (.s (.int .i64 21)))), (3, .c (.p (.s (.int .i64 22)))), (4, .c (.p (.s (.int .i64 23)))), (5, .c (.p (.s (.int .i64 24))))], none⟩,
  ⟨some 6, .mv (.t 28), none⟩]
abbrev r4_6 : List CO := [
  ⟨some 7, .mv (.c (.p (.s (.int .i64 0)))), none⟩]
abbrev r4_7 : List CO := [
  ⟨some 29, .mv (.t 7), none⟩,
  ⟨some 30, .mv (.t 1), none⟩,
  ⟨some 31, .len (.t 30), none⟩,
  ⟨some 32, .bin .lss (.t 29) (.t 31), none⟩,
  ⟨some 33, .mv (.t 32), none⟩,
  ⟨some 34, .mv (.t 7), some (33, true)⟩,
  ⟨some 35, .bin .lss (.t 34) (.c (.p (.s (.int .i64 40)))), some (33, true)⟩,
  ⟨some 36, .pick (.t 33) (.t 35) (.c (.p (.s (.bool false)))), none⟩]
abbrev r4_9 : List CO := [
  ⟨some 40, .load true 2 (.t 5), none⟩,
  ⟨some 41, .mv (.t 6), none⟩,
  ⟨some 42, .mv (.t 1), none⟩,
  ⟨some 43, .mv (.t 7), none⟩,
  ⟨some 44, .iaddrS 1 (.t 42) (.t 43), none⟩,
  ⟨some 45, .load false 1 (.t 44), none⟩,
  ⟨some 46, .toInt .i64 (.t 45), none⟩,
  ⟨some 47, .mv (.t 6), none⟩,
  ⟨some 48, .len (.t 47), none⟩,
  ⟨some 49, .bin .rem (.t 46) (.t 48), none⟩,
  ⟨some 50, .iaddrS 1 (.t 41) (.t 49), none⟩,
  ⟨some 51, .load false 1 (.t 50), none⟩,
  ⟨some 52, .call (.c (.fn (.func 13) [] [])) [.t 40, .t 51], none⟩,
  ⟨some 39, .mv (.t 52), none⟩,
  ⟨some 53, .extract 0 (.t 39), none⟩,
  ⟨some 54, .extract 1 (.t 39), none⟩,
  ⟨some 8, .alloc ([.s (.slice none 0 0), .s (.int .i64 0)]), none⟩,
  ⟨none, .store 2 (.t 8) (.t 53), none⟩,
  ⟨some 9, .mv (.t 54), none⟩]
abbrev b4_9 : List (List Nat) := [[], [], [], [], [2, 3], [4], [5], [], [7], [6, 8], [1, 9], [10], [0, 11], [12], [13], [13], [], [16, 14, 12, 0, 1, 2, 3, 4, 5, 6, 7, 8, 9, 10, 11, 12, 13, 14, 16], [15, 17, 0, 1, 2, 3, 4, 5, 6, 7, 8, 9, 10, 11, 12, 13, 14, 15, 16, 17]]
abbrev r4_10 : List CO := [
  ⟨some 55, .mv (.t 9), none⟩,
  ⟨some 56, .un .not (.t 55), none⟩,
  ⟨some 57, .mv (.t 56), none⟩,
  ⟨some 58, .faddr 0 (.t 8), some (57, false)⟩,
  ⟨some 59, .load false 1 (.t 58), some (57, false)⟩,
  ⟨some 60, .faddr 0 (.t 2), some (57, false)⟩,
  ⟨some 61, .load false 1 (.t 60), some (57, false)⟩,
  ⟨some 62, .call (.c (.fn (.func 16) [] [])) [.t 59, .t 61], some (57, false)⟩,
  ⟨some 63, .un .not (.t 62), some (57, false)⟩,
  ⟨some 64, .pick (.t 57) (.c (.p (.s (.bool true)))) (.t 63), none⟩,
  ⟨some 65, .mv (.t 64), none⟩,
  ⟨some 66, .faddr 1 (.t 8), some (65, false)⟩,
  ⟨some 67, .load false 1 (.t 66), some (65, false)⟩,
  ⟨some 68, .bin .lss (.t 67) (.c (.p (.s (.int .i64 0)))), some (65, false)⟩,
  ⟨some 69, .pick (.t 65) (.c (.p (.s (.bool true)))) (.t 68), none⟩,
  ⟨some 70, .mv (.t 69), none⟩,
  ⟨some 71, .faddr 1 (.t 8), some (70, false)⟩,
  ⟨some 72, .load false 1 (.t 71), some (70, false)⟩,
  ⟨some 73, .faddr 0 (.t 2), some (70, false)⟩,
  ⟨some 74, .load false 1 (.t 73), some (70, false)⟩,
  ⟨some 75, .len (.t 74), some (70, false)⟩,
  ⟨some 76, .bin .gtr (.t 72) (.t 75), some (70, false)⟩,
  ⟨some 77, .pick (.t 70) (.c (.p (.s (.bool true)))) (.t 76), none⟩]
abbrev r4_11 : List CO := [
  ⟨some 4, .mv (.c (.p (.s (.bool false)))), none⟩]
abbrev r4_12 : List CO := [
  ⟨some 78, .load true 2 (.t 8), none⟩,
  ⟨none, .store 2 (.t 5) (.t 78), none⟩]
abbrev k4_1 : CC := .seq (.regd r4_9 b4_9) (.rest [1, 2, 5, 6, 7, 8, 9] (.seq (.seq (.reg r4_10) (.rest [1, 2, 5, 6, 7, 8, 77] (.cond (.t 77) (.seq (.reg r4_11) (.ret)) (.skip)))) (.rest [1, 2, 5, 6, 7, 8] (.reg r4_12))))
abbrev r4_8 : List CO := [
  ⟨some 37, .mv (.t 7), none⟩,
  ⟨some 38, .bin .add (.t 37) (.c (.p (.s (.int .i64 1)))), none⟩,
  ⟨some 7, .mv (.t 38), none⟩]
abbrev l4_15 : CC := .seq (.seq (.reg r4_7) (.rest [1, 2, 5, 6, 7, 36] (.cond (.t 36) (.skip) (.exit 0)))) (.rest [1, 2, 5, 6, 7] (.seq (.block 1 k4_1) (.rest [1, 2, 5, 6, 7] (.reg r4_8))))
abbrev k4_0 : CC := .loop l4_15
abbrev r4_13 : List CO := [
  ⟨some 80, .load true 2 (.t 2), none⟩,
  ⟨some 81, .call (.c (.fn (.func 13) [] [])) [.t 80, .c (.p (.s (.int .i64 24)))], none⟩,
  ⟨some 79, .mv (.t 81), none⟩,
  ⟨some 82, .extract 0 (.t 79), none⟩,
  ⟨some 83, .extract 1 (.t 79), none⟩,
  ⟨some 10, .alloc ([.s (.slice none 0 0), .s (.int .i64 0)]), none⟩,
  ⟨none, .store 2 (.t 10) (.t 82), none⟩,
  ⟨some 11, .mv (.t 83), none⟩]
abbrev r4_14 : List CO := [
  ⟨some 12, .mv (.c (.p (.s (.int .i64 0)))), none⟩]
abbrev r4_15 : List CO := [
  ⟨some 84, .mv (.t 12), none⟩,
  ⟨some 85, .faddr 0 (.t 2), none⟩,
  ⟨some 86, .load false 1 (.t 85), none⟩,
  ⟨some 87, .len (.t 86), none⟩,
  ⟨some 88, .bin .lss (.t 84) (.t 87), none⟩]
abbrev r4_17 : List CO := [
  ⟨some 92, .load true 2 (.t 10), none⟩,
  ⟨some 93, .call (.c (.fn (.func 13) [] [])) [.t 92, .c (.p (.s (.int .i64 21)))], none⟩,
  ⟨some 91, .mv (.t 93), none⟩,
  ⟨some 94, .extract 0 (.t 91), none⟩,
  ⟨some 95, .extract 1 (.t 91), none⟩,
  ⟨some 13, .alloc ([.s (.slice none 0 0), .s (.int .i64 0)]), none⟩,
  ⟨none, .store 2 (.t 13) (.t 94), none⟩,
  ⟨some 14, .mv (.t 95), none⟩]
abbrev r4_18 : List CO := [
  ⟨some 96, .faddr 1 (.t 10), none⟩,
  ⟨some 97, .load false 1 (.t 96), none⟩,
  ⟨some 98, .bin .gtr (.t 97) (.c (.p (.s (.int .i64 0)))), none⟩,
  ⟨some 99, .mv (.t 98), none⟩,
  ⟨some 100, .faddr 1 (.t 13), some (99, true)⟩,
  ⟨some 101, .load false 1 (.t 100), some (99, true)⟩,
  ⟨some 102, .faddr 1 (.t 10), some (99, true)⟩,
  ⟨some 103, .load false 1 (.t 102), some (99, true)⟩,
  ⟨some 104, .bin .geq (.t 101) (.t 103), some (99, true)⟩,
  ⟨some 105, .pick (.t 99) (.t 104) (.c (.p (.s (.bool false)))), none⟩]
abbrev r4_19 : List CO := [
  ⟨some 4, .mv (.c (.p (.s (.bool false)))), none⟩]
abbrev r4_20 : List CO := [
  ⟨some 106, .load true 2 (.t 13), none⟩,
  ⟨none, .store 2 (.t 10) (.t 106), none⟩]
abbrev k4_3 : CC := .seq (.reg r4_17) (.rest [2, 10, 12, 13] (.seq (.seq (.reg r4_18) (.rest [2, 10, 12, 13, 105] (.cond (.t 105) (.seq (.reg r4_19) (.ret)) (.skip)))) (.rest [2, 10, 12, 13] (.reg r4_20))))
abbrev r4_16 : List CO := [
  ⟨some 89, .mv (.t 12), none⟩,
  ⟨some 90, .bin .add (.t 89) (.c (.p (.s (.int .i64 1)))), none⟩,
  ⟨some 12, .mv (.t 90), none⟩]
abbrev l4_26 : CC := .seq (.seq (.reg r4_15) (.rest [2, 10, 12, 88] (.cond (.t 88) (.skip) (.exit 2)))) (.rest [2, 10, 12] (.seq (.block 3 k4_3) (.rest [2, 10, 12] (.reg r4_16))))
abbrev k4_2 : CC := .loop l4_26
abbrev r4_21 : List CO := [
  ⟨some 107, .faddr 1 (.t 10), none⟩,
  ⟨some 108, .load false 1 (.t 107), none⟩,
  ⟨some 109, .bin .eql (.t 108) (.c (.p (.s (.int .i64 0)))), none⟩,
  ⟨some 110, .mv (.t 109), none⟩,
  ⟨some 111, .call (.c (.fn (.func 12) [] [])) [], some (110, true)⟩,
  ⟨some 112, .pick (.t 110) (.t 111) (.c (.p (.s (.bool false)))), none⟩,
  ⟨some 4, .mv (.t 112), none⟩]
abbrev c4 : CC := .seq (.reg r4_0) (.seq (.reg r4_1) (.seq (.seq (.reg r4_2) (.rest [1, 2, 25] (.cond (.t 25) (.seq (.reg r4_3) (.ret)) (.skip)))) (.rest [1, 2] (.seq (.reg r4_4) (.seq (.reg r4_5) (.seq (.seq (.reg r4_6) (.block 0 k4_0)) (.rest [2] (.seq (.reg r4_13) (.rest [2, 10] (.seq (.seq (.reg r4_14) (.block 2 k4_2)) (.rest [10] (.seq (.reg r4_21) (.rest [4] (.ret))))))))))))))
theorem F4 : Fun Tryd.prog 4 113 c4 [.tmp 4] 2 := ⟨⟨Tryd.f4, _, Tryd.func4, rfl, by kernel_rfl, Tryd.ntmps4, by kernel_rfl, by kernel_rfl⟩, by decide⟩

/-- linnet/linnetlaw12.LineKeeps -/
abbrev r5_0 : List CO := [
  ⟨some 3, .box (.t 0), none⟩,
  ⟨some 6, .mv (.c (.p (.s (.bool false)))), none⟩]
abbrev r5_1 : List CO := [
  ⟨some 14, .load true 2 (.t 3), none⟩,
  ⟨some 15, .call (.c (.fn (.func 10) [] [])) [.t 14], none⟩,
  ⟨none, .store 2 (.t 3) (.t 15), none⟩]
abbrev r5_2 : List CO := [
  ⟨some 16, .faddr 0 (.t 3), none⟩,
  ⟨some 17, .load false 1 (.t 16), none⟩,
  ⟨some 18, .toStr (.t 17), none⟩,
  ⟨some 7, .mv (.t 18), none⟩]
abbrev r5_3 : List CO := [
  ⟨some 20, .load true 2 (.t 3), none⟩,
  ⟨some 21, .mv (.t 1), none⟩,
  ⟨some 22, .call (.c (.fn (.func 17) [] [])) [.t 20, .c (.p (.s (.int .i64 4096))), .c (.p (.s (.bool false))), .t 21], none⟩,
  ⟨some 19, .mv (.t 22), none⟩,
  ⟨some 23, .extract 0 (.t 19), none⟩,
  ⟨some 24, .extract 1 (.t 19), none⟩,
  ⟨some 8, .alloc ([.s (.slice none 0 0), .s (.int .i64 0)]), none⟩,
  ⟨none, .store 2 (.t 8) (.t 23), none⟩,
  ⟨some 9, .mv (.t 24), none⟩]
abbrev r5_4 : List CO := [
  ⟨some 26, .load true 2 (.t 3), none⟩,
  ⟨some 27, .mv (.t 2), none⟩,
  ⟨some 28, .call (.c (.fn (.func 13) [] [])) [.t 26, .t 27], none⟩,
  ⟨some 25, .mv (.t 28), none⟩,
  ⟨some 29, .extract 0 (.t 25), none⟩,
  ⟨some 30, .extract 1 (.t 25), none⟩,
  ⟨some 10, .alloc ([.s (.slice none 0 0), .s (.int .i64 0)]), none⟩,
  ⟨none, .store 2 (.t 10) (.t 29), none⟩,
  ⟨some 11, .mv (.t 30), none⟩]
abbrev r5_5 : List CO := [
  ⟨some 31, .load true 2 (.t 3), none⟩,
  ⟨some 32, .call (.c (.fn (.func 11) [] [])) [.t 31], none⟩,
  ⟨some 33, .bin .neq (.t 32) (.c (.p (.s (.int .i64 0)))), none⟩]
abbrev r5_6 : List CO := [
  ⟨some 34, .call (.c (.fn (.func 12) [] [])) [], none⟩,
  ⟨some 6, .mv (.t 34), none⟩]
abbrev r5_7 : List CO := [
  ⟨some 35, .faddr 0 (.t 10), none⟩,
  ⟨some 36, .load false 1 (.t 35), none⟩,
  ⟨some 37, .toStr (.t 36), none⟩,
  ⟨some 12, .mv (.t 37), none⟩]
abbrev r5_8 : List CO := [
  ⟨some 38, .mv (.t 9), none⟩]
abbrev r5_9 : List CO := [
  ⟨some 39, .faddr 0 (.t 8), none⟩,
  ⟨some 40, .load false 1 (.t 39), none⟩,
  ⟨some 41, .len (.t 40), none⟩,
  ⟨some 42, .mv (.c (.p (.s (.int .i64 0)))), none⟩]
abbrev r5_10 : List CO := [
  ⟨some 43, .bin .lss (.t 42) (.t 41), none⟩]
abbrev r5_11 : List CO := [
  ⟨some 44, .mv (.t 42), none⟩,
  ⟨some 13, .mv (.t 44), none⟩]
abbrev r5_12 : List CO := [
  ⟨some 45, .faddr 0 (.t 8), none⟩,
  ⟨some 46, .load false 1 (.t 45), none⟩,
  ⟨some 47, .mv (.t 13), none⟩,
  ⟨some 48, .iaddrS 1 (.t 46) (.t 47), none⟩,
  ⟨some 49, .load false 1 (.t 48), none⟩,
  ⟨some 50, .bin .xor (.t 49) (.c (.p (.s (.int .u8 255)))), none⟩,
  ⟨some 51, .iaddrS 1 (.t 46) (.t 47), none⟩,
  ⟨none, .store 1 (.t 51) (.t 50), none⟩]
abbrev k5_1 : CC := .seq (.reg r5_11) (.reg r5_12)
abbrev r5_13 : List CO := [
  ⟨some 52, .bin .add (.t 42) (.c (.p (.s (.int .i64 1)))), none⟩,
  ⟨some 42, .mv (.t 52), none⟩]
abbrev l5_15 : CC := .seq (.reg r5_10) (.seq (.cond (.t 43) (.skip) (.exit 0)) (.seq (.block 1 k5_1) (.rest [3, 7, 8, 10, 11, 12, 41, 42] (.reg r5_13))))
abbrev k5_0 : CC := .loop l5_15
abbrev r5_14 : List CO := [
  ⟨some 53, .faddr 0 (.t 3), none⟩,
  ⟨some 54, .load false 1 (.t 53), none⟩,
  ⟨some 55, .toStr (.t 54), none⟩,
  ⟨some 56, .mv (.t 7), none⟩,
  ⟨some 57, .bin .eql (.t 55) (.t 56), none⟩,
  ⟨some 58, .mv (.t 57), none⟩,
  ⟨some 59, .faddr 0 (.t 10), some (58, true)⟩,
  ⟨some 60, .load false 1 (.t 59), some (58, true)⟩,
  ⟨some 61, .toStr (.t 60), some (58, true)⟩,
  ⟨some 62, .mv (.t 12), some (58, true)⟩,
  ⟨some 63, .bin .eql (.t 61) (.t 62), some (58, true)⟩,
  ⟨some 64, .pick (.t 58) (.t 63) (.c (.p (.s (.bool false)))), none⟩,
  ⟨some 65, .mv (.t 64), none⟩,
  ⟨some 66, .mv (.t 11), some (65, true)⟩,
  ⟨some 67, .mv (.t 66), some (65, true)⟩,
  ⟨some 68, .mv (.t 12), some (67, false)⟩,
  ⟨some 69, .mv (.t 7), some (67, false)⟩,
  ⟨some 70, .bin .eql (.t 68) (.t 69), some (67, false)⟩,
  ⟨some 71, .pick (.t 67) (.c (.p (.s (.bool true)))) (.t 70), some (65, true)⟩,
  ⟨some 72, .pick (.t 65) (.t 71) (.c (.p (.s (.bool false)))), none⟩,
  ⟨some 73, .mv (.t 72), none⟩,
  ⟨some 74, .call (.c (.fn (.func 12) [] [])) [], some (73, true)⟩,
  ⟨some 75, .pick (.t 73) (.t 74) (.c (.p (.s (.bool false)))), none⟩,
  ⟨some 6, .mv (.t 75), none⟩]
abbrev c5 : CC := .seq (.reg r5_0) (.seq (.reg r5_1) (.seq (.reg r5_2) (.rest [1, 2, 3, 7] (.seq (.reg r5_3) (.rest [2, 3, 7, 8, 9] (.seq (.reg r5_4) (.rest [3, 7, 8, 9, 10, 11] (.seq (.seq (.reg r5_5) (.cond (.t 33) (.seq (.reg r5_6) (.ret)) (.skip))) (.rest [3, 7, 8, 9, 10, 11] (.seq (.reg r5_7) (.rest [3, 7, 8, 9, 10, 11, 12] (.seq (.seq (.reg r5_8) (.cond (.t 38) (.seq (.reg r5_9) (.rest [3, 7, 8, 10, 11, 12, 41, 42] (.block 0 k5_0))) (.skip))) (.rest [3, 7, 10, 11, 12] (.seq (.reg r5_14) (.rest [6] (.ret))))))))))))))))
theorem F5 : Fun Tryd.prog 5 76 c5 [.tmp 6] 3 := ⟨⟨Tryd.f5, _, Tryd.func5, rfl, by kernel_rfl, Tryd.ntmps5, by kernel_rfl, by kernel_rfl⟩, by decide⟩

/-- linnet/linnetlaw12.LineWords -/
abbrev r6_0 : List CO := [
  ⟨some 1, .box (.t 0), none⟩,
  ⟨some 2, .mv (.c (.p (.s (.bool false)))), none⟩]
abbrev r6_1 : List CO := [
  ⟨some 5, .load true 2 (.t 1), none⟩,
  ⟨some 6, .call (.c (.fn (.func 10) [] [])) [.t 5], none⟩,
  ⟨none, .store 2 (.t 1) (.t 6), none⟩]
abbrev r6_2 : List CO := [
  ⟨some 7, .load true 2 (.t 1), none⟩,
  ⟨some 8, .call (.c (.fn (.func 11) [] [])) [.t 7], none⟩,
  ⟨some 9, .bin .neq (.t 8) (.c (.p (.s (.int .i64 0)))), none⟩]
abbrev r6_3 : List CO := [
  ⟨some 10, .call (.c (.fn (.func 12) [] [])) [], none⟩,
  ⟨some 2, .mv (.t 10), none⟩]
abbrev r6_4 : List CO := [
  ⟨some 11, .load true 2 (.t 1), none⟩,
  ⟨some 12, .call (.c (.fn (.func 14) [] [])) [.t 11], none⟩,
  ⟨some 13, .load true 2 (.t 1), none⟩,
  ⟨some 14, .call (.c (.fn (.func 15) [] [])) [.t 13], none⟩,
  ⟨some 3, .mv (.t 12), none⟩,
  ⟨some 4, .mv (.t 14), none⟩]
abbrev b6_4 : List (List Nat) := [[], [0], [], [2, 1], [1, 3, 0, 1], [3, 4, 0, 1, 2, 3, 4]]
abbrev r6_5 : List CO := [
  ⟨some 15, .mv (.t 3), none⟩,
  ⟨some 16, .bin .lss (.t 15) (.c (.p (.s (.int .i64 0)))), none⟩,
  ⟨some 17, .mv (.t 16), none⟩,
  ⟨some 18, .mv (.t 3), some (17, false)⟩,
  ⟨some 19, .faddr 1 (.t 1), some (17, false)⟩,
  ⟨some 20, .load false 1 (.t 19), some (17, false)⟩,
  ⟨some 21, .bin .gtr (.t 18) (.t 20), some (17, false)⟩,
  ⟨some 22, .pick (.t 17) (.c (.p (.s (.bool true)))) (.t 21), none⟩,
  ⟨some 23, .mv (.t 22), none⟩,
  ⟨some 24, .mv (.t 4), some (23, false)⟩,
  ⟨some 25, .faddr 1 (.t 1), some (23, false)⟩,
  ⟨some 26, .load false 1 (.t 25), some (23, false)⟩,
  ⟨some 27, .bin .lss (.t 24) (.t 26), some (23, false)⟩,
  ⟨some 28, .pick (.t 23) (.c (.p (.s (.bool true)))) (.t 27), none⟩,
  ⟨some 29, .mv (.t 28), none⟩,
  ⟨some 30, .mv (.t 4), some (29, false)⟩,
  ⟨some 31, .faddr 0 (.t 1), some (29, false)⟩,
  ⟨some 32, .load false 1 (.t 31), some (29, false)⟩,
  ⟨some 33, .len (.t 32), some (29, false)⟩,
  ⟨some 34, .bin .gtr (.t 30) (.t 33), some (29, false)⟩,
  ⟨some 35, .pick (.t 29) (.c (.p (.s (.bool true)))) (.t 34), none⟩,
  ⟨some 36, .mv (.t 35), none⟩,
  ⟨some 37, .faddr 1 (.t 1), some (36, false)⟩,
  ⟨some 38, .load false 1 (.t 37), some (36, false)⟩,
  ⟨some 39, .bin .gtr (.t 38) (.c (.p (.s (.int .i64 0)))), some (36, false)⟩,
  ⟨some 40, .mv (.t 39), some (36, false)⟩,
  ⟨some 41, .mv (.t 3), some (40, true)⟩,
  ⟨some 42, .faddr 1 (.t 1), some (40, true)⟩,
  ⟨some 43, .load false 1 (.t 42), some (40, true)⟩,
  ⟨some 44, .bin .eql (.t 41) (.t 43), some (40, true)⟩,
  ⟨some 45, .pick (.t 40) (.t 44) (.c (.p (.s (.bool false)))), some (36, false)⟩,
  ⟨some 46, .pick (.t 36) (.c (.p (.s (.bool true)))) (.t 45), none⟩,
  ⟨some 47, .mv (.t 46), none⟩,
  ⟨some 48, .faddr 1 (.t 1), some (47, false)⟩,
  ⟨some 49, .load false 1 (.t 48), some (47, false)⟩,
  ⟨some 50, .faddr 0 (.t 1), some (47, false)⟩,
  ⟨some 51, .load false 1 (.t 50), some (47, false)⟩,
  ⟨some 52, .len (.t 51), some (47, false)⟩,
  ⟨some 53, .bin .lss (.t 49) (.t 52), some (47, false)⟩,
  ⟨some 54, .mv (.t 53), some (47, false)⟩,
  ⟨some 55, .mv (.t 4), some (54, true)⟩,
  ⟨some 56, .faddr 1 (.t 1), some (54, true)⟩,
  ⟨some 57, .load false 1 (.t 56), some (54, true)⟩,
  ⟨some 58, .bin .eql (.t 55) (.t 57), some (54, true)⟩,
  ⟨some 59, .pick (.t 54) (.t 58) (.c (.p (.s (.bool false)))), some (47, false)⟩,
  ⟨some 60, .pick (.t 47) (.c (.p (.s (.bool true)))) (.t 59), none⟩]
abbrev r6_6 : List CO := [
  ⟨some 2, .mv (.c (.p (.s (.bool false)))), none⟩]
abbrev r6_7 : List CO := [
  ⟨some 61, .mv (.t 3), none⟩,
  ⟨some 62, .bin .gtr (.t 61) (.c (.p (.s (.int .i64 0)))), none⟩,
  ⟨some 63, .mv (.t 62), none⟩,
  ⟨some 64, .faddr 0 (.t 1), some (63, true)⟩,
  ⟨some 65, .load false 1 (.t 64), some (63, true)⟩,
  ⟨some 66, .mv (.t 3), some (63, true)⟩,
  ⟨some 67, .bin .sub (.t 66) (.c (.p (.s (.int .i64 1)))), some (63, true)⟩,
  ⟨some 68, .iaddrS 1 (.t 65) (.t 67), some (63, true)⟩,
  ⟨some 69, .load false 1 (.t 68), some (63, true)⟩,
  ⟨some 70, .call (.c (.fn (.func 18) [] [])) [.t 69], some (63, true)⟩,
  ⟨some 71, .un .not (.t 70), some (63, true)⟩,
  ⟨some 72, .mv (.t 71), some (63, true)⟩,
  ⟨some 73, .faddr 0 (.t 1), some (72, false)⟩,
  ⟨some 74, .load false 1 (.t 73), some (72, false)⟩,
  ⟨some 75, .mv (.t 3), some (72, false)⟩,
  ⟨some 76, .iaddrS 1 (.t 74) (.t 75), some (72, false)⟩,
  ⟨some 77, .load false 1 (.t 76), some (72, false)⟩,
  ⟨some 78, .call (.c (.fn (.func 18) [] [])) [.t 77], some (72, false)⟩,
  ⟨some 79, .pick (.t 72) (.c (.p (.s (.bool true)))) (.t 78), some (63, true)⟩,
  ⟨some 80, .pick (.t 63) (.t 79) (.c (.p (.s (.bool false)))), none⟩]
abbrev r6_8 : List CO := [
  ⟨some 2, .mv (.c (.p (.s (.bool false)))), none⟩]
abbrev r6_9 : List CO := [
  ⟨some 81, .mv (.t 4), none⟩,
  ⟨some 82, .faddr 0 (.t 1), none⟩,
  ⟨some 83, .load false 1 (.t 82), none⟩,
  ⟨some 84, .len (.t 83), none⟩,
  ⟨some 85, .bin .eql (.t 81) (.t 84), none⟩,
  ⟨some 86, .mv (.t 85), none⟩,
  ⟨some 87, .mv (.t 4), some (86, false)⟩,
  ⟨some 88, .bin .gtr (.t 87) (.c (.p (.s (.int .i64 0)))), some (86, false)⟩,
  ⟨some 89, .mv (.t 88), some (86, false)⟩,
  ⟨some 90, .faddr 0 (.t 1), some (89, true)⟩,
  ⟨some 91, .load false 1 (.t 90), some (89, true)⟩,
  ⟨some 92, .mv (.t 4), some (89, true)⟩,
  ⟨some 93, .iaddrS 1 (.t 91) (.t 92), some (89, true)⟩,
  ⟨some 94, .load false 1 (.t 93), some (89, true)⟩,
  ⟨some 95, .call (.c (.fn (.func 18) [] [])) [.t 94], some (89, true)⟩,
  ⟨some 96, .un .not (.t 95), some (89, true)⟩,
  ⟨some 97, .pick (.t 89) (.t 96) (.c (.p (.s (.bool false)))), some (86, false)⟩,
  ⟨some 98, .mv (.t 97), some (86, false)⟩,
  ⟨some 99, .faddr 0 (.t 1), some (98, true)⟩,
  ⟨some 100, .load false 1 (.t 99), some (98, true)⟩,
  ⟨some 101, .mv (.t 4), some (98, true)⟩,
  ⟨some 102, .bin .sub (.t 101) (.c (.p (.s (.int .i64 1)))), some (98, true)⟩,
  ⟨some 103, .iaddrS 1 (.t 100) (.t 102), some (98, true)⟩,
  ⟨some 104, .load false 1 (.t 103), some (98, true)⟩,
  ⟨some 105, .call (.c (.fn (.func 18) [] [])) [.t 104], some (98, true)⟩,
  ⟨some 106, .pick (.t 98) (.t 105) (.c (.p (.s (.bool false)))), some (86, false)⟩,
  ⟨some 107, .pick (.t 86) (.c (.p (.s (.bool true)))) (.t 106), none⟩,
  ⟨some 108, .mv (.t 107), none⟩,
  ⟨some 109, .call (.c (.fn (.func 12) [] [])) [], some (108, true)⟩,
  ⟨some 110, .pick (.t 108) (.t 109) (.c (.p (.s (.bool false)))), none⟩,
  ⟨some 2, .mv (.t 110), none⟩]
abbrev c6 : CC := .seq (.reg r6_0) (.seq (.reg r6_1) (.seq (.seq (.reg r6_2) (.cond (.t 9) (.seq (.reg r6_3) (.ret)) (.skip))) (.rest [1] (.seq (.regd r6_4 b6_4) (.rest [1, 3, 4] (.seq (.seq (.reg r6_5) (.rest [1, 3, 4, 60] (.cond (.t 60) (.seq (.reg r6_6) (.ret)) (.skip)))) (.rest [1, 3, 4] (.seq (.seq (.reg r6_7) (.rest [1, 4, 80] (.cond (.t 80) (.seq (.reg r6_8) (.ret)) (.skip)))) (.rest [1, 4] (.seq (.reg r6_9) (.rest [2] (.ret))))))))))))
theorem F6 : Fun Tryd.prog 6 111 c6 [.tmp 2] 1 := ⟨⟨Tryd.f6, _, Tryd.func6, rfl, by kernel_rfl, Tryd.ntmps6, by kernel_rfl, by kernel_rfl⟩, by decide⟩

/-- linnet/linnetlaw12.LineTells -/
abbrev r7_0 : List CO := [
  ⟨some 3, .box (.t 0), none⟩,
  ⟨some 4, .box (.t 1), none⟩,
  ⟨some 6, .mv (.c (.p (.s (.bool false)))), none⟩]
abbrev r7_1 : List CO := [
  ⟨some 15, .load true 2 (.t 3), none⟩,
  ⟨some 16, .call (.c (.fn (.func 10) [] [])) [.t 15], none⟩,
  ⟨none, .store 2 (.t 3) (.t 16), none⟩]
abbrev r7_2 : List CO := [
  ⟨some 18, .load true 2 (.t 3), none⟩,
  ⟨some 19, .faddr 1 (.t 4), none⟩,
  ⟨some 20, .load false 1 (.t 19), none⟩,
  ⟨some 21, .faddr 2 (.t 4), none⟩,
  ⟨some 22, .load false 1 (.t 21), none⟩,
  ⟨some 23, .faddr 0 (.t 4), none⟩,
  ⟨some 24, .load false 1 (.t 23), none⟩,
  ⟨some 25, .call (.c (.fn (.func 17) [] [])) [.t 18, .t 20, .t 22, .t 24], none⟩,
  ⟨some 17, .mv (.t 25), none⟩,
  ⟨some 26, .extract 0 (.t 17), none⟩,
  ⟨some 27, .extract 1 (.t 17), none⟩,
  ⟨some 7, .alloc ([.s (.slice none 0 0), .s (.int .i64 0)]), none⟩,
  ⟨none, .store 2 (.t 7) (.t 26), none⟩,
  ⟨some 8, .mv (.t 27), none⟩]
abbrev r7_3 : List CO := [
  ⟨some 29, .load true 2 (.t 3), none⟩,
  ⟨some 30, .mv (.t 2), none⟩,
  ⟨some 31, .call (.c (.fn (.func 13) [] [])) [.t 29, .t 30], none⟩,
  ⟨some 28, .mv (.t 31), none⟩,
  ⟨some 32, .extract 0 (.t 28), none⟩,
  ⟨some 33, .extract 1 (.t 28), none⟩,
  ⟨some 9, .alloc ([.s (.slice none 0 0), .s (.int .i64 0)]), none⟩,
  ⟨none, .store 2 (.t 9) (.t 32), none⟩,
  ⟨some 10, .mv (.t 33), none⟩]
abbrev r7_4 : List CO := [
  ⟨some 34, .load true 2 (.t 3), none⟩,
  ⟨some 35, .call (.c (.fn (.func 11) [] [])) [.t 34], none⟩,
  ⟨some 36, .bin .eql (.t 35) (.c (.p (.s (.int .i64 0)))), none⟩,
  ⟨some 37, .load true 2 (.t 3), none⟩,
  ⟨some 38, .call (.c (.fn (.func 19) [] [])) [.t 37], none⟩,
  ⟨some 39, .beq true (.t 36) (.t 38), none⟩]
abbrev b7_4 : List (List Nat) := [[], [0], [1], [], [3, 1], [2, 4]]
abbrev r7_5 : List CO := [
  ⟨some 6, .mv (.c (.p (.s (.bool false)))), none⟩]
abbrev r7_6 : List CO := [
  ⟨some 40, .load true 2 (.t 3), none⟩,
  ⟨some 41, .call (.c (.fn (.func 19) [] [])) [.t 40], none⟩,
  ⟨some 42, .un .not (.t 41), none⟩]
abbrev r7_7 : List CO := [
  ⟨some 43, .load true 2 (.t 7), none⟩,
  ⟨some 44, .load true 2 (.t 3), none⟩,
  ⟨some 45, .call (.c (.fn (.func 20) [] [])) [.t 43, .t 44], none⟩,
  ⟨some 46, .mv (.t 45), none⟩,
  ⟨some 47, .mv (.t 8), some (46, true)⟩,
  ⟨some 48, .un .not (.t 47), some (46, true)⟩,
  ⟨some 49, .pick (.t 46) (.t 48) (.c (.p (.s (.bool false)))), none⟩,
  ⟨some 50, .mv (.t 49), none⟩,
  ⟨some 51, .load true 2 (.t 9), some (50, true)⟩,
  ⟨some 52, .load true 2 (.t 3), some (50, true)⟩,
  ⟨some 53, .call (.c (.fn (.func 20) [] [])) [.t 51, .t 52], some (50, true)⟩,
  ⟨some 54, .pick (.t 50) (.t 53) (.c (.p (.s (.bool false)))), none⟩,
  ⟨some 55, .mv (.t 54), none⟩,
  ⟨some 56, .mv (.t 10), some (55, true)⟩,
  ⟨some 57, .un .not (.t 56), some (55, true)⟩,
  ⟨some 58, .pick (.t 55) (.t 57) (.c (.p (.s (.bool false)))), none⟩,
  ⟨some 59, .mv (.t 58), none⟩,
  ⟨some 60, .load true 2 (.t 3), some (59, true)⟩,
  ⟨some 61, .call (.c (.fn (.func 14) [] [])) [.t 60], some (59, true)⟩,
  ⟨some 62, .bin .eql (.t 61) (.c (.p (.s (.int .i64 0)))), some (59, true)⟩,
  ⟨some 63, .pick (.t 59) (.t 62) (.c (.p (.s (.bool false)))), none⟩,
  ⟨some 64, .mv (.t 63), none⟩,
  ⟨some 65, .load true 2 (.t 3), some (64, true)⟩,
  ⟨some 66, .call (.c (.fn (.func 15) [] [])) [.t 65], some (64, true)⟩,
  ⟨some 67, .bin .eql (.t 66) (.c (.p (.s (.int .i64 0)))), some (64, true)⟩,
  ⟨some 68, .pick (.t 64) (.t 67) (.c (.p (.s (.bool false)))), none⟩,
  ⟨some 69, .mv (.t 68), none⟩,
  ⟨some 70, .call (.c (.fn (.func 12) [] [])) [], some (69, true)⟩,
  ⟨some 71, .pick (.t 69) (.t 70) (.c (.p (.s (.bool false)))), none⟩,
  ⟨some 6, .mv (.t 71), none⟩]
abbrev r7_8 : List CO := [
  ⟨some 73, .load true 2 (.t 3), none⟩,
  ⟨some 74, .faddr 1 (.t 4), none⟩,
  ⟨some 75, .load false 1 (.t 74), none⟩,
  ⟨some 76, .faddr 2 (.t 4), none⟩,
  ⟨some 77, .load false 1 (.t 76), none⟩,
  ⟨some 78, .faddr 0 (.t 4), none⟩,
  ⟨some 79, .load false 1 (.t 78), none⟩,
  ⟨some 80, .call (.c (.fn (.func 21) [] [])) [.t 73, .t 75, .t 77, .t 79], none⟩,
  ⟨some 72, .mv (.t 80), none⟩,
  ⟨some 81, .extract 0 (.t 72), none⟩,
  ⟨some 82, .extract 1 (.t 72), none⟩,
  ⟨some 11, .alloc ([.s (.slice none 0 0), .s (.int .i64 0)]), none⟩,
  ⟨none, .store 2 (.t 11) (.t 81), none⟩,
  ⟨some 12, .mv (.t 82), none⟩]
abbrev r7_9 : List CO := [
  ⟨some 84, .load true 2 (.t 3), none⟩,
  ⟨some 85, .mv (.t 2), none⟩,
  ⟨some 86, .call (.c (.fn (.func 22) [] [])) [.t 84, .t 85], none⟩,
  ⟨some 83, .mv (.t 86), none⟩,
  ⟨some 87, .extract 0 (.t 83), none⟩,
  ⟨some 88, .extract 1 (.t 83), none⟩,
  ⟨some 13, .alloc ([.s (.slice none 0 0), .s (.int .i64 0)]), none⟩,
  ⟨none, .store 2 (.t 13) (.t 87), none⟩,
  ⟨some 14, .mv (.t 88), none⟩]
abbrev r7_10 : List CO := [
  ⟨some 89, .load true 2 (.t 7), none⟩,
  ⟨some 90, .load true 2 (.t 11), none⟩,
  ⟨some 91, .call (.c (.fn (.func 23) [] [])) [.t 89, .t 90], none⟩,
  ⟨some 92, .mv (.t 91), none⟩,
  ⟨some 93, .mv (.t 8), some (92, true)⟩,
  ⟨some 94, .mv (.t 12), some (92, true)⟩,
  ⟨some 95, .beq false (.t 93) (.t 94), some (92, true)⟩,
  ⟨some 96, .pick (.t 92) (.t 95) (.c (.p (.s (.bool false)))), none⟩,
  ⟨some 97, .mv (.t 96), none⟩,
  ⟨some 98, .load true 2 (.t 9), some (97, true)⟩,
  ⟨some 99, .load true 2 (.t 13), some (97, true)⟩,
  ⟨some 100, .call (.c (.fn (.func 23) [] [])) [.t 98, .t 99], some (97, true)⟩,
  ⟨some 101, .pick (.t 97) (.t 100) (.c (.p (.s (.bool false)))), none⟩,
  ⟨some 102, .mv (.t 101), none⟩,
  ⟨some 103, .mv (.t 10), some (102, true)⟩,
  ⟨some 104, .mv (.t 14), some (102, true)⟩,
  ⟨some 105, .beq false (.t 103) (.t 104), some (102, true)⟩,
  ⟨some 106, .pick (.t 102) (.t 105) (.c (.p (.s (.bool false)))), none⟩,
  ⟨some 107, .mv (.t 106), none⟩,
  ⟨some 108, .load true 2 (.t 3), some (107, true)⟩,
  ⟨some 109, .call (.c (.fn (.func 14) [] [])) [.t 108], some (107, true)⟩,
  ⟨some 110, .load true 2 (.t 3), some (107, true)⟩,
  ⟨some 111, .call (.c (.fn (.func 24) [] [])) [.t 110], some (107, true)⟩,
  ⟨some 112, .bin .eql (.t 109) (.t 111), some (107, true)⟩,
  ⟨some 113, .pick (.t 107) (.t 112) (.c (.p (.s (.bool false)))), none⟩,
  ⟨some 114, .mv (.t 113), none⟩,
  ⟨some 115, .load true 2 (.t 3), some (114, true)⟩,
  ⟨some 116, .call (.c (.fn (.func 15) [] [])) [.t 115], some (114, true)⟩,
  ⟨some 117, .load true 2 (.t 3), some (114, true)⟩,
  ⟨some 118, .call (.c (.fn (.func 25) [] [])) [.t 117], some (114, true)⟩,
  ⟨some 119, .bin .eql (.t 116) (.t 118), some (114, true)⟩,
  ⟨some 120, .pick (.t 114) (.t 119) (.c (.p (.s (.bool false)))), none⟩,
  ⟨some 121, .mv (.t 120), none⟩,
  ⟨some 122, .load true 2 (.t 7), some (121, true)⟩,
  ⟨some 123, .load true 2 (.t 9), some (121, true)⟩,
  ⟨some 124, .call (.c (.fn (.func 20) [] [])) [.t 122, .t 123], some (121, true)⟩,
  ⟨some 125, .load true 2 (.t 11), some (121, true)⟩,
  ⟨some 126, .load true 2 (.t 13), some (121, true)⟩,
  ⟨some 127, .call (.c (.fn (.func 23) [] [])) [.t 125, .t 126], some (121, true)⟩,
  ⟨some 128, .beq false (.t 124) (.t 127), some (121, true)⟩,
  ⟨some 129, .pick (.t 121) (.t 128) (.c (.p (.s (.bool false)))), none⟩,
  ⟨some 130, .mv (.t 129), none⟩,
  ⟨some 131, .call (.c (.fn (.func 12) [] [])) [], some (130, true)⟩,
  ⟨some 132, .pick (.t 130) (.t 131) (.c (.p (.s (.bool false)))), none⟩,
  ⟨some 6, .mv (.t 132), none⟩]
abbrev b7_10 : List (List Nat) := [[], [], [0, 1], [2, 2], [3], [3], [4, 5, 3], [3, 6], [7, 3], [8], [8], [9, 10, 8, 8], [8, 11], [12, 11], [13], [13], [14, 15, 13], [13, 16], [17, 13], [18], [19, 18, 18], [18], [21, 20, 18], [20, 22, 18], [18, 23], [24, 22], [25], [26, 25, 25], [25], [28, 27, 25], [27, 29, 25], [25, 30], [31, 29], [32], [32], [33, 34, 32, 32], [32], [32], [36, 37, 35, 32], [35, 38, 32], [32, 39], [40, 38], [41, 41], [41, 42], [43, 42, 0, 1, 2, 3, 4, 5, 6, 7, 8, 9, 10, 11, 12, 13, 14, 15, 16, 17, 18, 19, 20, 21, 22, 23, 24, 25, 26, 27, 28, 29, 30, 31, 32, 33, 34, 35, 36, 37, 38, 39, 40, 41, 42, 43]]
abbrev c7 : CC := .seq (.reg r7_0) (.seq (.reg r7_1) (.seq (.reg r7_2) (.rest [2, 3, 4, 7, 8] (.seq (.reg r7_3) (.rest [2, 3, 4, 7, 8, 9, 10] (.seq (.seq (.regd r7_4 b7_4) (.rest [2, 3, 4, 7, 8, 9, 10, 39] (.cond (.t 39) (.seq (.reg r7_5) (.ret)) (.skip)))) (.rest [2, 3, 4, 7, 8, 9, 10] (.seq (.seq (.reg r7_6) (.cond (.t 42) (.seq (.reg r7_7) (.rest [6] (.ret))) (.skip))) (.rest [2, 3, 4, 7, 8, 9, 10] (.seq (.reg r7_8) (.rest [2, 3, 7, 8, 9, 10, 11, 12] (.seq (.reg r7_9) (.rest [3, 7, 8, 9, 10, 11, 12, 13, 14] (.seq (.regd r7_10 b7_10) (.rest [6] (.ret))))))))))))))))
theorem F7 : Fun Tryd.prog 7 133 c7 [.tmp 6] 3 := ⟨⟨Tryd.f7, _, Tryd.func7, rfl, by kernel_rfl, Tryd.ntmps7, by kernel_rfl, by kernel_rfl⟩, by decide⟩

/-- linnet/linnetlaw12.LineStays -/
abbrev r8_0 : List CO := [
  ⟨some 3, .box (.t 0), none⟩,
  ⟨some 4, .box (.t 1), none⟩,
  ⟨some 6, .mv (.c (.p (.s (.bool false)))), none⟩]
abbrev r8_1 : List CO := [
  ⟨some 12, .load true 2 (.t 3), none⟩,
  ⟨some 13, .call (.c (.fn (.func 10) [] [])) [.t 12], none⟩,
  ⟨none, .store 2 (.t 3) (.t 13), none⟩]
abbrev r8_2 : List CO := [
  ⟨some 14, .load true 2 (.t 3), none⟩,
  ⟨some 15, .call (.c (.fn (.func 11) [] [])) [.t 14], none⟩,
  ⟨some 16, .bin .neq (.t 15) (.c (.p (.s (.int .i64 0)))), none⟩]
abbrev r8_3 : List CO := [
  ⟨some 17, .call (.c (.fn (.func 12) [] [])) [], none⟩,
  ⟨some 6, .mv (.t 17), none⟩]
abbrev r8_4 : List CO := [
  ⟨some 7, .mv (.c (.p (.s (.int .i64 0)))), none⟩]
abbrev r8_5 : List CO := [
  ⟨some 18, .mv (.t 7), none⟩,
  ⟨some 19, .mv (.t 2), none⟩,
  ⟨some 20, .len (.t 19), none⟩,
  ⟨some 21, .bin .lss (.t 18) (.t 20), none⟩,
  ⟨some 22, .mv (.t 21), none⟩,
  ⟨some 23, .mv (.t 7), some (22, true)⟩,
  ⟨some 24, .bin .lss (.t 23) (.c (.p (.s (.int .i64 60)))), some (22, true)⟩,
  ⟨some 25, .pick (.t 22) (.t 24) (.c (.p (.s (.bool false)))), none⟩]
abbrev r8_7 : List CO := [
  ⟨some 29, .load true 2 (.t 3), none⟩,
  ⟨some 30, .mv (.t 2), none⟩,
  ⟨some 31, .mv (.t 7), none⟩,
  ⟨some 32, .iaddrS 1 (.t 30) (.t 31), none⟩,
  ⟨some 33, .load false 1 (.t 32), none⟩,
  ⟨some 34, .bin .rem (.t 33) (.c (.p (.s (.int .u8 32)))), none⟩,
  ⟨some 35, .toInt .i64 (.t 34), none⟩,
  ⟨some 36, .call (.c (.fn (.func 13) [] [])) [.t 29, .t 35], none⟩,
  ⟨some 28, .mv (.t 36), none⟩,
  ⟨some 37, .extract 0 (.t 28), none⟩,
  ⟨some 38, .extract 1 (.t 28), none⟩,
  ⟨some 8, .alloc ([.s (.slice none 0 0), .s (.int .i64 0)]), none⟩,
  ⟨none, .store 2 (.t 8) (.t 37), none⟩,
  ⟨some 9, .mv (.t 38), none⟩]
abbrev b8_7 : List (List Nat) := [[], [], [], [1, 2], [3], [4], [5], [0, 6], [7], [8], [8], [], [11, 9, 7, 0, 1, 2, 3, 4, 5, 6, 7, 8, 9, 11], [10, 12, 0, 1, 2, 3, 4, 5, 6, 7, 8, 9, 10, 11, 12]]
abbrev r8_8 : List CO := [
  ⟨some 39, .load true 2 (.t 8), none⟩,
  ⟨some 40, .call (.c (.fn (.func 11) [] [])) [.t 39], none⟩,
  ⟨some 41, .bin .neq (.t 40) (.c (.p (.s (.int .i64 0)))), none⟩,
  ⟨some 42, .mv (.t 41), none⟩,
  ⟨some 43, .faddr 0 (.t 8), some (42, false)⟩,
  ⟨some 44, .load false 1 (.t 43), some (42, false)⟩,
  ⟨some 45, .len (.t 44), some (42, false)⟩,
  ⟨some 46, .faddr 0 (.t 3), some (42, false)⟩,
  ⟨some 47, .load false 1 (.t 46), some (42, false)⟩,
  ⟨some 48, .len (.t 47), some (42, false)⟩,
  ⟨some 49, .bin .gtr (.t 45) (.t 48), some (42, false)⟩,
  ⟨some 50, .pick (.t 42) (.c (.p (.s (.bool true)))) (.t 49), none⟩,
  ⟨some 51, .mv (.t 50), none⟩,
  ⟨some 52, .mv (.t 9), some (51, false)⟩,
  ⟨some 53, .un .not (.t 52), some (51, false)⟩,
  ⟨some 54, .mv (.t 53), some (51, false)⟩,
  ⟨some 55, .load true 2 (.t 8), some (54, true)⟩,
  ⟨some 56, .load true 2 (.t 3), some (54, true)⟩,
  ⟨some 57, .call (.c (.fn (.func 20) [] [])) [.t 55, .t 56], some (54, true)⟩,
  ⟨some 58, .un .not (.t 57), some (54, true)⟩,
  ⟨some 59, .pick (.t 54) (.t 58) (.c (.p (.s (.bool false)))), some (51, false)⟩,
  ⟨some 60, .pick (.t 51) (.c (.p (.s (.bool true)))) (.t 59), none⟩]
abbrev r8_9 : List CO := [
  ⟨some 6, .mv (.c (.p (.s (.bool false)))), none⟩]
abbrev r8_10 : List CO := [
  ⟨some 62, .load true 2 (.t 8), none⟩,
  ⟨some 63, .faddr 1 (.t 4), none⟩,
  ⟨some 64, .load false 1 (.t 63), none⟩,
  ⟨some 65, .faddr 2 (.t 4), none⟩,
  ⟨some 66, .load false 1 (.t 65), none⟩,
  ⟨some 67, .faddr 0 (.t 4), none⟩,
  ⟨some 68, .load false 1 (.t 67), none⟩,
  ⟨some 69, .call (.c (.fn (.func 17) [] [])) [.t 62, .t 64, .t 66, .t 68], none⟩,
  ⟨some 61, .mv (.t 69), none⟩,
  ⟨some 70, .extract 0 (.t 61), none⟩,
  ⟨some 71, .extract 1 (.t 61), none⟩,
  ⟨some 10, .alloc ([.s (.slice none 0 0), .s (.int .i64 0)]), none⟩,
  ⟨none, .store 2 (.t 10) (.t 70), none⟩,
  ⟨some 11, .mv (.t 71), none⟩]
abbrev r8_11 : List CO := [
  ⟨some 72, .load true 2 (.t 10), none⟩,
  ⟨some 73, .call (.c (.fn (.func 11) [] [])) [.t 72], none⟩,
  ⟨some 74, .bin .neq (.t 73) (.c (.p (.s (.int .i64 0)))), none⟩,
  ⟨some 75, .mv (.t 74), none⟩,
  ⟨some 76, .mv (.t 11), some (75, false)⟩,
  ⟨some 77, .mv (.t 76), some (75, false)⟩,
  ⟨some 78, .faddr 1 (.t 10), some (77, true)⟩,
  ⟨some 79, .load false 1 (.t 78), some (77, true)⟩,
  ⟨some 80, .faddr 1 (.t 8), some (77, true)⟩,
  ⟨some 81, .load false 1 (.t 80), some (77, true)⟩,
  ⟨some 82, .bin .add (.t 81) (.c (.p (.s (.int .i64 1)))), some (77, true)⟩,
  ⟨some 83, .bin .neq (.t 79) (.t 82), some (77, true)⟩,
  ⟨some 84, .pick (.t 77) (.t 83) (.c (.p (.s (.bool false)))), some (75, false)⟩,
  ⟨some 85, .pick (.t 75) (.c (.p (.s (.bool true)))) (.t 84), none⟩,
  ⟨some 86, .mv (.t 85), none⟩,
  ⟨some 87, .mv (.t 11), some (86, false)⟩,
  ⟨some 88, .un .not (.t 87), some (86, false)⟩,
  ⟨some 89, .mv (.t 88), some (86, false)⟩,
  ⟨some 90, .load true 2 (.t 10), some (89, true)⟩,
  ⟨some 91, .load true 2 (.t 8), some (89, true)⟩,
  ⟨some 92, .call (.c (.fn (.func 20) [] [])) [.t 90, .t 91], some (89, true)⟩,
  ⟨some 93, .un .not (.t 92), some (89, true)⟩,
  ⟨some 94, .pick (.t 89) (.t 93) (.c (.p (.s (.bool false)))), some (86, false)⟩,
  ⟨some 95, .pick (.t 86) (.c (.p (.s (.bool true)))) (.t 94), none⟩,
  ⟨some 96, .mv (.t 95), none⟩,
  ⟨some 97, .faddr 0 (.t 10), some (96, false)⟩,
  ⟨some 98, .load false 1 (.t 97), some (96, false)⟩,
  ⟨some 99, .len (.t 98), some (96, false)⟩,
  ⟨some 100, .faddr 0 (.t 8), some (96, false)⟩,
  ⟨some 101, .load false 1 (.t 100), some (96, false)⟩,
  ⟨some 102, .len (.t 101), some (96, false)⟩,
  ⟨some 103, .bin .gtr (.t 99) (.t 102), some (96, false)⟩,
  ⟨some 104, .mv (.t 103), some (96, false)⟩,
  ⟨some 105, .faddr 0 (.t 10), some (104, true)⟩,
  ⟨some 106, .load false 1 (.t 105), some (104, true)⟩,
  ⟨some 107, .len (.t 106), some (104, true)⟩,
  ⟨some 108, .faddr 1 (.t 4), some (104, true)⟩,
  ⟨some 109, .load false 1 (.t 108), some (104, true)⟩,
  ⟨some 110, .bin .gtr (.t 107) (.t 109), some (104, true)⟩,
  ⟨some 111, .mv (.t 110), some (104, true)⟩,
  ⟨some 112, .faddr 0 (.t 10), some (111, false)⟩,
  ⟨some 113, .load false 1 (.t 112), some (111, false)⟩,
  ⟨some 114, .len (.t 113), some (111, false)⟩,
  ⟨some 115, .faddr 0 (.t 8), some (111, false)⟩,
  ⟨some 116, .load false 1 (.t 115), some (111, false)⟩,
  ⟨some 117, .len (.t 116), some (111, false)⟩,
  ⟨some 118, .bin .add (.t 117) (.c (.p (.s (.int .i64 1)))), some (111, false)⟩,
  ⟨some 119, .bin .neq (.t 114) (.t 118), some (111, false)⟩,
  ⟨some 120, .pick (.t 111) (.c (.p (.s (.bool true)))) (.t 119), some (104, true)⟩,
  ⟨some 121, .pick (.t 104) (.t 120) (.c (.p (.s (.bool false)))), some (96, false)⟩,
  ⟨some 122, .pick (.t 96) (.c (.p (.s (.bool true)))) (.t 121), none⟩]
abbrev r8_12 : List CO := [
  ⟨some 6, .mv (.c (.p (.s (.bool false)))), none⟩]
abbrev r8_13 : List CO := [
  ⟨some 123, .load true 2 (.t 10), none⟩,
  ⟨none, .store 2 (.t 3) (.t 123), none⟩]
abbrev k8_1 : CC := .seq (.regd r8_7 b8_7) (.rest [2, 3, 4, 7, 8, 9] (.seq (.seq (.reg r8_8) (.rest [2, 3, 4, 7, 8, 60] (.cond (.t 60) (.seq (.reg r8_9) (.ret)) (.skip)))) (.rest [2, 3, 4, 7, 8] (.seq (.reg r8_10) (.rest [2, 3, 4, 7, 8, 10, 11] (.seq (.seq (.reg r8_11) (.rest [2, 3, 4, 7, 10, 122] (.cond (.t 122) (.seq (.reg r8_12) (.ret)) (.skip)))) (.rest [2, 3, 4, 7, 10] (.reg r8_13))))))))
abbrev r8_6 : List CO := [
  ⟨some 26, .mv (.t 7), none⟩,
  ⟨some 27, .bin .add (.t 26) (.c (.p (.s (.int .i64 1)))), none⟩,
  ⟨some 7, .mv (.t 27), none⟩]
abbrev l8_16 : CC := .seq (.seq (.reg r8_5) (.rest [2, 3, 4, 7, 25] (.cond (.t 25) (.skip) (.exit 0)))) (.rest [2, 3, 4, 7] (.seq (.block 1 k8_1) (.rest [2, 3, 4, 7] (.reg r8_6))))
abbrev k8_0 : CC := .loop l8_16
abbrev r8_14 : List CO := [
  ⟨some 124, .call (.c (.fn (.func 12) [] [])) [], none⟩,
  ⟨some 6, .mv (.t 124), none⟩]
abbrev c8 : CC := .seq (.reg r8_0) (.seq (.reg r8_1) (.seq (.seq (.reg r8_2) (.cond (.t 16) (.seq (.reg r8_3) (.ret)) (.skip))) (.rest [2, 3, 4] (.seq (.seq (.reg r8_4) (.block 0 k8_0)) (.rest [] (.seq (.reg r8_14) (.ret)))))))
theorem F8 : Fun Tryd.prog 8 125 c8 [.tmp 6] 3 := ⟨⟨Tryd.f8, _, Tryd.func8, rfl, by kernel_rfl, Tryd.ntmps8, by kernel_rfl, by kernel_rfl⟩, by decide⟩

/-- linnet/linnetlaw12.LineBack -/
abbrev r9_0 : List CO := [
  ⟨some 2, .box (.t 0), none⟩,
  ⟨some 4, .mv (.c (.p (.s (.bool false)))), none⟩]
abbrev r9_1 : List CO := [
  ⟨some 17, .load true 2 (.t 2), none⟩,
  ⟨some 18, .call (.c (.fn (.func 10) [] [])) [.t 17], none⟩,
  ⟨none, .store 2 (.t 2) (.t 18), none⟩]
abbrev r9_2 : List CO := [
  ⟨some 19, .mv (.t 1), none⟩,
  ⟨some 20, .len (.t 19), none⟩,
  ⟨some 21, .bin .gtr (.t 20) (.c (.p (.s (.int .i64 30)))), none⟩]
abbrev r9_3 : List CO := [
  ⟨some 22, .mv (.t 1), none⟩,
  ⟨some 23, .slice 1 (.t 22) none (some (.c (.p (.s (.int .i64 30))))), none⟩,
  ⟨some 1, .mv (.t 23), none⟩]
abbrev r9_4 : List CO := [
  ⟨some 24, .load true 2 (.t 2), none⟩,
  ⟨some 25, .call (.c (.fn (.func 11) [] [])) [.t 24], none⟩,
  ⟨some 26, .bin .neq (.t 25) (.c (.p (.s (.int .i64 0)))), none⟩]
abbrev r9_5 : List CO := [
  ⟨some 27, .call (.c (.fn (.func 12) [] [])) [], none⟩,
  ⟨some 4, .mv (.t 27), none⟩]
abbrev r9_6 : List CO := [
  ⟨some 28, .load true 2 (.t 2), none⟩,
  ⟨some 5, .alloc ([.s (.slice none 0 0), .s (.int .i64 0)]), none⟩,
  ⟨none, .store 2 (.t 5) (.t 28), none⟩,
  ⟨some 6, .mv (.c (.p (.s (.int .i64 0)))), none⟩]
abbrev r9_7 : List CO := [
  ⟨some 7, .mv (.c (.p (.s (.int .i64 0)))), none⟩]
abbrev r9_8 : List CO := [
  ⟨some 29, .mv (.t 7), none⟩,
  ⟨some 30, .mv (.t 1), none⟩,
  ⟨some 31, .len (.t 30), none⟩,
  ⟨some 32, .bin .lss (.t 29) (.t 31), none⟩]
abbrev r9_10 : List CO := [
  ⟨some 36, .load true 2 (.t 5), none⟩,
  ⟨some 37, .mv (.t 1), none⟩,
  ⟨some 38, .mv (.t 7), none⟩,
  ⟨some 39, .iaddrS 1 (.t 37) (.t 38), none⟩,
  ⟨some 40, .load false 1 (.t 39), none⟩,
  ⟨some 41, .call (.c (.fn (.func 17) [] [])) [.t 36, .c (.p (.s (.int .i64 4096))), .c (.p (.s (.bool false))), .t 40], none⟩,
  ⟨some 35, .mv (.t 41), none⟩,
  ⟨some 42, .extract 0 (.t 35), none⟩,
  ⟨some 43, .extract 1 (.t 35), none⟩,
  ⟨some 8, .alloc ([.s (.slice none 0 0), .s (.int .i64 0)]), none⟩,
  ⟨none, .store 2 (.t 8) (.t 42), none⟩,
  ⟨some 9, .mv (.t 43), none⟩]
abbrev b9_10 : List (List Nat) := [[], [], [], [1, 2], [3], [0, 4], [5], [6], [6], [], [9, 7, 5, 0, 1, 2, 3, 4, 5, 6, 7, 9], [8, 10, 0, 1, 2, 3, 4, 5, 6, 7, 8, 9, 10]]
abbrev r9_11 : List CO := [
  ⟨some 44, .mv (.t 9), none⟩]
abbrev r9_12 : List CO := [
  ⟨some 45, .mv (.t 6), none⟩,
  ⟨some 46, .bin .add (.t 45) (.c (.p (.s (.int .i64 1)))), none⟩,
  ⟨some 6, .mv (.t 46), none⟩]
abbrev r9_13 : List CO := [
  ⟨some 47, .load true 2 (.t 8), none⟩,
  ⟨none, .store 2 (.t 5) (.t 47), none⟩]
abbrev k9_1 : CC := .seq (.regd r9_10 b9_10) (.rest [1, 2, 5, 6, 7, 8, 9] (.seq (.seq (.reg r9_11) (.cond (.t 44) (.reg r9_12) (.skip))) (.rest [1, 2, 5, 6, 7, 8] (.reg r9_13))))
abbrev r9_9 : List CO := [
  ⟨some 33, .mv (.t 7), none⟩,
  ⟨some 34, .bin .add (.t 33) (.c (.p (.s (.int .i64 1)))), none⟩,
  ⟨some 7, .mv (.t 34), none⟩]
abbrev l9_16 : CC := .seq (.seq (.reg r9_8) (.rest [1, 2, 5, 6, 7, 32] (.cond (.t 32) (.skip) (.exit 0)))) (.rest [1, 2, 5, 6, 7] (.seq (.block 1 k9_1) (.rest [1, 2, 5, 6, 7] (.reg r9_9))))
abbrev k9_0 : CC := .loop l9_16
abbrev r9_14 : List CO := [
  ⟨some 48, .faddr 1 (.t 5), none⟩,
  ⟨some 49, .load false 1 (.t 48), none⟩,
  ⟨some 50, .faddr 1 (.t 2), none⟩,
  ⟨some 51, .load false 1 (.t 50), none⟩,
  ⟨some 52, .mv (.t 6), none⟩,
  ⟨some 53, .bin .add (.t 51) (.t 52), none⟩,
  ⟨some 54, .bin .neq (.t 49) (.t 53), none⟩,
  ⟨some 55, .mv (.t 54), none⟩,
  ⟨some 56, .faddr 0 (.t 5), some (55, false)⟩,
  ⟨some 57, .load false 1 (.t 56), some (55, false)⟩,
  ⟨some 58, .len (.t 57), some (55, false)⟩,
  ⟨some 59, .faddr 0 (.t 2), some (55, false)⟩,
  ⟨some 60, .load false 1 (.t 59), some (55, false)⟩,
  ⟨some 61, .len (.t 60), some (55, false)⟩,
  ⟨some 62, .mv (.t 6), some (55, false)⟩,
  ⟨some 63, .bin .add (.t 61) (.t 62), some (55, false)⟩,
  ⟨some 64, .bin .neq (.t 58) (.t 63), some (55, false)⟩,
  ⟨some 65, .pick (.t 55) (.c (.p (.s (.bool true)))) (.t 64), none⟩,
  ⟨some 66, .mv (.t 65), none⟩,
  ⟨some 67, .faddr 0 (.t 5), some (66, false)⟩,
  ⟨some 68, .load false 1 (.t 67), some (66, false)⟩,
  ⟨some 69, .faddr 1 (.t 2), some (66, false)⟩,
  ⟨some 70, .load false 1 (.t 69), some (66, false)⟩,
  ⟨some 71, .faddr 1 (.t 5), some (66, false)⟩,
  ⟨some 72, .load false 1 (.t 71), some (66, false)⟩,
  ⟨some 73, .slice 1 (.t 68) (some (.t 70)) (some (.t 72)), some (66, false)⟩,
  ⟨some 74, .mv (.t 1), some (66, false)⟩,
  ⟨some 75, .mv (.t 6), some (66, false)⟩,
  ⟨some 76, .slice 1 (.t 74) none (some (.t 75)), some (66, false)⟩,
  ⟨some 77, .call (.c (.fn (.func 16) [] [])) [.t 73, .t 76], some (66, false)⟩,
  ⟨some 78, .un .not (.t 77), some (66, false)⟩,
  ⟨some 79, .pick (.t 66) (.c (.p (.s (.bool true)))) (.t 78), none⟩]
abbrev b9_14 : List (List Nat) := [[], [0], [], [2], [], [3, 4], [1, 5], [6], [7], [8, 7], [9, 7], [7], [11, 7], [12, 7], [7], [13, 14, 7], [10, 15, 7], [7, 16], [17, 7], [18], [19, 18], [18], [21, 18], [18], [23, 18], [20, 22, 24, 18], [18], [18], [26, 27, 18], [25, 28, 18, 18], [29, 18], [18, 30]]
abbrev r9_15 : List CO := [
  ⟨some 4, .mv (.c (.p (.s (.bool false)))), none⟩]
abbrev r9_16 : List CO := [
  ⟨some 10, .mv (.c (.p (.s (.int .i64 0)))), none⟩]
abbrev r9_17 : List CO := [
  ⟨some 80, .mv (.t 10), none⟩,
  ⟨some 81, .mv (.t 6), none⟩,
  ⟨some 82, .bin .lss (.t 80) (.t 81), none⟩]
abbrev r9_19 : List CO := [
  ⟨some 86, .load true 2 (.t 5), none⟩,
  ⟨some 87, .call (.c (.fn (.func 13) [] [])) [.t 86, .c (.p (.s (.int .i64 10)))], none⟩,
  ⟨some 85, .mv (.t 87), none⟩,
  ⟨some 88, .extract 0 (.t 85), none⟩,
  ⟨some 89, .extract 1 (.t 85), none⟩,
  ⟨some 11, .alloc ([.s (.slice none 0 0), .s (.int .i64 0)]), none⟩,
  ⟨none, .store 2 (.t 11) (.t 88), none⟩,
  ⟨some 12, .mv (.t 89), none⟩]
abbrev r9_20 : List CO := [
  ⟨some 90, .mv (.t 12), none⟩,
  ⟨some 91, .un .not (.t 90), none⟩]
abbrev r9_21 : List CO := [
  ⟨some 4, .mv (.c (.p (.s (.bool false)))), none⟩]
abbrev r9_22 : List CO := [
  ⟨some 92, .load true 2 (.t 11), none⟩,
  ⟨none, .store 2 (.t 5) (.t 92), none⟩]
abbrev k9_3 : CC := .seq (.reg r9_19) (.rest [1, 2, 5, 6, 10, 11, 12] (.seq (.seq (.reg r9_20) (.cond (.t 91) (.seq (.reg r9_21) (.ret)) (.skip))) (.reg r9_22)))
abbrev r9_18 : List CO := [
  ⟨some 83, .mv (.t 10), none⟩,
  ⟨some 84, .bin .add (.t 83) (.c (.p (.s (.int .i64 1)))), none⟩,
  ⟨some 10, .mv (.t 84), none⟩]
abbrev l9_29 : CC := .seq (.seq (.reg r9_17) (.cond (.t 82) (.skip) (.exit 2))) (.seq (.block 3 k9_3) (.rest [1, 2, 5, 6, 10] (.reg r9_18)))
abbrev k9_2 : CC := .loop l9_29
abbrev r9_23 : List CO := [
  ⟨some 93, .load true 2 (.t 2), none⟩,
  ⟨some 13, .alloc ([.s (.slice none 0 0), .s (.int .i64 0)]), none⟩,
  ⟨none, .store 2 (.t 13) (.t 93), none⟩]
abbrev r9_24 : List CO := [
  ⟨some 14, .mv (.c (.p (.s (.int .i64 0)))), none⟩]
abbrev r9_25 : List CO := [
  ⟨some 94, .mv (.t 14), none⟩,
  ⟨some 95, .mv (.t 1), none⟩,
  ⟨some 96, .len (.t 95), none⟩,
  ⟨some 97, .bin .lss (.t 94) (.t 96), none⟩,
  ⟨some 98, .mv (.t 97), none⟩,
  ⟨some 99, .faddr 1 (.t 2), some (98, true)⟩,
  ⟨some 100, .load false 1 (.t 99), some (98, true)⟩,
  ⟨some 101, .mv (.t 14), some (98, true)⟩,
  ⟨some 102, .bin .add (.t 100) (.t 101), some (98, true)⟩,
  ⟨some 103, .faddr 0 (.t 2), some (98, true)⟩,
  ⟨some 104, .load false 1 (.t 103), some (98, true)⟩,
  ⟨some 105, .len (.t 104), some (98, true)⟩,
  ⟨some 106, .bin .lss (.t 102) (.t 105), some (98, true)⟩,
  ⟨some 107, .pick (.t 98) (.t 106) (.c (.p (.s (.bool false)))), none⟩]
abbrev r9_27 : List CO := [
  ⟨some 111, .load true 2 (.t 13), none⟩,
  ⟨some 112, .mv (.t 1), none⟩,
  ⟨some 113, .mv (.t 14), none⟩,
  ⟨some 114, .iaddrS 1 (.t 112) (.t 113), none⟩,
  ⟨some 115, .load false 1 (.t 114), none⟩,
  ⟨some 116, .call (.c (.fn (.func 17) [] [])) [.t 111, .c (.p (.s (.int .i64 0))), .c (.p (.s (.bool true))), .t 115], none⟩,
  ⟨some 110, .mv (.t 116), none⟩,
  ⟨some 117, .extract 0 (.t 110), none⟩,
  ⟨some 118, .extract 1 (.t 110), none⟩,
  ⟨some 15, .alloc ([.s (.slice none 0 0), .s (.int .i64 0)]), none⟩,
  ⟨none, .store 2 (.t 15) (.t 117), none⟩,
  ⟨some 16, .mv (.t 118), none⟩]
abbrev b9_27 : List (List Nat) := [[], [], [], [1, 2], [3], [0, 4], [5], [6], [6], [], [9, 7, 5, 0, 1, 2, 3, 4, 5, 6, 7, 9], [8, 10, 0, 1, 2, 3, 4, 5, 6, 7, 8, 9, 10]]
abbrev r9_28 : List CO := [
  ⟨some 119, .mv (.t 16), none⟩,
  ⟨some 120, .un .not (.t 119), none⟩,
  ⟨some 121, .mv (.t 120), none⟩,
  ⟨some 122, .faddr 0 (.t 15), some (121, false)⟩,
  ⟨some 123, .load false 1 (.t 122), some (121, false)⟩,
  ⟨some 124, .len (.t 123), some (121, false)⟩,
  ⟨some 125, .faddr 0 (.t 2), some (121, false)⟩,
  ⟨some 126, .load false 1 (.t 125), some (121, false)⟩,
  ⟨some 127, .len (.t 126), some (121, false)⟩,
  ⟨some 128, .bin .neq (.t 124) (.t 127), some (121, false)⟩,
  ⟨some 129, .pick (.t 121) (.c (.p (.s (.bool true)))) (.t 128), none⟩,
  ⟨some 130, .mv (.t 129), none⟩,
  ⟨some 131, .faddr 0 (.t 15), some (130, false)⟩,
  ⟨some 132, .load false 1 (.t 131), some (130, false)⟩,
  ⟨some 133, .faddr 1 (.t 2), some (130, false)⟩,
  ⟨some 134, .load false 1 (.t 133), some (130, false)⟩,
  ⟨some 135, .mv (.t 14), some (130, false)⟩,
  ⟨some 136, .bin .add (.t 134) (.t 135), some (130, false)⟩,
  ⟨some 137, .iaddrS 1 (.t 132) (.t 136), some (130, false)⟩,
  ⟨some 138, .load false 1 (.t 137), some (130, false)⟩,
  ⟨some 139, .mv (.t 1), some (130, false)⟩,
  ⟨some 140, .mv (.t 14), some (130, false)⟩,
  ⟨some 141, .iaddrS 1 (.t 139) (.t 140), some (130, false)⟩,
  ⟨some 142, .load false 1 (.t 141), some (130, false)⟩,
  ⟨some 143, .bin .neq (.t 138) (.t 142), some (130, false)⟩,
  ⟨some 144, .pick (.t 130) (.c (.p (.s (.bool true)))) (.t 143), none⟩]
abbrev b9_28 : List (List Nat) := [[], [0], [1], [2], [3, 2], [4, 2], [2], [6, 2], [7, 2], [5, 8, 2], [2, 9], [10, 2], [11], [12, 11], [11], [14, 11], [11], [15, 16, 11], [13, 17, 11], [18, 11], [11], [11], [20, 21, 11], [22, 11], [19, 23, 11], [11, 24]]
abbrev r9_29 : List CO := [
  ⟨some 4, .mv (.c (.p (.s (.bool false)))), none⟩]
abbrev r9_30 : List CO := [
  ⟨some 145, .load true 2 (.t 15), none⟩,
  ⟨none, .store 2 (.t 13) (.t 145), none⟩]
abbrev k9_5 : CC := .seq (.regd r9_27 b9_27) (.rest [1, 2, 5, 13, 14, 15, 16] (.seq (.seq (.regd r9_28 b9_28) (.rest [1, 2, 5, 13, 14, 15, 144] (.cond (.t 144) (.seq (.reg r9_29) (.ret)) (.skip)))) (.rest [1, 2, 5, 13, 14, 15] (.reg r9_30))))
abbrev r9_26 : List CO := [
  ⟨some 108, .mv (.t 14), none⟩,
  ⟨some 109, .bin .add (.t 108) (.c (.p (.s (.int .i64 1)))), none⟩,
  ⟨some 14, .mv (.t 109), none⟩]
abbrev l9_42 : CC := .seq (.seq (.reg r9_25) (.rest [1, 2, 5, 13, 14, 107] (.cond (.t 107) (.skip) (.exit 4)))) (.rest [1, 2, 5, 13, 14] (.seq (.block 5 k9_5) (.rest [1, 2, 5, 13, 14] (.reg r9_26))))
abbrev k9_4 : CC := .loop l9_42
abbrev r9_31 : List CO := [
  ⟨some 146, .load true 2 (.t 5), none⟩,
  ⟨some 147, .load true 2 (.t 2), none⟩,
  ⟨some 148, .call (.c (.fn (.func 20) [] [])) [.t 146, .t 147], none⟩,
  ⟨some 149, .mv (.t 148), none⟩,
  ⟨some 150, .call (.c (.fn (.func 12) [] [])) [], some (149, true)⟩,
  ⟨some 151, .pick (.t 149) (.t 150) (.c (.p (.s (.bool false)))), none⟩,
  ⟨some 4, .mv (.t 151), none⟩]
abbrev c9 : CC := .seq (.reg r9_0) (.seq (.reg r9_1) (.seq (.seq (.reg r9_2) (.cond (.t 21) (.reg r9_3) (.skip))) (.rest [1, 2] (.seq (.seq (.reg r9_4) (.cond (.t 26) (.seq (.reg r9_5) (.ret)) (.skip))) (.rest [1, 2] (.seq (.reg r9_6) (.rest [1, 2, 5, 6] (.seq (.seq (.reg r9_7) (.block 0 k9_0)) (.rest [1, 2, 5, 6] (.seq (.seq (.regd r9_14 b9_14) (.rest [1, 2, 5, 6, 79] (.cond (.t 79) (.seq (.reg r9_15) (.ret)) (.skip)))) (.rest [1, 2, 5, 6] (.seq (.seq (.reg r9_16) (.block 2 k9_2)) (.rest [1, 2, 5] (.seq (.reg r9_23) (.seq (.seq (.reg r9_24) (.block 4 k9_4)) (.rest [2, 5] (.seq (.reg r9_31) (.rest [4] (.ret)))))))))))))))))))
theorem F9 : Fun Tryd.prog 9 152 c9 [.tmp 4] 2 := ⟨⟨Tryd.f9, _, Tryd.func9, rfl, by kernel_rfl, Tryd.ntmps9, by kernel_rfl, by kernel_rfl⟩, by decide⟩

/-- linnet/linnetlaw12.Few -/
abbrev r10_0 : List CO := [
  ⟨some 1, .box (.t 0), none⟩,
  ⟨some 2, .alloc ([.s (.slice none 0 0), .s (.int .i64 0)]), none⟩]
abbrev r10_1 : List CO := [
  ⟨some 3, .faddr 0 (.t 1), none⟩,
  ⟨some 4, .load false 1 (.t 3), none⟩,
  ⟨some 5, .len (.t 4), none⟩,
  ⟨some 6, .bin .gtr (.t 5) (.c (.p (.s (.int .i64 200)))), none⟩,
  ⟨some 7, .mv (.t 6), none⟩,
  ⟨some 8, .faddr 0 (.t 1), some (7, true)⟩,
  ⟨some 9, .load false 1 (.t 8), some (7, true)⟩,
  ⟨some 10, .len (.t 9), some (7, true)⟩,
  ⟨some 11, .bin .lss (.t 10) (.c (.p (.s (.int .i64 4000)))), some (7, true)⟩,
  ⟨some 12, .pick (.t 7) (.t 11) (.c (.p (.s (.bool false)))), none⟩,
  ⟨some 13, .mv (.t 12), none⟩,
  ⟨some 14, .faddr 0 (.t 1), some (13, false)⟩,
  ⟨some 15, .load false 1 (.t 14), some (13, false)⟩,
  ⟨some 16, .len (.t 15), some (13, false)⟩,
  ⟨some 17, .bin .gtr (.t 16) (.c (.p (.s (.int .i64 4100)))), some (13, false)⟩,
  ⟨some 18, .pick (.t 13) (.c (.p (.s (.bool true)))) (.t 17), none⟩]
abbrev r10_2 : List CO := [
  ⟨some 19, .faddr 0 (.t 1), none⟩,
  ⟨some 20, .load false 1 (.t 19), none⟩,
  ⟨some 21, .slice 1 (.t 20) none (some (.c (.p (.s (.int .i64 200))))), none⟩,
  ⟨some 22, .faddr 0 (.t 1), none⟩,
  ⟨none, .store 1 (.t 22) (.t 21), none⟩]
abbrev r10_3 : List CO := [
  ⟨some 23, .load true 2 (.t 1), none⟩,
  ⟨none, .store 2 (.t 2) (.t 23), none⟩]
abbrev c10 : CC := .seq (.reg r10_0) (.seq (.seq (.reg r10_1) (.rest [1, 2, 18] (.cond (.t 18) (.reg r10_2) (.skip)))) (.rest [1, 2] (.seq (.reg r10_3) (.ret))))
theorem F10 : Fun Tryd.prog 10 24 c10 [.cell 2 true 2] 1 := ⟨⟨Tryd.f10, _, Tryd.func10, rfl, by kernel_rfl, Tryd.ntmps10, by kernel_rfl, by kernel_rfl⟩, by decide⟩

/-- linnet/line.Check -/
abbrev r11_0 : List CO := [
  ⟨some 1, .box (.t 0), none⟩,
  ⟨some 2, .mv (.c (.p (.s (.int .i64 0)))), none⟩]
abbrev r11_1 : List CO := [
  ⟨some 3, .faddr 0 (.t 1), none⟩,
  ⟨some 4, .load false 1 (.t 3), none⟩,
  ⟨some 5, .len (.t 4), none⟩,
  ⟨some 6, .bin .gtr (.t 5) (.c (.p (.s (.int .i64 4096)))), none⟩,
  ⟨some 7, .mv (.t 6), none⟩,
  ⟨some 8, .faddr 1 (.t 1), some (7, false)⟩,
  ⟨some 9, .load false 1 (.t 8), some (7, false)⟩,
  ⟨some 10, .bin .lss (.t 9) (.c (.p (.s (.int .i64 0)))), some (7, false)⟩,
  ⟨some 11, .pick (.t 7) (.c (.p (.s (.bool true)))) (.t 10), none⟩,
  ⟨some 12, .mv (.t 11), none⟩,
  ⟨some 13, .faddr 1 (.t 1), some (12, false)⟩,
  ⟨some 14, .load false 1 (.t 13), some (12, false)⟩,
  ⟨some 15, .faddr 0 (.t 1), some (12, false)⟩,
  ⟨some 16, .load false 1 (.t 15), some (12, false)⟩,
  ⟨some 17, .len (.t 16), some (12, false)⟩,
  ⟨some 18, .bin .gtr (.t 14) (.t 17), some (12, false)⟩,
  ⟨some 19, .pick (.t 12) (.c (.p (.s (.bool true)))) (.t 18), none⟩]
abbrev r11_2 : List CO := [
  ⟨some 2, .mv (.c (.p (.s (.int .i64 1)))), none⟩]
abbrev r11_3 : List CO := [
  ⟨some 2, .mv (.c (.p (.s (.int .i64 0)))), none⟩]
abbrev c11 : CC := .seq (.reg r11_0) (.seq (.seq (.reg r11_1) (.rest [19] (.cond (.t 19) (.seq (.reg r11_2) (.ret)) (.skip)))) (.rest [] (.seq (.reg r11_3) (.ret))))
theorem F11 : Fun Tryd.prog 11 20 c11 [.tmp 2] 1 := ⟨⟨Tryd.f11, _, Tryd.func11, rfl, by kernel_rfl, Tryd.ntmps11, by kernel_rfl, by kernel_rfl⟩, by decide⟩

/-- linnet/linnetlaw12.awake -/
abbrev r12_0 : List CO := [
  ⟨some 0, .mv (.c (.p (.s (.bool false)))), none⟩]
abbrev r12_1 : List CO := [
  ⟨some 8, .bslice 1 2 ([.s (.int .u8 0)]) [(0, .c (.p (.s (.int .u8 97)))), (1, .c (.p (.s (.int .u8 98))))], none⟩,
  ⟨some 9, .ext .bconv [.t 8], none⟩,
  ⟨some 10, .build ([.s (.slice none 0 0), .s (.int .i64 0)]) [(0, 1, .t 9), (1, 1, .c (.p (.s (.int .i64 1))))], none⟩,
  ⟨some 11, .call (.c (.fn (.func 17) [] [])) [.t 10, .c (.p (.s (.int .i64 9))), .c (.p (.s (.bool false))), .c (.p (.s (.int .u8 99)))], none⟩,
  ⟨some 7, .mv (.t 11), none⟩,
  ⟨some 12, .extract 0 (.t 7), none⟩,
  ⟨some 13, .extract 1 (.t 7), none⟩,
  ⟨some 1, .alloc ([.s (.slice none 0 0), .s (.int .i64 0)]), none⟩,
  ⟨none, .store 2 (.t 1) (.t 12), none⟩,
  ⟨some 2, .mv (.t 13), none⟩]
abbrev r12_2 : List CO := [
  ⟨some 15, .bslice 1 2 ([.s (.int .u8 0)]) [(0, .c (.p (.s (.int .u8 97)))), (1, .c (.p (.s (.int .u8 98))))], none⟩,
  ⟨some 16, .ext .bconv [.t 15], none⟩,
  ⟨some 17, .build ([.s (.slice none 0 0), .s (.int .i64 0)]) [(0, 1, .t 16), (1, 1, .c (.p (.s (.int .i64 1))))], none⟩,
  ⟨some 18, .call (.c (.fn (.func 17) [] [])) [.t 17, .c (.p (.s (.int .i64 2))), .c (.p (.s (.bool true))), .c (.p (.s (.int .u8 99)))], none⟩,
  ⟨some 14, .mv (.t 18), none⟩,
  ⟨some 19, .extract 0 (.t 14), none⟩,
  ⟨some 20, .extract 1 (.t 14), none⟩,
  ⟨some 3, .alloc ([.s (.slice none 0 0), .s (.int .i64 0)]), none⟩,
  ⟨none, .store 2 (.t 3) (.t 19), none⟩,
  ⟨some 4, .mv (.t 20), none⟩]
abbrev r12_3 : List CO := [
  ⟨some 22, .bslice 1 7 ([.s (.int .u8 0)]) [(0, .c (.p (.s (.int .u8 97)))), (1, .c (.p (.s (.int .u8 98)))), (2, .c (.p (.s (.int .u8 32)))), (3, .c (.p (.s (.int .u8 32)))), (4, .c (.p (.s (.int .u8 99)))), (5, .c (.p (.s (.int .u8 100)))), (6, .c (.p (.s (.int .u8 32))))], none⟩,
  ⟨some 23, .ext .bconv [.t 22], none⟩,
  ⟨some 24, .build ([.s (.slice none 0 0), .s (.int .i64 0)]) [(0, 1, .t 23), (1, 1, .c (.p (.s (.int .i64 7))))], none⟩,
  ⟨some 25, .call (.c (.fn (.func 13) [] [])) [.t 24, .c (.p (.s (.int .i64 12)))], none⟩,
  ⟨some 21, .mv (.t 25), none⟩,
  ⟨some 26, .extract 0 (.t 21), none⟩,
  ⟨some 27, .extract 1 (.t 21), none⟩,
  ⟨some 5, .alloc ([.s (.slice none 0 0), .s (.int .i64 0)]), none⟩,
  ⟨none, .store 2 (.t 5) (.t 26), none⟩,
  ⟨some 6, .mv (.t 27), none⟩]
abbrev r12_4 : List CO := [
  ⟨some 28, .mv (.t 2), none⟩,
  ⟨some 29, .mv (.t 28), none⟩,
  ⟨some 30, .mv (.t 4), some (29, true)⟩,
  ⟨some 31, .pick (.t 29) (.t 30) (.c (.p (.s (.bool false)))), none⟩,
  ⟨some 32, .mv (.t 31), none⟩,
  ⟨some 33, .mv (.t 6), some (32, true)⟩,
  ⟨some 34, .pick (.t 32) (.t 33) (.c (.p (.s (.bool false)))), none⟩,
  ⟨some 35, .mv (.t 34), none⟩,
  ⟨some 36, .faddr 0 (.t 1), some (35, true)⟩,
  ⟨some 37, .load false 1 (.t 36), some (35, true)⟩,
  ⟨some 38, .toStr (.t 37), some (35, true)⟩,
  ⟨some 39, .bin .eql (.t 38) (.c (.p (.s (.string { data := #[97, 99, 98] })))), some (35, true)⟩,
  ⟨some 40, .pick (.t 35) (.t 39) (.c (.p (.s (.bool false)))), none⟩,
  ⟨some 41, .mv (.t 40), none⟩,
  ⟨some 42, .faddr 1 (.t 1), some (41, true)⟩,
  ⟨some 43, .load false 1 (.t 42), some (41, true)⟩,
  ⟨some 44, .bin .eql (.t 43) (.c (.p (.s (.int .i64 2)))), some (41, true)⟩,
  ⟨some 45, .pick (.t 41) (.t 44) (.c (.p (.s (.bool false)))), none⟩,
  ⟨some 46, .mv (.t 45), none⟩,
  ⟨some 47, .faddr 0 (.t 3), some (46, true)⟩,
  ⟨some 48, .load false 1 (.t 47), some (46, true)⟩,
  ⟨some 49, .toStr (.t 48), some (46, true)⟩,
  ⟨some 50, .bin .eql (.t 49) (.c (.p (.s (.string { data := #[97, 99] })))), some (46, true)⟩,
  ⟨some 51, .pick (.t 46) (.t 50) (.c (.p (.s (.bool false)))), none⟩,
  ⟨some 52, .mv (.t 51), none⟩,
  ⟨some 53, .faddr 1 (.t 3), some (52, true)⟩,
  ⟨some 54, .load false 1 (.t 53), some (52, true)⟩,
  ⟨some 55, .bin .eql (.t 54) (.c (.p (.s (.int .i64 2)))), some (52, true)⟩,
  ⟨some 56, .pick (.t 52) (.t 55) (.c (.p (.s (.bool false)))), none⟩,
  ⟨some 57, .mv (.t 56), none⟩,
  ⟨some 58, .faddr 0 (.t 5), some (57, true)⟩,
  ⟨some 59, .load false 1 (.t 58), some (57, true)⟩,
  ⟨some 60, .toStr (.t 59), some (57, true)⟩,
  ⟨some 61, .bin .eql (.t 60) (.c (.p (.s (.string { data := #[97, 98, 32, 32] })))), some (57, true)⟩,
  ⟨some 62, .pick (.t 57) (.t 61) (.c (.p (.s (.bool false)))), none⟩,
  ⟨some 63, .mv (.t 62), none⟩,
  ⟨some 64, .bslice 1 6 ([.s (.int .u8 0)]) [(0, .c (.p (.s (.int .u8 97)))), (1, .c (.p (.s (.int .u8 98)))), (2, .c (.p (.s (.int .u8 32)))), (3, .c (.p (.s (.int .u8 32)))), (4, .c (.p (.s (.int .u8 99)))), (5, .c (.p (.s (.int .u8 100))))], some (63, true)⟩,
  ⟨some 65, .ext .bconv [.t 64], some (63, true)⟩,
  ⟨some 66, .build ([.s (.slice none 0 0), .s (.int .i64 0)]) [(0, 1, .t 65)], some (63, true)⟩,
  ⟨some 67, .call (.c (.fn (.func 15) [] [])) [.t 66], some (63, true)⟩,
  ⟨some 68, .bin .eql (.t 67) (.c (.p (.s (.int .i64 4)))), some (63, true)⟩,
  ⟨some 69, .pick (.t 63) (.t 68) (.c (.p (.s (.bool false)))), none⟩,
  ⟨some 70, .mv (.t 69), none⟩,
  ⟨some 71, .pick (.t 70) (.c (.p (.s (.bool true)))) (.c (.p (.s (.bool false)))), none⟩,
  ⟨some 0, .mv (.t 71), none⟩]
abbrev c12 : CC := .seq (.reg r12_0) (.seq (.reg r12_1) (.rest [1, 2] (.seq (.reg r12_2) (.rest [1, 2, 3, 4] (.seq (.reg r12_3) (.rest [1, 2, 3, 4, 5, 6] (.seq (.reg r12_4) (.rest [0] (.ret)))))))))
theorem F12 : Fun Tryd.prog 12 72 c12 [.tmp 0] 0 := ⟨⟨Tryd.f12, _, Tryd.func12, rfl, by kernel_rfl, Tryd.ntmps12, by kernel_rfl, by kernel_rfl⟩, by decide⟩

/-- linnet/line.Do -/
abbrev r13_0 : List CO := [
  ⟨some 2, .box (.t 0), none⟩,
  ⟨some 4, .alloc ([.s (.slice none 0 0), .s (.int .i64 0)]), none⟩,
  ⟨some 5, .mv (.c (.p (.s (.bool false)))), none⟩]
abbrev r13_1 : List CO := [
  ⟨some 7, .call (.c (.fn (.func 26) [] [])) [], none⟩,
  ⟨some 8, .mv (.t 1), none⟩,
  ⟨some 9, .ext (.look (.nilFunc)) [.t 7, .t 8], none⟩,
  ⟨some 6, .mv (.t 9), none⟩]
abbrev r13_2 : List CO := [
  ⟨some 10, .load true 2 (.t 2), none⟩,
  ⟨some 11, .call (.c (.fn (.func 11) [] [])) [.t 10], none⟩,
  ⟨some 12, .bin .neq (.t 11) (.c (.p (.s (.int .i64 0)))), none⟩,
  ⟨some 13, .mv (.t 12), none⟩,
  ⟨some 14, .mv (.t 6), some (13, false)⟩,
  ⟨some 15, .ext (.fnil false) [.t 14], some (13, false)⟩,
  ⟨some 16, .pick (.t 13) (.c (.p (.s (.bool true)))) (.t 15), none⟩]
abbrev r13_3 : List CO := [
  ⟨some 17, .load true 2 (.t 2), none⟩,
  ⟨none, .store 2 (.t 4) (.t 17), none⟩,
  ⟨some 5, .mv (.c (.p (.s (.bool false)))), none⟩]
abbrev r13_4 : List CO := [
  ⟨some 18, .faddr 0 (.t 2), none⟩,
  ⟨some 19, .load false 1 (.t 18), none⟩,
  ⟨some 20, .call (.c (.fn (.func 27) [] [])) [.t 19], none⟩,
  ⟨some 21, .faddr 0 (.t 2), none⟩,
  ⟨none, .store 1 (.t 21) (.t 20), none⟩]
abbrev r13_5 : List CO := [
  ⟨some 22, .mv (.t 6), none⟩,
  ⟨some 23, .load true 2 (.t 2), none⟩,
  ⟨some 24, .call (.t 22) [.t 23], none⟩,
  ⟨none, .store 2 (.t 4) (.t 24), none⟩,
  ⟨some 5, .mv (.c (.p (.s (.bool true)))), none⟩]
abbrev c13 : CC := .seq (.reg r13_0) (.seq (.reg r13_1) (.rest [2, 4, 6] (.seq (.seq (.reg r13_2) (.rest [2, 4, 6, 16] (.cond (.t 16) (.seq (.reg r13_3) (.ret)) (.skip)))) (.rest [2, 4, 6] (.seq (.reg r13_4) (.rest [2, 4, 6] (.seq (.reg r13_5) (.rest [4, 5] (.ret)))))))))
theorem F13 : Fun Tryd.prog 13 25 c13 [.cell 4 true 2, .tmp 5] 2 := ⟨⟨Tryd.f13, _, Tryd.func13, rfl, by kernel_rfl, Tryd.ntmps13, by kernel_rfl, by kernel_rfl⟩, by decide⟩

/-- linnet/line.Back -/
abbrev r14_0 : List CO := [
  ⟨some 1, .box (.t 0), none⟩,
  ⟨some 2, .mv (.c (.p (.s (.int .i64 0)))), none⟩]
abbrev r14_1 : List CO := [
  ⟨some 4, .load true 2 (.t 1), none⟩,
  ⟨some 5, .call (.c (.fn (.func 11) [] [])) [.t 4], none⟩,
  ⟨some 6, .bin .neq (.t 5) (.c (.p (.s (.int .i64 0)))), none⟩]
abbrev r14_2 : List CO := [
  ⟨some 2, .mv (.c (.p (.s (.int .i64 0)))), none⟩]
abbrev r14_3 : List CO := [
  ⟨some 7, .faddr 0 (.t 1), none⟩,
  ⟨some 8, .load false 1 (.t 7), none⟩,
  ⟨some 9, .faddr 1 (.t 1), none⟩,
  ⟨some 10, .load false 1 (.t 9), none⟩,
  ⟨some 11, .slice 1 (.t 8) none (some (.t 10)), none⟩,
  ⟨some 12, .call (.c (.fn (.func 28) [] [])) [.t 11, .c (.p (.s (.string { data := #[32, 9] })))], none⟩,
  ⟨some 13, .len (.t 12), none⟩,
  ⟨some 3, .mv (.t 13), none⟩]
abbrev r14_4 : List CO := [
  ⟨some 14, .mv (.t 3), none⟩,
  ⟨some 15, .bin .gtr (.t 14) (.c (.p (.s (.int .i64 0)))), none⟩,
  ⟨some 16, .mv (.t 15), none⟩,
  ⟨some 17, .faddr 0 (.t 1), some (16, true)⟩,
  ⟨some 18, .load false 1 (.t 17), some (16, true)⟩,
  ⟨some 19, .mv (.t 3), some (16, true)⟩,
  ⟨some 20, .bin .sub (.t 19) (.c (.p (.s (.int .i64 1)))), some (16, true)⟩,
  ⟨some 21, .iaddrS 1 (.t 18) (.t 20), some (16, true)⟩,
  ⟨some 22, .load false 1 (.t 21), some (16, true)⟩,
  ⟨some 23, .call (.c (.fn (.func 29) [] [])) [.t 22], some (16, true)⟩,
  ⟨some 24, .un .not (.t 23), some (16, true)⟩,
  ⟨some 25, .pick (.t 16) (.t 24) (.c (.p (.s (.bool false)))), none⟩]
abbrev r14_5 : List CO := [
  ⟨some 26, .mv (.t 3), none⟩,
  ⟨some 27, .bin .sub (.t 26) (.c (.p (.s (.int .i64 1)))), none⟩,
  ⟨some 3, .mv (.t 27), none⟩]
abbrev k14_1 : CC := .reg r14_5
abbrev l14_7 : CC := .seq (.seq (.reg r14_4) (.rest [1, 3, 25] (.cond (.t 25) (.skip) (.exit 0)))) (.rest [1, 3] (.block 1 k14_1))
abbrev k14_0 : CC := .loop l14_7
abbrev r14_6 : List CO := [
  ⟨some 28, .mv (.t 3), none⟩,
  ⟨some 2, .mv (.t 28), none⟩]
abbrev c14 : CC := .seq (.reg r14_0) (.seq (.seq (.reg r14_1) (.cond (.t 6) (.seq (.reg r14_2) (.ret)) (.skip))) (.rest [1] (.seq (.reg r14_3) (.rest [1, 3] (.seq (.block 0 k14_0) (.rest [3] (.seq (.reg r14_6) (.ret))))))))
theorem F14 : Fun Tryd.prog 14 29 c14 [.tmp 2] 1 := ⟨⟨Tryd.f14, _, Tryd.func14, rfl, by kernel_rfl, Tryd.ntmps14, by kernel_rfl, by kernel_rfl⟩, by decide⟩

/-- linnet/line.On -/
abbrev r15_0 : List CO := [
  ⟨some 1, .box (.t 0), none⟩,
  ⟨some 2, .mv (.c (.p (.s (.int .i64 0)))), none⟩]
abbrev r15_1 : List CO := [
  ⟨some 4, .load true 2 (.t 1), none⟩,
  ⟨some 5, .call (.c (.fn (.func 11) [] [])) [.t 4], none⟩,
  ⟨some 6, .bin .neq (.t 5) (.c (.p (.s (.int .i64 0)))), none⟩]
abbrev r15_2 : List CO := [
  ⟨some 2, .mv (.c (.p (.s (.int .i64 0)))), none⟩]
abbrev r15_3 : List CO := [
  ⟨some 7, .faddr 1 (.t 1), none⟩,
  ⟨some 8, .load false 1 (.t 7), none⟩,
  ⟨some 3, .mv (.t 8), none⟩]
abbrev r15_4 : List CO := [
  ⟨some 9, .mv (.t 3), none⟩,
  ⟨some 10, .faddr 0 (.t 1), none⟩,
  ⟨some 11, .load false 1 (.t 10), none⟩,
  ⟨some 12, .len (.t 11), none⟩,
  ⟨some 13, .bin .lss (.t 9) (.t 12), none⟩,
  ⟨some 14, .mv (.t 13), none⟩,
  ⟨some 15, .faddr 0 (.t 1), some (14, true)⟩,
  ⟨some 16, .load false 1 (.t 15), some (14, true)⟩,
  ⟨some 17, .mv (.t 3), some (14, true)⟩,
  ⟨some 18, .iaddrS 1 (.t 16) (.t 17), some (14, true)⟩,
  ⟨some 19, .load false 1 (.t 18), some (14, true)⟩,
  ⟨some 20, .call (.c (.fn (.func 29) [] [])) [.t 19], some (14, true)⟩,
  ⟨some 21, .un .not (.t 20), some (14, true)⟩,
  ⟨some 22, .pick (.t 14) (.t 21) (.c (.p (.s (.bool false)))), none⟩]
abbrev r15_5 : List CO := [
  ⟨some 23, .mv (.t 3), none⟩,
  ⟨some 24, .bin .add (.t 23) (.c (.p (.s (.int .i64 1)))), none⟩,
  ⟨some 3, .mv (.t 24), none⟩]
abbrev k15_1 : CC := .reg r15_5
abbrev l15_7 : CC := .seq (.seq (.reg r15_4) (.rest [1, 3, 22] (.cond (.t 22) (.skip) (.exit 0)))) (.rest [1, 3] (.block 1 k15_1))
abbrev k15_0 : CC := .loop l15_7
abbrev r15_6 : List CO := [
  ⟨some 25, .mv (.t 3), none⟩,
  ⟨some 26, .faddr 0 (.t 1), none⟩,
  ⟨some 27, .load false 1 (.t 26), none⟩,
  ⟨some 28, .len (.t 27), none⟩,
  ⟨some 29, .bin .lss (.t 25) (.t 28), none⟩,
  ⟨some 30, .mv (.t 29), none⟩,
  ⟨some 31, .faddr 0 (.t 1), some (30, true)⟩,
  ⟨some 32, .load false 1 (.t 31), some (30, true)⟩,
  ⟨some 33, .mv (.t 3), some (30, true)⟩,
  ⟨some 34, .iaddrS 1 (.t 32) (.t 33), some (30, true)⟩,
  ⟨some 35, .load false 1 (.t 34), some (30, true)⟩,
  ⟨some 36, .call (.c (.fn (.func 29) [] [])) [.t 35], some (30, true)⟩,
  ⟨some 37, .pick (.t 30) (.t 36) (.c (.p (.s (.bool false)))), none⟩]
abbrev r15_7 : List CO := [
  ⟨some 38, .mv (.t 3), none⟩,
  ⟨some 39, .bin .add (.t 38) (.c (.p (.s (.int .i64 1)))), none⟩,
  ⟨some 3, .mv (.t 39), none⟩]
abbrev k15_3 : CC := .reg r15_7
abbrev l15_12 : CC := .seq (.seq (.reg r15_6) (.rest [1, 3, 37] (.cond (.t 37) (.skip) (.exit 2)))) (.rest [1, 3] (.block 3 k15_3))
abbrev k15_2 : CC := .loop l15_12
abbrev r15_8 : List CO := [
  ⟨some 40, .mv (.t 3), none⟩,
  ⟨some 2, .mv (.t 40), none⟩]
abbrev c15 : CC := .seq (.reg r15_0) (.seq (.seq (.reg r15_1) (.cond (.t 6) (.seq (.reg r15_2) (.ret)) (.skip))) (.rest [1] (.seq (.reg r15_3) (.seq (.block 0 k15_0) (.rest [1, 3] (.seq (.block 2 k15_2) (.rest [3] (.seq (.reg r15_8) (.ret)))))))))
theorem F15 : Fun Tryd.prog 15 41 c15 [.tmp 2] 1 := ⟨⟨Tryd.f15, _, Tryd.func15, rfl, by kernel_rfl, Tryd.ntmps15, by kernel_rfl, by kernel_rfl⟩, by decide⟩

/-- linnet/linnetref01.Octets -/
abbrev r16_0 : List CO := [
  ⟨some 4, .mv (.c (.p (.s (.bool false)))), none⟩]
abbrev r16_1 : List CO := [
  ⟨some 5, .mv (.t 0), none⟩,
  ⟨some 6, .toStr (.t 5), none⟩,
  ⟨some 7, .mv (.t 1), none⟩,
  ⟨some 8, .toStr (.t 7), none⟩,
  ⟨some 9, .bin .eql (.t 6) (.t 8), none⟩,
  ⟨some 4, .mv (.t 9), none⟩]
abbrev c16 : CC := .seq (.reg r16_0) (.seq (.reg r16_1) (.rest [4] (.ret)))
theorem F16 : Fun Tryd.prog 16 10 c16 [.tmp 4] 2 := ⟨⟨Tryd.f16, _, Tryd.func16, rfl, by kernel_rfl, Tryd.ntmps16, by kernel_rfl, by kernel_rfl⟩, by decide⟩

/-- linnet/line.Type -/
abbrev r17_0 : List CO := [
  ⟨some 4, .box (.t 0), none⟩,
  ⟨some 8, .alloc ([.s (.slice none 0 0), .s (.int .i64 0)]), none⟩,
  ⟨some 9, .mv (.c (.p (.s (.bool false)))), none⟩]
abbrev r17_1 : List CO := [
  ⟨some 12, .load true 2 (.t 4), none⟩,
  ⟨some 13, .call (.c (.fn (.func 11) [] [])) [.t 12], none⟩,
  ⟨some 14, .bin .neq (.t 13) (.c (.p (.s (.int .i64 0)))), none⟩]
abbrev r17_2 : List CO := [
  ⟨some 15, .load true 2 (.t 4), none⟩,
  ⟨none, .store 2 (.t 8) (.t 15), none⟩,
  ⟨some 9, .mv (.c (.p (.s (.bool false)))), none⟩]
abbrev r17_3 : List CO := [
  ⟨some 10, .mv (.c (.p (.s (.int .i64 0)))), none⟩]
abbrev r17_4 : List CO := [
  ⟨some 16, .mv (.t 2), none⟩,
  ⟨some 17, .mv (.t 16), none⟩,
  ⟨some 18, .faddr 1 (.t 4), some (17, true)⟩,
  ⟨some 19, .load false 1 (.t 18), some (17, true)⟩,
  ⟨some 20, .faddr 0 (.t 4), some (17, true)⟩,
  ⟨some 21, .load false 1 (.t 20), some (17, true)⟩,
  ⟨some 22, .len (.t 21), some (17, true)⟩,
  ⟨some 23, .bin .lss (.t 19) (.t 22), some (17, true)⟩,
  ⟨some 24, .pick (.t 17) (.t 23) (.c (.p (.s (.bool false)))), none⟩]
abbrev r17_5 : List CO := [
  ⟨some 10, .mv (.c (.p (.s (.int .i64 1)))), none⟩]
abbrev r17_6 : List CO := [
  ⟨some 25, .faddr 0 (.t 4), none⟩,
  ⟨some 26, .load false 1 (.t 25), none⟩,
  ⟨some 27, .len (.t 26), none⟩,
  ⟨some 28, .mv (.t 1), none⟩,
  ⟨some 29, .minmax false (.t 28) (.c (.p (.s (.int .i64 4096)))), none⟩,
  ⟨some 30, .bin .geq (.t 27) (.t 29), none⟩]
abbrev r17_7 : List CO := [
  ⟨some 31, .load true 2 (.t 4), none⟩,
  ⟨none, .store 2 (.t 8) (.t 31), none⟩,
  ⟨some 9, .mv (.c (.p (.s (.bool false)))), none⟩]
abbrev r17_8 : List CO := [
  ⟨some 32, .faddr 0 (.t 4), none⟩,
  ⟨some 33, .load false 1 (.t 32), none⟩,
  ⟨some 34, .faddr 1 (.t 4), none⟩,
  ⟨some 35, .load false 1 (.t 34), none⟩,
  ⟨some 36, .slice 1 (.t 33) none (some (.t 35)), none⟩,
  ⟨some 37, .call (.c (.fn (.func 27) [] [])) [.t 36], none⟩,
  ⟨some 38, .mv (.t 3), none⟩,
  ⟨some 39, .bslice 1 1 ([.s (.int .u8 0)]) [(0, .t 38)], none⟩,
  ⟨some 40, .append 1 1 ([.s (.int .u8 0)]) (.t 37) (.t 39), none⟩,
  ⟨some 11, .mv (.t 40), none⟩]
abbrev r17_9 : List CO := [
  ⟨some 41, .mv (.t 11), none⟩,
  ⟨some 42, .faddr 0 (.t 4), none⟩,
  ⟨some 43, .load false 1 (.t 42), none⟩,
  ⟨some 44, .faddr 1 (.t 4), none⟩,
  ⟨some 45, .load false 1 (.t 44), none⟩,
  ⟨some 46, .mv (.t 10), none⟩,
  ⟨some 47, .bin .add (.t 45) (.t 46), none⟩,
  ⟨some 48, .slice 1 (.t 43) (some (.t 47)) none, none⟩,
  ⟨some 49, .append 1 1 ([.s (.int .u8 0)]) (.t 41) (.t 48), none⟩,
  ⟨some 50, .faddr 1 (.t 4), none⟩,
  ⟨some 51, .load false 1 (.t 50), none⟩,
  ⟨some 52, .bin .add (.t 51) (.c (.p (.s (.int .i64 1)))), none⟩,
  ⟨some 53, .build ([.s (.slice none 0 0), .s (.int .i64 0)]) [(0, 1, .t 49), (1, 1, .t 52)], none⟩,
  ⟨none, .store 2 (.t 8) (.t 53), none⟩,
  ⟨some 9, .mv (.c (.p (.s (.bool true)))), none⟩]
abbrev b17_9 : List (List Nat) := [[], [], [1], [], [3], [], [4, 5], [2, 6], [0, 7], [], [9], [10], [8, 11], [12, 8, 0, 1, 2, 3, 4, 5, 6, 7, 8, 9, 10, 11, 12], [13, 0, 1, 2, 3, 4, 5, 6, 7, 8, 9, 10, 11, 12, 13]]
abbrev c17 : CC := .seq (.reg r17_0) (.seq (.seq (.reg r17_1) (.cond (.t 14) (.seq (.reg r17_2) (.ret)) (.skip))) (.rest [1, 2, 3, 4, 8] (.seq (.reg r17_3) (.seq (.seq (.reg r17_4) (.rest [1, 3, 4, 8, 10, 24] (.cond (.t 24) (.reg r17_5) (.seq (.reg r17_6) (.rest [3, 4, 8, 10, 30] (.cond (.t 30) (.seq (.reg r17_7) (.ret)) (.skip))))))) (.rest [3, 4, 8, 10] (.seq (.reg r17_8) (.rest [4, 8, 10, 11] (.seq (.regd r17_9 b17_9) (.rest [8, 9] (.ret))))))))))
theorem F17 : Fun Tryd.prog 17 54 c17 [.cell 8 true 2, .tmp 9] 4 := ⟨⟨Tryd.f17, _, Tryd.func17, rfl, by kernel_rfl, Tryd.ntmps17, by kernel_rfl, by kernel_rfl⟩, by decide⟩

/-- linnet/linnetlaw12.blank -/
abbrev r18_0 : List CO := [
  ⟨some 2, .mv (.c (.p (.s (.bool false)))), none⟩]
abbrev r18_1 : List CO := [
  ⟨some 3, .mv (.t 0), none⟩,
  ⟨some 4, .bin .eql (.t 3) (.c (.p (.s (.int .u8 32)))), none⟩,
  ⟨some 5, .mv (.t 4), none⟩,
  ⟨some 6, .mv (.t 0), some (5, false)⟩,
  ⟨some 7, .bin .eql (.t 6) (.c (.p (.s (.int .u8 9)))), some (5, false)⟩,
  ⟨some 8, .pick (.t 5) (.c (.p (.s (.bool true)))) (.t 7), none⟩,
  ⟨some 2, .mv (.t 8), none⟩]
abbrev c18 : CC := .seq (.reg r18_0) (.seq (.reg r18_1) (.rest [2] (.ret)))
theorem F18 : Fun Tryd.prog 18 9 c18 [.tmp 2] 1 := ⟨⟨Tryd.f18, _, Tryd.func18, rfl, by kernel_rfl, Tryd.ntmps18, by kernel_rfl, by kernel_rfl⟩, by decide⟩

/-- linnet/linnetref12.May -/
abbrev r19_0 : List CO := [
  ⟨some 1, .box (.t 0), none⟩,
  ⟨some 2, .mv (.c (.p (.s (.bool false)))), none⟩]
abbrev r19_1 : List CO := [
  ⟨some 3, .faddr 0 (.t 1), none⟩,
  ⟨some 4, .load false 1 (.t 3), none⟩,
  ⟨some 5, .len (.t 4), none⟩,
  ⟨some 6, .bin .leq (.t 5) (.c (.p (.s (.int .i64 4096)))), none⟩,
  ⟨some 7, .mv (.t 6), none⟩,
  ⟨some 8, .faddr 1 (.t 1), some (7, true)⟩,
  ⟨some 9, .load false 1 (.t 8), some (7, true)⟩,
  ⟨some 10, .bin .geq (.t 9) (.c (.p (.s (.int .i64 0)))), some (7, true)⟩,
  ⟨some 11, .pick (.t 7) (.t 10) (.c (.p (.s (.bool false)))), none⟩,
  ⟨some 12, .mv (.t 11), none⟩,
  ⟨some 13, .faddr 1 (.t 1), some (12, true)⟩,
  ⟨some 14, .load false 1 (.t 13), some (12, true)⟩,
  ⟨some 15, .faddr 0 (.t 1), some (12, true)⟩,
  ⟨some 16, .load false 1 (.t 15), some (12, true)⟩,
  ⟨some 17, .len (.t 16), some (12, true)⟩,
  ⟨some 18, .bin .leq (.t 14) (.t 17), some (12, true)⟩,
  ⟨some 19, .pick (.t 12) (.t 18) (.c (.p (.s (.bool false)))), none⟩,
  ⟨some 2, .mv (.t 19), none⟩]
abbrev c19 : CC := .seq (.reg r19_0) (.seq (.reg r19_1) (.rest [2] (.ret)))
theorem F19 : Fun Tryd.prog 19 20 c19 [.tmp 2] 1 := ⟨⟨Tryd.f19, _, Tryd.func19, rfl, by kernel_rfl, Tryd.ntmps19, by kernel_rfl, by kernel_rfl⟩, by decide⟩

/-- linnet/line.Same -/
abbrev r20_0 : List CO := [
  ⟨some 2, .box (.t 0), none⟩,
  ⟨some 3, .box (.t 1), none⟩,
  ⟨some 4, .mv (.c (.p (.s (.bool false)))), none⟩]
abbrev r20_1 : List CO := [
  ⟨some 5, .faddr 1 (.t 2), none⟩,
  ⟨some 6, .load false 1 (.t 5), none⟩,
  ⟨some 7, .faddr 1 (.t 3), none⟩,
  ⟨some 8, .load false 1 (.t 7), none⟩,
  ⟨some 9, .bin .eql (.t 6) (.t 8), none⟩,
  ⟨some 10, .mv (.t 9), none⟩,
  ⟨some 11, .faddr 0 (.t 2), some (10, true)⟩,
  ⟨some 12, .load false 1 (.t 11), some (10, true)⟩,
  ⟨some 13, .faddr 0 (.t 3), some (10, true)⟩,
  ⟨some 14, .load false 1 (.t 13), some (10, true)⟩,
  ⟨some 15, .call (.c (.fn (.func 30) [] [])) [.t 12, .t 14], some (10, true)⟩,
  ⟨some 16, .pick (.t 10) (.t 15) (.c (.p (.s (.bool false)))), none⟩,
  ⟨some 4, .mv (.t 16), none⟩]
abbrev c20 : CC := .seq (.reg r20_0) (.seq (.reg r20_1) (.rest [4] (.ret)))
theorem F20 : Fun Tryd.prog 20 17 c20 [.tmp 4] 2 := ⟨⟨Tryd.f20, _, Tryd.func20, rfl, by kernel_rfl, Tryd.ntmps20, by kernel_rfl, by kernel_rfl⟩, by decide⟩

/-- linnet/linnetref12.Type -/
abbrev r21_0 : List CO := [
  ⟨some 4, .box (.t 0), none⟩,
  ⟨some 8, .alloc ([.s (.slice none 0 0), .s (.int .i64 0)]), none⟩,
  ⟨some 9, .mv (.c (.p (.s (.bool false)))), none⟩]
abbrev r21_1 : List CO := [
  ⟨some 12, .faddr 0 (.t 4), none⟩,
  ⟨some 13, .load false 1 (.t 12), none⟩,
  ⟨some 14, .faddr 1 (.t 4), none⟩,
  ⟨some 15, .load false 1 (.t 14), none⟩,
  ⟨some 16, .slice 1 (.t 13) none (some (.t 15)), none⟩,
  ⟨some 17, .faddr 0 (.t 4), none⟩,
  ⟨some 18, .load false 1 (.t 17), none⟩,
  ⟨some 19, .faddr 1 (.t 4), none⟩,
  ⟨some 20, .load false 1 (.t 19), none⟩,
  ⟨some 21, .slice 1 (.t 18) (some (.t 20)) none, none⟩,
  ⟨some 10, .mv (.t 16), none⟩,
  ⟨some 11, .mv (.t 21), none⟩]
abbrev b21_1 : List (List Nat) := [[], [0], [], [2], [1, 3], [], [5], [], [7], [6, 8], [4, 0, 1, 2, 3, 4], [9, 10, 0, 1, 2, 3, 4, 5, 6, 7, 8, 9, 10]]
abbrev r21_2 : List CO := [
  ⟨some 22, .mv (.t 2), none⟩,
  ⟨some 23, .mv (.t 22), none⟩,
  ⟨some 24, .mv (.t 11), some (23, true)⟩,
  ⟨some 25, .len (.t 24), some (23, true)⟩,
  ⟨some 26, .bin .gtr (.t 25) (.c (.p (.s (.int .i64 0)))), some (23, true)⟩,
  ⟨some 27, .pick (.t 23) (.t 26) (.c (.p (.s (.bool false)))), none⟩]
abbrev r21_3 : List CO := [
  ⟨some 28, .bslice 1 0 ([.s (.int .u8 0)]) [], none⟩,
  ⟨some 29, .mv (.t 10), none⟩,
  ⟨some 30, .append 1 1 ([.s (.int .u8 0)]) (.t 28) (.t 29), none⟩,
  ⟨some 31, .mv (.t 3), none⟩,
  ⟨some 32, .bslice 1 1 ([.s (.int .u8 0)]) [(0, .t 31)], none⟩,
  ⟨some 33, .append 1 1 ([.s (.int .u8 0)]) (.t 30) (.t 32), none⟩,
  ⟨some 34, .mv (.t 11), none⟩,
  ⟨some 35, .slice 1 (.t 34) (some (.c (.p (.s (.int .i64 1))))) none, none⟩,
  ⟨some 36, .call (.c (.fn (.func 31) [] [])) [.t 33, .t 35], none⟩,
  ⟨none, .store 2 (.t 8) (.t 36), none⟩,
  ⟨some 9, .mv (.c (.p (.s (.bool true)))), none⟩]
abbrev b21_3 : List (List Nat) := [[], [], [0, 1], [], [3], [2, 4, 2], [], [6], [5, 7, 5], [8, 8, 0, 1, 2, 3, 4, 5, 6, 7, 8], [9, 0, 1, 2, 3, 4, 5, 6, 7, 8, 9]]
abbrev r21_4 : List CO := [
  ⟨some 37, .faddr 0 (.t 4), none⟩,
  ⟨some 38, .load false 1 (.t 37), none⟩,
  ⟨some 39, .len (.t 38), none⟩,
  ⟨some 40, .mv (.t 1), none⟩,
  ⟨some 41, .bin .geq (.t 39) (.t 40), none⟩,
  ⟨some 42, .mv (.t 41), none⟩,
  ⟨some 43, .faddr 0 (.t 4), some (42, false)⟩,
  ⟨some 44, .load false 1 (.t 43), some (42, false)⟩,
  ⟨some 45, .len (.t 44), some (42, false)⟩,
  ⟨some 46, .bin .geq (.t 45) (.c (.p (.s (.int .i64 4096)))), some (42, false)⟩,
  ⟨some 47, .pick (.t 42) (.c (.p (.s (.bool true)))) (.t 46), none⟩]
abbrev r21_5 : List CO := [
  ⟨some 48, .load true 2 (.t 4), none⟩,
  ⟨none, .store 2 (.t 8) (.t 48), none⟩,
  ⟨some 9, .mv (.c (.p (.s (.bool false)))), none⟩]
abbrev r21_6 : List CO := [
  ⟨some 49, .bslice 1 0 ([.s (.int .u8 0)]) [], none⟩,
  ⟨some 50, .mv (.t 10), none⟩,
  ⟨some 51, .append 1 1 ([.s (.int .u8 0)]) (.t 49) (.t 50), none⟩,
  ⟨some 52, .mv (.t 3), none⟩,
  ⟨some 53, .bslice 1 1 ([.s (.int .u8 0)]) [(0, .t 52)], none⟩,
  ⟨some 54, .append 1 1 ([.s (.int .u8 0)]) (.t 51) (.t 53), none⟩,
  ⟨some 55, .mv (.t 11), none⟩,
  ⟨some 56, .call (.c (.fn (.func 31) [] [])) [.t 54, .t 55], none⟩,
  ⟨none, .store 2 (.t 8) (.t 56), none⟩,
  ⟨some 9, .mv (.c (.p (.s (.bool true)))), none⟩]
abbrev c21 : CC := .seq (.reg r21_0) (.seq (.regd r21_1 b21_1) (.rest [1, 2, 3, 4, 8, 10, 11] (.seq (.seq (.reg r21_2) (.rest [1, 3, 4, 8, 10, 11, 27] (.cond (.t 27) (.seq (.regd r21_3 b21_3) (.rest [8, 9] (.ret))) (.skip)))) (.rest [1, 3, 4, 8, 10, 11] (.seq (.seq (.reg r21_4) (.rest [3, 4, 8, 10, 11, 47] (.cond (.t 47) (.seq (.reg r21_5) (.ret)) (.skip)))) (.rest [3, 8, 10, 11] (.seq (.reg r21_6) (.rest [8, 9] (.ret)))))))))
theorem F21 : Fun Tryd.prog 21 57 c21 [.cell 8 true 2, .tmp 9] 4 := ⟨⟨Tryd.f21, _, Tryd.func21, rfl, by kernel_rfl, Tryd.ntmps21, by kernel_rfl, by kernel_rfl⟩, by decide⟩

/-- linnet/linnetref12.Do -/
abbrev r22_0 : List CO := [
  ⟨some 2, .box (.t 0), none⟩,
  ⟨some 4, .alloc ([.s (.slice none 0 0), .s (.int .i64 0)]), none⟩,
  ⟨some 5, .mv (.c (.p (.s (.bool false)))), none⟩]
abbrev r22_1 : List CO := [
  ⟨some 8, .faddr 0 (.t 2), none⟩,
  ⟨some 9, .load false 1 (.t 8), none⟩,
  ⟨some 10, .faddr 1 (.t 2), none⟩,
  ⟨some 11, .load false 1 (.t 10), none⟩,
  ⟨some 12, .slice 1 (.t 9) none (some (.t 11)), none⟩,
  ⟨some 13, .faddr 0 (.t 2), none⟩,
  ⟨some 14, .load false 1 (.t 13), none⟩,
  ⟨some 15, .faddr 1 (.t 2), none⟩,
  ⟨some 16, .load false 1 (.t 15), none⟩,
  ⟨some 17, .slice 1 (.t 14) (some (.t 16)) none, none⟩,
  ⟨some 6, .mv (.t 12), none⟩,
  ⟨some 7, .mv (.t 17), none⟩]
abbrev b22_1 : List (List Nat) := [[], [0], [], [2], [1, 3], [], [5], [], [7], [6, 8], [4, 0, 1, 2, 3, 4], [9, 10, 0, 1, 2, 3, 4, 5, 6, 7, 8, 9, 10]]
abbrev r22_2 : List CO := [
  ⟨some 18, .mv (.t 1), none⟩]
abbrev r22_3 : List CO := [
  ⟨some 20, .bin .eql (.t 18) (.c (.p (.s (.int .i64 10)))), none⟩,
  ⟨some 19, .mv (.t 20), none⟩]
abbrev r22_4 : List CO := [
  ⟨some 21, .mv (.t 6), none⟩,
  ⟨some 22, .mv (.t 6), none⟩,
  ⟨some 23, .len (.t 22), none⟩,
  ⟨some 24, .bin .sub (.t 23) (.c (.p (.s (.int .i64 1)))), none⟩,
  ⟨some 25, .minmax true (.t 24) (.c (.p (.s (.int .i64 0)))), none⟩,
  ⟨some 26, .slice 1 (.t 21) none (some (.t 25)), none⟩,
  ⟨some 27, .mv (.t 7), none⟩,
  ⟨some 28, .call (.c (.fn (.func 31) [] [])) [.t 26, .t 27], none⟩,
  ⟨none, .store 2 (.t 4) (.t 28), none⟩,
  ⟨some 5, .mv (.c (.p (.s (.bool true)))), none⟩]
abbrev r22_5 : List CO := [
  ⟨some 30, .bin .eql (.t 18) (.c (.p (.s (.int .i64 11)))), none⟩,
  ⟨some 29, .mv (.t 30), none⟩]
abbrev r22_6 : List CO := [
  ⟨some 31, .build ([.s (.slice none 0 0), .s (.int .i64 0)]) [], none⟩,
  ⟨none, .store 2 (.t 4) (.t 31), none⟩,
  ⟨some 5, .mv (.c (.p (.s (.bool true)))), none⟩]
abbrev r22_7 : List CO := [
  ⟨some 33, .bin .eql (.t 18) (.c (.p (.s (.int .i64 12)))), none⟩,
  ⟨some 32, .mv (.t 33), none⟩]
abbrev r22_8 : List CO := [
  ⟨some 34, .mv (.t 6), none⟩,
  ⟨some 35, .load true 2 (.t 2), none⟩,
  ⟨some 36, .call (.c (.fn (.func 24) [] [])) [.t 35], none⟩,
  ⟨some 37, .slice 1 (.t 34) none (some (.t 36)), none⟩,
  ⟨some 38, .mv (.t 7), none⟩,
  ⟨some 39, .call (.c (.fn (.func 31) [] [])) [.t 37, .t 38], none⟩,
  ⟨none, .store 2 (.t 4) (.t 39), none⟩,
  ⟨some 5, .mv (.c (.p (.s (.bool true)))), none⟩]
abbrev r22_9 : List CO := [
  ⟨some 41, .bin .eql (.t 18) (.c (.p (.s (.int .i64 19)))), none⟩,
  ⟨some 40, .mv (.t 41), none⟩]
abbrev r22_10 : List CO := [
  ⟨some 42, .faddr 0 (.t 2), none⟩,
  ⟨some 43, .load false 1 (.t 42), none⟩,
  ⟨some 44, .faddr 1 (.t 2), none⟩,
  ⟨some 45, .load false 1 (.t 44), none⟩,
  ⟨some 46, .bin .sub (.t 45) (.c (.p (.s (.int .i64 1)))), none⟩,
  ⟨some 47, .minmax true (.t 46) (.c (.p (.s (.int .i64 0)))), none⟩,
  ⟨some 48, .build ([.s (.slice none 0 0), .s (.int .i64 0)]) [(0, 1, .t 43), (1, 1, .t 47)], none⟩,
  ⟨none, .store 2 (.t 4) (.t 48), none⟩,
  ⟨some 5, .mv (.c (.p (.s (.bool true)))), none⟩]
abbrev r22_11 : List CO := [
  ⟨some 50, .bin .eql (.t 18) (.c (.p (.s (.int .i64 20)))), none⟩,
  ⟨some 49, .mv (.t 50), none⟩]
abbrev r22_12 : List CO := [
  ⟨some 51, .faddr 0 (.t 2), none⟩,
  ⟨some 52, .load false 1 (.t 51), none⟩,
  ⟨some 53, .faddr 1 (.t 2), none⟩,
  ⟨some 54, .load false 1 (.t 53), none⟩,
  ⟨some 55, .bin .add (.t 54) (.c (.p (.s (.int .i64 1)))), none⟩,
  ⟨some 56, .faddr 0 (.t 2), none⟩,
  ⟨some 57, .load false 1 (.t 56), none⟩,
  ⟨some 58, .len (.t 57), none⟩,
  ⟨some 59, .minmax false (.t 55) (.t 58), none⟩,
  ⟨some 60, .build ([.s (.slice none 0 0), .s (.int .i64 0)]) [(0, 1, .t 52), (1, 1, .t 59)], none⟩,
  ⟨none, .store 2 (.t 4) (.t 60), none⟩,
  ⟨some 5, .mv (.c (.p (.s (.bool true)))), none⟩]
abbrev r22_13 : List CO := [
  ⟨some 62, .bin .eql (.t 18) (.c (.p (.s (.int .i64 21)))), none⟩,
  ⟨some 61, .mv (.t 62), none⟩]
abbrev r22_14 : List CO := [
  ⟨some 63, .faddr 0 (.t 2), none⟩,
  ⟨some 64, .load false 1 (.t 63), none⟩,
  ⟨some 65, .load true 2 (.t 2), none⟩,
  ⟨some 66, .call (.c (.fn (.func 24) [] [])) [.t 65], none⟩,
  ⟨some 67, .build ([.s (.slice none 0 0), .s (.int .i64 0)]) [(0, 1, .t 64), (1, 1, .t 66)], none⟩,
  ⟨none, .store 2 (.t 4) (.t 67), none⟩,
  ⟨some 5, .mv (.c (.p (.s (.bool true)))), none⟩]
abbrev b22_14 : List (List Nat) := [[], [0], [], [2], [1, 3], [4, 3, 0, 1, 2, 3, 4], [5, 0, 1, 2, 3, 4, 5]]
abbrev r22_15 : List CO := [
  ⟨some 69, .bin .eql (.t 18) (.c (.p (.s (.int .i64 22)))), none⟩,
  ⟨some 68, .mv (.t 69), none⟩]
abbrev r22_16 : List CO := [
  ⟨some 70, .faddr 0 (.t 2), none⟩,
  ⟨some 71, .load false 1 (.t 70), none⟩,
  ⟨some 72, .load true 2 (.t 2), none⟩,
  ⟨some 73, .call (.c (.fn (.func 25) [] [])) [.t 72], none⟩,
  ⟨some 74, .build ([.s (.slice none 0 0), .s (.int .i64 0)]) [(0, 1, .t 71), (1, 1, .t 73)], none⟩,
  ⟨none, .store 2 (.t 4) (.t 74), none⟩,
  ⟨some 5, .mv (.c (.p (.s (.bool true)))), none⟩]
abbrev b22_16 : List (List Nat) := [[], [0], [], [2], [1, 3], [4, 3, 0, 1, 2, 3, 4], [5, 0, 1, 2, 3, 4, 5]]
abbrev r22_17 : List CO := [
  ⟨some 76, .bin .eql (.t 18) (.c (.p (.s (.int .i64 23)))), none⟩,
  ⟨some 75, .mv (.t 76), none⟩]
abbrev r22_18 : List CO := [
  ⟨some 77, .faddr 0 (.t 2), none⟩,
  ⟨some 78, .load false 1 (.t 77), none⟩,
  ⟨some 79, .build ([.s (.slice none 0 0), .s (.int .i64 0)]) [(0, 1, .t 78)], none⟩,
  ⟨none, .store 2 (.t 4) (.t 79), none⟩,
  ⟨some 5, .mv (.c (.p (.s (.bool true)))), none⟩]
abbrev r22_19 : List CO := [
  ⟨some 81, .bin .eql (.t 18) (.c (.p (.s (.int .i64 24)))), none⟩,
  ⟨some 80, .mv (.t 81), none⟩]
abbrev r22_20 : List CO := [
  ⟨some 82, .faddr 0 (.t 2), none⟩,
  ⟨some 83, .load false 1 (.t 82), none⟩,
  ⟨some 84, .faddr 0 (.t 2), none⟩,
  ⟨some 85, .load false 1 (.t 84), none⟩,
  ⟨some 86, .len (.t 85), none⟩,
  ⟨some 87, .build ([.s (.slice none 0 0), .s (.int .i64 0)]) [(0, 1, .t 83), (1, 1, .t 86)], none⟩,
  ⟨none, .store 2 (.t 4) (.t 87), none⟩,
  ⟨some 5, .mv (.c (.p (.s (.bool true)))), none⟩]
abbrev r22_21 : List CO := [
  ⟨some 89, .bin .eql (.t 18) (.c (.p (.s (.int .i64 27)))), none⟩,
  ⟨some 88, .mv (.t 89), none⟩]
abbrev r22_22 : List CO := [
  ⟨some 90, .mv (.t 6), none⟩,
  ⟨some 91, .mv (.t 7), none⟩,
  ⟨some 92, .mv (.t 7), none⟩,
  ⟨some 93, .len (.t 92), none⟩,
  ⟨some 94, .minmax false (.c (.p (.s (.int .i64 1)))) (.t 93), none⟩,
  ⟨some 95, .slice 1 (.t 91) (some (.t 94)) none, none⟩,
  ⟨some 96, .call (.c (.fn (.func 31) [] [])) [.t 90, .t 95], none⟩,
  ⟨none, .store 2 (.t 4) (.t 96), none⟩,
  ⟨some 5, .mv (.c (.p (.s (.bool true)))), none⟩]
abbrev r22_23 : List CO := [
  ⟨some 98, .bin .eql (.t 18) (.c (.p (.s (.int .i64 28)))), none⟩,
  ⟨some 97, .mv (.t 98), none⟩]
abbrev r22_24 : List CO := [
  ⟨some 99, .mv (.t 6), none⟩,
  ⟨some 100, .faddr 0 (.t 2), none⟩,
  ⟨some 101, .load false 1 (.t 100), none⟩,
  ⟨some 102, .load true 2 (.t 2), none⟩,
  ⟨some 103, .call (.c (.fn (.func 25) [] [])) [.t 102], none⟩,
  ⟨some 104, .slice 1 (.t 101) (some (.t 103)) none, none⟩,
  ⟨some 105, .call (.c (.fn (.func 31) [] [])) [.t 99, .t 104], none⟩,
  ⟨none, .store 2 (.t 4) (.t 105), none⟩,
  ⟨some 5, .mv (.c (.p (.s (.bool true)))), none⟩]
abbrev b22_24 : List (List Nat) := [[], [], [1], [], [3], [2, 4], [0, 5, 4], [6, 6, 0, 1, 2, 3, 4, 5, 6], [7, 0, 1, 2, 3, 4, 5, 6, 7]]
abbrev r22_25 : List CO := [
  ⟨some 107, .bin .eql (.t 18) (.c (.p (.s (.int .i64 29)))), none⟩,
  ⟨some 106, .mv (.t 107), none⟩]
abbrev r22_26 : List CO := [
  ⟨some 108, .mv (.t 7), none⟩,
  ⟨some 109, .call (.c (.fn (.func 31) [] [])) [.c (.p (.s (.slice none 0 0))), .t 108], none⟩,
  ⟨none, .store 2 (.t 4) (.t 109), none⟩,
  ⟨some 5, .mv (.c (.p (.s (.bool true)))), none⟩]
abbrev r22_27 : List CO := [
  ⟨some 111, .bin .eql (.t 18) (.c (.p (.s (.int .i64 30)))), none⟩,
  ⟨some 110, .mv (.t 111), none⟩]
abbrev r22_28 : List CO := [
  ⟨some 112, .mv (.t 6), none⟩,
  ⟨some 113, .call (.c (.fn (.func 31) [] [])) [.t 112, .c (.p (.s (.slice none 0 0)))], none⟩,
  ⟨none, .store 2 (.t 4) (.t 113), none⟩,
  ⟨some 5, .mv (.c (.p (.s (.bool true)))), none⟩]
abbrev k22_0 : CC := .seq (.reg r22_3) (.cond (.t 19) (.seq (.reg r22_4) (.rest [4, 5] (.ret))) (.seq (.reg r22_5) (.cond (.t 29) (.seq (.reg r22_6) (.ret)) (.seq (.reg r22_7) (.cond (.t 32) (.seq (.reg r22_8) (.rest [4, 5] (.ret))) (.seq (.reg r22_9) (.cond (.t 40) (.seq (.reg r22_10) (.rest [4, 5] (.ret))) (.seq (.reg r22_11) (.cond (.t 49) (.seq (.reg r22_12) (.rest [4, 5] (.ret))) (.seq (.reg r22_13) (.cond (.t 61) (.seq (.regd r22_14 b22_14) (.rest [4, 5] (.ret))) (.seq (.reg r22_15) (.cond (.t 68) (.seq (.regd r22_16 b22_16) (.rest [4, 5] (.ret))) (.seq (.reg r22_17) (.cond (.t 75) (.seq (.reg r22_18) (.rest [4, 5] (.ret))) (.seq (.reg r22_19) (.cond (.t 80) (.seq (.reg r22_20) (.rest [4, 5] (.ret))) (.seq (.reg r22_21) (.cond (.t 88) (.seq (.reg r22_22) (.rest [4, 5] (.ret))) (.seq (.reg r22_23) (.cond (.t 97) (.seq (.regd r22_24 b22_24) (.rest [4, 5] (.ret))) (.seq (.reg r22_25) (.cond (.t 106) (.seq (.reg r22_26) (.rest [4, 5] (.ret))) (.seq (.reg r22_27) (.cond (.t 110) (.seq (.reg r22_28) (.rest [4, 5] (.ret))) (.skip))))))))))))))))))))))))))
abbrev r22_29 : List CO := [
  ⟨some 114, .load true 2 (.t 2), none⟩,
  ⟨none, .store 2 (.t 4) (.t 114), none⟩,
  ⟨some 5, .mv (.c (.p (.s (.bool false)))), none⟩]
abbrev c22 : CC := .seq (.reg r22_0) (.seq (.regd r22_1 b22_1) (.rest [1, 2, 4, 6, 7] (.seq (.seq (.reg r22_2) (.block 0 k22_0)) (.rest [2, 4] (.seq (.reg r22_29) (.ret))))))
theorem F22 : Fun Tryd.prog 22 115 c22 [.cell 4 true 2, .tmp 5] 2 := ⟨⟨Tryd.f22, _, Tryd.func22, rfl, by kernel_rfl, Tryd.ntmps22, by kernel_rfl, by kernel_rfl⟩, by decide⟩

/-- linnet/linnetref12.Same -/
abbrev r23_0 : List CO := [
  ⟨some 2, .box (.t 0), none⟩,
  ⟨some 3, .box (.t 1), none⟩,
  ⟨some 4, .mv (.c (.p (.s (.bool false)))), none⟩]
abbrev r23_1 : List CO := [
  ⟨some 5, .faddr 1 (.t 2), none⟩,
  ⟨some 6, .load false 1 (.t 5), none⟩,
  ⟨some 7, .faddr 1 (.t 3), none⟩,
  ⟨some 8, .load false 1 (.t 7), none⟩,
  ⟨some 9, .bin .eql (.t 6) (.t 8), none⟩,
  ⟨some 10, .mv (.t 9), none⟩,
  ⟨some 11, .faddr 0 (.t 2), some (10, true)⟩,
  ⟨some 12, .load false 1 (.t 11), some (10, true)⟩,
  ⟨some 13, .toStr (.t 12), some (10, true)⟩,
  ⟨some 14, .faddr 0 (.t 3), some (10, true)⟩,
  ⟨some 15, .load false 1 (.t 14), some (10, true)⟩,
  ⟨some 16, .toStr (.t 15), some (10, true)⟩,
  ⟨some 17, .bin .eql (.t 13) (.t 16), some (10, true)⟩,
  ⟨some 18, .pick (.t 10) (.t 17) (.c (.p (.s (.bool false)))), none⟩,
  ⟨some 4, .mv (.t 18), none⟩]
abbrev c23 : CC := .seq (.reg r23_0) (.seq (.reg r23_1) (.rest [4] (.ret)))
theorem F23 : Fun Tryd.prog 23 19 c23 [.tmp 4] 2 := ⟨⟨Tryd.f23, _, Tryd.func23, rfl, by kernel_rfl, Tryd.ntmps23, by kernel_rfl, by kernel_rfl⟩, by decide⟩

/-- linnet/linnetref12.Back -/
abbrev r24_0 : List CO := [
  ⟨some 1, .box (.t 0), none⟩,
  ⟨some 2, .mv (.c (.p (.s (.int .i64 0)))), none⟩]
abbrev r24_1 : List CO := [
  ⟨some 4, .faddr 1 (.t 1), none⟩,
  ⟨some 5, .load false 1 (.t 4), none⟩,
  ⟨some 3, .mv (.t 5), none⟩]
abbrev r24_2 : List CO := [
  ⟨some 6, .mv (.t 3), none⟩,
  ⟨some 7, .bin .gtr (.t 6) (.c (.p (.s (.int .i64 0)))), none⟩,
  ⟨some 8, .mv (.t 7), none⟩,
  ⟨some 9, .faddr 0 (.t 1), some (8, true)⟩,
  ⟨some 10, .load false 1 (.t 9), some (8, true)⟩,
  ⟨some 11, .mv (.t 3), some (8, true)⟩,
  ⟨some 12, .bin .sub (.t 11) (.c (.p (.s (.int .i64 1)))), some (8, true)⟩,
  ⟨some 13, .iaddrS 1 (.t 10) (.t 12), some (8, true)⟩,
  ⟨some 14, .load false 1 (.t 13), some (8, true)⟩,
  ⟨some 15, .call (.c (.fn (.func 32) [] [])) [.t 14], some (8, true)⟩,
  ⟨some 16, .pick (.t 8) (.t 15) (.c (.p (.s (.bool false)))), none⟩]
abbrev r24_3 : List CO := [
  ⟨some 17, .mv (.t 3), none⟩,
  ⟨some 18, .bin .sub (.t 17) (.c (.p (.s (.int .i64 1)))), none⟩,
  ⟨some 3, .mv (.t 18), none⟩]
abbrev k24_1 : CC := .reg r24_3
abbrev l24_5 : CC := .seq (.seq (.reg r24_2) (.rest [1, 3, 16] (.cond (.t 16) (.skip) (.exit 0)))) (.rest [1, 3] (.block 1 k24_1))
abbrev k24_0 : CC := .loop l24_5
abbrev r24_4 : List CO := [
  ⟨some 19, .mv (.t 3), none⟩,
  ⟨some 20, .bin .gtr (.t 19) (.c (.p (.s (.int .i64 0)))), none⟩,
  ⟨some 21, .mv (.t 20), none⟩,
  ⟨some 22, .faddr 0 (.t 1), some (21, true)⟩,
  ⟨some 23, .load false 1 (.t 22), some (21, true)⟩,
  ⟨some 24, .mv (.t 3), some (21, true)⟩,
  ⟨some 25, .bin .sub (.t 24) (.c (.p (.s (.int .i64 1)))), some (21, true)⟩,
  ⟨some 26, .iaddrS 1 (.t 23) (.t 25), some (21, true)⟩,
  ⟨some 27, .load false 1 (.t 26), some (21, true)⟩,
  ⟨some 28, .call (.c (.fn (.func 32) [] [])) [.t 27], some (21, true)⟩,
  ⟨some 29, .un .not (.t 28), some (21, true)⟩,
  ⟨some 30, .pick (.t 21) (.t 29) (.c (.p (.s (.bool false)))), none⟩]
abbrev r24_5 : List CO := [
  ⟨some 31, .mv (.t 3), none⟩,
  ⟨some 32, .bin .sub (.t 31) (.c (.p (.s (.int .i64 1)))), none⟩,
  ⟨some 3, .mv (.t 32), none⟩]
abbrev k24_3 : CC := .reg r24_5
abbrev l24_10 : CC := .seq (.seq (.reg r24_4) (.rest [1, 3, 30] (.cond (.t 30) (.skip) (.exit 2)))) (.rest [1, 3] (.block 3 k24_3))
abbrev k24_2 : CC := .loop l24_10
abbrev r24_6 : List CO := [
  ⟨some 33, .mv (.t 3), none⟩,
  ⟨some 2, .mv (.t 33), none⟩]
abbrev c24 : CC := .seq (.reg r24_0) (.seq (.reg r24_1) (.seq (.block 0 k24_0) (.rest [1, 3] (.seq (.block 2 k24_2) (.rest [3] (.seq (.reg r24_6) (.ret)))))))
theorem F24 : Fun Tryd.prog 24 34 c24 [.tmp 2] 1 := ⟨⟨Tryd.f24, _, Tryd.func24, rfl, by kernel_rfl, Tryd.ntmps24, by kernel_rfl, by kernel_rfl⟩, by decide⟩

/-- linnet/linnetref12.On -/
abbrev r25_0 : List CO := [
  ⟨some 1, .box (.t 0), none⟩,
  ⟨some 2, .mv (.c (.p (.s (.int .i64 0)))), none⟩]
abbrev r25_1 : List CO := [
  ⟨some 4, .faddr 1 (.t 1), none⟩,
  ⟨some 5, .load false 1 (.t 4), none⟩,
  ⟨some 3, .mv (.t 5), none⟩]
abbrev r25_2 : List CO := [
  ⟨some 6, .mv (.t 3), none⟩,
  ⟨some 7, .faddr 0 (.t 1), none⟩,
  ⟨some 8, .load false 1 (.t 7), none⟩,
  ⟨some 9, .len (.t 8), none⟩,
  ⟨some 10, .bin .lss (.t 6) (.t 9), none⟩,
  ⟨some 11, .mv (.t 10), none⟩,
  ⟨some 12, .faddr 0 (.t 1), some (11, true)⟩,
  ⟨some 13, .load false 1 (.t 12), some (11, true)⟩,
  ⟨some 14, .mv (.t 3), some (11, true)⟩,
  ⟨some 15, .iaddrS 1 (.t 13) (.t 14), some (11, true)⟩,
  ⟨some 16, .load false 1 (.t 15), some (11, true)⟩,
  ⟨some 17, .call (.c (.fn (.func 32) [] [])) [.t 16], some (11, true)⟩,
  ⟨some 18, .un .not (.t 17), some (11, true)⟩,
  ⟨some 19, .pick (.t 11) (.t 18) (.c (.p (.s (.bool false)))), none⟩]
abbrev r25_3 : List CO := [
  ⟨some 20, .mv (.t 3), none⟩,
  ⟨some 21, .bin .add (.t 20) (.c (.p (.s (.int .i64 1)))), none⟩,
  ⟨some 3, .mv (.t 21), none⟩]
abbrev k25_1 : CC := .reg r25_3
abbrev l25_5 : CC := .seq (.seq (.reg r25_2) (.rest [1, 3, 19] (.cond (.t 19) (.skip) (.exit 0)))) (.rest [1, 3] (.block 1 k25_1))
abbrev k25_0 : CC := .loop l25_5
abbrev r25_4 : List CO := [
  ⟨some 22, .mv (.t 3), none⟩,
  ⟨some 23, .faddr 0 (.t 1), none⟩,
  ⟨some 24, .load false 1 (.t 23), none⟩,
  ⟨some 25, .len (.t 24), none⟩,
  ⟨some 26, .bin .lss (.t 22) (.t 25), none⟩,
  ⟨some 27, .mv (.t 26), none⟩,
  ⟨some 28, .faddr 0 (.t 1), some (27, true)⟩,
  ⟨some 29, .load false 1 (.t 28), some (27, true)⟩,
  ⟨some 30, .mv (.t 3), some (27, true)⟩,
  ⟨some 31, .iaddrS 1 (.t 29) (.t 30), some (27, true)⟩,
  ⟨some 32, .load false 1 (.t 31), some (27, true)⟩,
  ⟨some 33, .call (.c (.fn (.func 32) [] [])) [.t 32], some (27, true)⟩,
  ⟨some 34, .pick (.t 27) (.t 33) (.c (.p (.s (.bool false)))), none⟩]
abbrev r25_5 : List CO := [
  ⟨some 35, .mv (.t 3), none⟩,
  ⟨some 36, .bin .add (.t 35) (.c (.p (.s (.int .i64 1)))), none⟩,
  ⟨some 3, .mv (.t 36), none⟩]
abbrev k25_3 : CC := .reg r25_5
abbrev l25_10 : CC := .seq (.seq (.reg r25_4) (.rest [1, 3, 34] (.cond (.t 34) (.skip) (.exit 2)))) (.rest [1, 3] (.block 3 k25_3))
abbrev k25_2 : CC := .loop l25_10
abbrev r25_6 : List CO := [
  ⟨some 37, .mv (.t 3), none⟩,
  ⟨some 2, .mv (.t 37), none⟩]
abbrev c25 : CC := .seq (.reg r25_0) (.seq (.reg r25_1) (.seq (.block 0 k25_0) (.rest [1, 3] (.seq (.block 2 k25_2) (.rest [3] (.seq (.reg r25_6) (.ret)))))))
theorem F25 : Fun Tryd.prog 25 38 c25 [.tmp 2] 1 := ⟨⟨Tryd.f25, _, Tryd.func25, rfl, by kernel_rfl, Tryd.ntmps25, by kernel_rfl, by kernel_rfl⟩, by decide⟩

/-- bytes.Clone -/
abbrev r27_0 : List CO := [
  ⟨some 2, .mv (.c (.p (.s (.slice none 0 0)))), none⟩]
abbrev r27_1 : List CO := [
  ⟨some 3, .mv (.t 0), none⟩,
  ⟨some 4, .isnil false (.t 3), none⟩]
abbrev r27_2 : List CO := [
  ⟨some 2, .mv (.c (.p (.s (.slice none 0 0)))), none⟩]
abbrev r27_3 : List CO := [
  ⟨some 5, .bslice 1 0 ([.s (.int .u8 0)]) [], none⟩,
  ⟨some 6, .mv (.t 0), none⟩,
  ⟨some 7, .append 1 1 ([.s (.int .u8 0)]) (.t 5) (.t 6), none⟩,
  ⟨some 2, .mv (.t 7), none⟩]
abbrev c27 : CC := .seq (.reg r27_0) (.seq (.seq (.reg r27_1) (.cond (.t 4) (.seq (.reg r27_2) (.ret)) (.skip))) (.seq (.reg r27_3) (.rest [2] (.ret))))
theorem F27 : Fun Tryd.prog 27 8 c27 [.tmp 2] 1 := ⟨⟨Tryd.f27, _, Tryd.func27, rfl, by kernel_rfl, Tryd.ntmps27, by kernel_rfl, by kernel_rfl⟩, by decide⟩

/-- bytes.TrimRight -/
abbrev r28_0 : List CO := [
  ⟨some 4, .mv (.c (.p (.s (.slice none 0 0)))), none⟩]
abbrev r28_1 : List CO := [
  ⟨some 7, .mv (.t 0), none⟩,
  ⟨some 8, .len (.t 7), none⟩,
  ⟨some 9, .bin .eql (.t 8) (.c (.p (.s (.int .i64 0)))), none⟩,
  ⟨some 10, .mv (.t 9), none⟩,
  ⟨some 11, .mv (.t 1), some (10, false)⟩,
  ⟨some 12, .bin .eql (.t 11) (.c (.p (.s (.string { data := #[] })))), some (10, false)⟩,
  ⟨some 13, .pick (.t 10) (.c (.p (.s (.bool true)))) (.t 12), none⟩]
abbrev r28_2 : List CO := [
  ⟨some 14, .mv (.t 0), none⟩,
  ⟨some 4, .mv (.t 14), none⟩]
abbrev r28_3 : List CO := [
  ⟨some 15, .mv (.t 1), none⟩,
  ⟨some 16, .slen (.t 15), none⟩,
  ⟨some 17, .bin .eql (.t 16) (.c (.p (.s (.int .i64 1)))), none⟩,
  ⟨some 18, .mv (.t 17), none⟩,
  ⟨some 19, .mv (.t 1), some (18, true)⟩,
  ⟨some 20, .sindex (.t 19) (.c (.p (.s (.int .i64 0)))), some (18, true)⟩,
  ⟨some 21, .bin .lss (.t 20) (.c (.p (.s (.int .u8 128)))), some (18, true)⟩,
  ⟨some 22, .pick (.t 18) (.t 21) (.c (.p (.s (.bool false)))), none⟩]
abbrev r28_4 : List CO := [
  ⟨some 23, .mv (.t 0), none⟩,
  ⟨some 24, .mv (.t 1), none⟩,
  ⟨some 25, .sindex (.t 24) (.c (.p (.s (.int .i64 0)))), none⟩,
  ⟨some 26, .call (.c (.fn (.func 48) [] [])) [.t 23, .t 25], none⟩,
  ⟨some 4, .mv (.t 26), none⟩]
abbrev r28_5 : List CO := [
  ⟨some 28, .mv (.t 1), none⟩,
  ⟨some 29, .call (.c (.fn (.func 49) [] [])) [.t 28], none⟩,
  ⟨some 27, .mv (.t 29), none⟩,
  ⟨some 30, .extract 0 (.t 27), none⟩,
  ⟨some 31, .extract 1 (.t 27), none⟩,
  ⟨some 5, .alloc (List.replicate 256 (.s (.bool false))), none⟩,
  ⟨none, .store 256 (.t 5) (.t 30), none⟩,
  ⟨some 6, .mv (.t 31), none⟩]
abbrev r28_6 : List CO := [
  ⟨some 32, .mv (.t 6), none⟩]
abbrev r28_7 : List CO := [
  ⟨some 33, .mv (.t 0), none⟩,
  ⟨some 34, .call (.c (.fn (.func 50) [] [])) [.t 33, .t 5], none⟩,
  ⟨some 4, .mv (.t 34), none⟩]
abbrev r28_8 : List CO := [
  ⟨some 35, .mv (.t 0), none⟩,
  ⟨some 36, .mv (.t 1), none⟩,
  ⟨some 37, .call (.c (.fn (.func 51) [] [])) [.t 35, .t 36], none⟩,
  ⟨some 4, .mv (.t 37), none⟩]
abbrev c28 : CC := .seq (.reg r28_0) (.seq (.seq (.reg r28_1) (.rest [0, 1, 13] (.cond (.t 13) (.seq (.reg r28_2) (.ret)) (.skip)))) (.rest [0, 1] (.seq (.seq (.reg r28_3) (.rest [0, 1, 22] (.cond (.t 22) (.seq (.reg r28_4) (.rest [4] (.ret))) (.skip)))) (.rest [0, 1] (.seq (.seq (.reg r28_5) (.rest [0, 1, 5, 6] (.seq (.reg r28_6) (.cond (.t 32) (.seq (.reg r28_7) (.ret)) (.skip))))) (.rest [0, 1] (.seq (.reg r28_8) (.rest [4] (.ret)))))))))
theorem F28 : Fun Tryd.prog 28 38 c28 [.tmp 4] 2 := ⟨⟨Tryd.f28, _, Tryd.func28, rfl, by kernel_rfl, Tryd.ntmps28, by kernel_rfl, by kernel_rfl⟩, by decide⟩

/-- linnet/line.blank -/
abbrev r29_0 : List CO := [
  ⟨some 2, .mv (.c (.p (.s (.bool false)))), none⟩]
abbrev r29_1 : List CO := [
  ⟨some 3, .mv (.t 0), none⟩,
  ⟨some 4, .bin .eql (.t 3) (.c (.p (.s (.int .u8 32)))), none⟩,
  ⟨some 5, .mv (.t 4), none⟩,
  ⟨some 6, .mv (.t 0), some (5, false)⟩,
  ⟨some 7, .bin .eql (.t 6) (.c (.p (.s (.int .u8 9)))), some (5, false)⟩,
  ⟨some 8, .pick (.t 5) (.c (.p (.s (.bool true)))) (.t 7), none⟩,
  ⟨some 2, .mv (.t 8), none⟩]
abbrev c29 : CC := .seq (.reg r29_0) (.seq (.reg r29_1) (.rest [2] (.ret)))
theorem F29 : Fun Tryd.prog 29 9 c29 [.tmp 2] 1 := ⟨⟨Tryd.f29, _, Tryd.func29, rfl, by kernel_rfl, Tryd.ntmps29, by kernel_rfl, by kernel_rfl⟩, by decide⟩

/-- bytes.Equal -/
abbrev r30_0 : List CO := [
  ⟨some 4, .mv (.c (.p (.s (.bool false)))), none⟩]
abbrev r30_1 : List CO := [
  ⟨some 5, .mv (.t 0), none⟩,
  ⟨some 6, .toStr (.t 5), none⟩,
  ⟨some 7, .mv (.t 1), none⟩,
  ⟨some 8, .toStr (.t 7), none⟩,
  ⟨some 9, .bin .eql (.t 6) (.t 8), none⟩,
  ⟨some 4, .mv (.t 9), none⟩]
abbrev c30 : CC := .seq (.reg r30_0) (.seq (.reg r30_1) (.rest [4] (.ret)))
theorem F30 : Fun Tryd.prog 30 10 c30 [.tmp 4] 2 := ⟨⟨Tryd.f30, _, Tryd.func30, rfl, by kernel_rfl, Tryd.ntmps30, by kernel_rfl, by kernel_rfl⟩, by decide⟩

/-- linnet/linnetref12.of -/
abbrev r31_0 : List CO := [
  ⟨some 4, .alloc ([.s (.slice none 0 0), .s (.int .i64 0)]), none⟩]
abbrev r31_1 : List CO := [
  ⟨some 5, .bslice 1 0 ([.s (.int .u8 0)]) [], none⟩,
  ⟨some 6, .mv (.t 0), none⟩,
  ⟨some 7, .append 1 1 ([.s (.int .u8 0)]) (.t 5) (.t 6), none⟩,
  ⟨some 8, .mv (.t 1), none⟩,
  ⟨some 9, .append 1 1 ([.s (.int .u8 0)]) (.t 7) (.t 8), none⟩,
  ⟨some 10, .mv (.t 0), none⟩,
  ⟨some 11, .len (.t 10), none⟩,
  ⟨some 12, .build ([.s (.slice none 0 0), .s (.int .i64 0)]) [(0, 1, .t 9), (1, 1, .t 11)], none⟩,
  ⟨none, .store 2 (.t 4) (.t 12), none⟩]
abbrev c31 : CC := .seq (.reg r31_0) (.seq (.reg r31_1) (.rest [4] (.ret)))
theorem F31 : Fun Tryd.prog 31 13 c31 [.cell 4 true 2] 2 := ⟨⟨Tryd.f31, _, Tryd.func31, rfl, by kernel_rfl, Tryd.ntmps31, by kernel_rfl, by kernel_rfl⟩, by decide⟩

/-- linnet/linnetref12.blank -/
abbrev r32_0 : List CO := [
  ⟨some 2, .mv (.c (.p (.s (.bool false)))), none⟩]
abbrev r32_1 : List CO := [
  ⟨some 3, .mv (.t 0), none⟩,
  ⟨some 4, .bin .eql (.t 3) (.c (.p (.s (.int .u8 32)))), none⟩,
  ⟨some 5, .mv (.t 4), none⟩,
  ⟨some 6, .mv (.t 0), some (5, false)⟩,
  ⟨some 7, .bin .eql (.t 6) (.c (.p (.s (.int .u8 9)))), some (5, false)⟩,
  ⟨some 8, .pick (.t 5) (.c (.p (.s (.bool true)))) (.t 7), none⟩,
  ⟨some 2, .mv (.t 8), none⟩]
abbrev c32 : CC := .seq (.reg r32_0) (.seq (.reg r32_1) (.rest [2] (.ret)))
theorem F32 : Fun Tryd.prog 32 9 c32 [.tmp 2] 1 := ⟨⟨Tryd.f32, _, Tryd.func32, rfl, by kernel_rfl, Tryd.ntmps32, by kernel_rfl, by kernel_rfl⟩, by decide⟩

/-- linnet/line.does$1 -/
abbrev r33_0 : List CO := [
  ⟨some 1, .box (.t 0), none⟩,
  ⟨some 2, .alloc ([.s (.slice none 0 0), .s (.int .i64 0)]), none⟩]
abbrev r33_1 : List CO := [
  ⟨some 3, .load true 2 (.t 1), none⟩,
  ⟨some 4, .faddr 1 (.t 1), none⟩,
  ⟨some 5, .load false 1 (.t 4), none⟩,
  ⟨some 6, .bin .sub (.t 5) (.c (.p (.s (.int .i64 1)))), none⟩,
  ⟨some 7, .minmax true (.t 6) (.c (.p (.s (.int .i64 0)))), none⟩,
  ⟨some 8, .faddr 1 (.t 1), none⟩,
  ⟨some 9, .load false 1 (.t 8), none⟩,
  ⟨some 10, .call (.c (.fn (.func 34) [] [])) [.t 3, .t 7, .t 9], none⟩,
  ⟨none, .store 2 (.t 2) (.t 10), none⟩]
abbrev c33 : CC := .seq (.reg r33_0) (.seq (.reg r33_1) (.rest [2] (.ret)))
theorem F33 : Fun Tryd.prog 33 11 c33 [.cell 2 true 2] 1 := ⟨⟨Tryd.f33, _, Tryd.func33, rfl, by kernel_rfl, Tryd.ntmps33, by kernel_rfl, by kernel_rfl⟩, by decide⟩

/-- linnet/line.cut -/
abbrev r34_0 : List CO := [
  ⟨some 3, .box (.t 0), none⟩,
  ⟨some 6, .alloc ([.s (.slice none 0 0), .s (.int .i64 0)]), none⟩]
abbrev r34_1 : List CO := [
  ⟨some 7, .faddr 0 (.t 3), none⟩,
  ⟨some 8, .load false 1 (.t 7), none⟩,
  ⟨some 9, .mv (.t 1), none⟩,
  ⟨some 10, .slice 1 (.t 8) none (some (.t 9)), none⟩,
  ⟨some 11, .call (.c (.fn (.func 27) [] [])) [.t 10], none⟩,
  ⟨some 12, .faddr 0 (.t 3), none⟩,
  ⟨some 13, .load false 1 (.t 12), none⟩,
  ⟨some 14, .mv (.t 2), none⟩,
  ⟨some 15, .slice 1 (.t 13) (some (.t 14)) none, none⟩,
  ⟨some 16, .append 1 1 ([.s (.int .u8 0)]) (.t 11) (.t 15), none⟩,
  ⟨some 17, .mv (.t 1), none⟩,
  ⟨some 18, .build ([.s (.slice none 0 0), .s (.int .i64 0)]) [(0, 1, .t 16), (1, 1, .t 17)], none⟩,
  ⟨none, .store 2 (.t 6) (.t 18), none⟩]
abbrev b34_1 : List (List Nat) := [[], [0], [], [1, 2], [3], [], [5], [], [6, 7], [4, 8, 4], [], [9, 10], [11, 9, 0, 1, 2, 3, 4, 5, 6, 7, 8, 9, 10, 11]]
abbrev c34 : CC := .seq (.reg r34_0) (.seq (.regd r34_1 b34_1) (.rest [6] (.ret)))
theorem F34 : Fun Tryd.prog 34 19 c34 [.cell 6 true 2] 3 := ⟨⟨Tryd.f34, _, Tryd.func34, rfl, by kernel_rfl, Tryd.ntmps34, by kernel_rfl, by kernel_rfl⟩, by decide⟩

/-- linnet/line.does$2 -/
abbrev r35_0 : List CO := [
  ⟨some 1, .box (.t 0), none⟩,
  ⟨some 2, .alloc ([.s (.slice none 0 0), .s (.int .i64 0)]), none⟩]
abbrev r35_1 : List CO := [
  ⟨some 3, .load true 2 (.t 1), none⟩,
  ⟨some 4, .faddr 1 (.t 1), none⟩,
  ⟨some 5, .load false 1 (.t 4), none⟩,
  ⟨some 6, .faddr 1 (.t 1), none⟩,
  ⟨some 7, .load false 1 (.t 6), none⟩,
  ⟨some 8, .bin .add (.t 7) (.c (.p (.s (.int .i64 1)))), none⟩,
  ⟨some 9, .faddr 0 (.t 1), none⟩,
  ⟨some 10, .load false 1 (.t 9), none⟩,
  ⟨some 11, .len (.t 10), none⟩,
  ⟨some 12, .minmax false (.t 8) (.t 11), none⟩,
  ⟨some 13, .call (.c (.fn (.func 34) [] [])) [.t 3, .t 5, .t 12], none⟩,
  ⟨none, .store 2 (.t 2) (.t 13), none⟩]
abbrev c35 : CC := .seq (.reg r35_0) (.seq (.reg r35_1) (.rest [2] (.ret)))
theorem F35 : Fun Tryd.prog 35 14 c35 [.cell 2 true 2] 1 := ⟨⟨Tryd.f35, _, Tryd.func35, rfl, by kernel_rfl, Tryd.ntmps35, by kernel_rfl, by kernel_rfl⟩, by decide⟩

/-- linnet/line.does$3 -/
abbrev r36_0 : List CO := [
  ⟨some 1, .box (.t 0), none⟩,
  ⟨some 2, .alloc ([.s (.slice none 0 0), .s (.int .i64 0)]), none⟩]
abbrev r36_1 : List CO := [
  ⟨some 3, .load true 2 (.t 1), none⟩,
  ⟨some 4, .load true 2 (.t 1), none⟩,
  ⟨some 5, .call (.c (.fn (.func 14) [] [])) [.t 4], none⟩,
  ⟨some 6, .faddr 1 (.t 1), none⟩,
  ⟨some 7, .load false 1 (.t 6), none⟩,
  ⟨some 8, .call (.c (.fn (.func 34) [] [])) [.t 3, .t 5, .t 7], none⟩,
  ⟨none, .store 2 (.t 2) (.t 8), none⟩]
abbrev b36_1 : List (List Nat) := [[], [], [1], [], [3], [0, 2, 4, 2], [5, 5, 0, 1, 2, 3, 4, 5]]
abbrev c36 : CC := .seq (.reg r36_0) (.seq (.regd r36_1 b36_1) (.rest [2] (.ret)))
theorem F36 : Fun Tryd.prog 36 9 c36 [.cell 2 true 2] 1 := ⟨⟨Tryd.f36, _, Tryd.func36, rfl, by kernel_rfl, Tryd.ntmps36, by kernel_rfl, by kernel_rfl⟩, by decide⟩

/-- linnet/line.does$4 -/
abbrev r37_0 : List CO := [
  ⟨some 1, .box (.t 0), none⟩,
  ⟨some 2, .alloc ([.s (.slice none 0 0), .s (.int .i64 0)]), none⟩]
abbrev r37_1 : List CO := [
  ⟨some 3, .load true 2 (.t 1), none⟩,
  ⟨some 4, .faddr 1 (.t 1), none⟩,
  ⟨some 5, .load false 1 (.t 4), none⟩,
  ⟨some 6, .load true 2 (.t 1), none⟩,
  ⟨some 7, .call (.c (.fn (.func 15) [] [])) [.t 6], none⟩,
  ⟨some 8, .call (.c (.fn (.func 34) [] [])) [.t 3, .t 5, .t 7], none⟩,
  ⟨none, .store 2 (.t 2) (.t 8), none⟩]
abbrev b37_1 : List (List Nat) := [[], [], [1], [], [3], [0, 2, 4, 4], [5, 5, 0, 1, 2, 3, 4, 5]]
abbrev c37 : CC := .seq (.reg r37_0) (.seq (.regd r37_1 b37_1) (.rest [2] (.ret)))
theorem F37 : Fun Tryd.prog 37 9 c37 [.cell 2 true 2] 1 := ⟨⟨Tryd.f37, _, Tryd.func37, rfl, by kernel_rfl, Tryd.ntmps37, by kernel_rfl, by kernel_rfl⟩, by decide⟩

/-- linnet/line.does$5 -/
abbrev r38_0 : List CO := [
  ⟨some 1, .box (.t 0), none⟩,
  ⟨some 2, .alloc ([.s (.slice none 0 0), .s (.int .i64 0)]), none⟩]
abbrev r38_1 : List CO := [
  ⟨some 3, .load true 2 (.t 1), none⟩,
  ⟨some 4, .faddr 1 (.t 1), none⟩,
  ⟨some 5, .load false 1 (.t 4), none⟩,
  ⟨some 6, .call (.c (.fn (.func 34) [] [])) [.t 3, .c (.p (.s (.int .i64 0))), .t 5], none⟩,
  ⟨none, .store 2 (.t 2) (.t 6), none⟩]
abbrev c38 : CC := .seq (.reg r38_0) (.seq (.reg r38_1) (.rest [2] (.ret)))
theorem F38 : Fun Tryd.prog 38 7 c38 [.cell 2 true 2] 1 := ⟨⟨Tryd.f38, _, Tryd.func38, rfl, by kernel_rfl, Tryd.ntmps38, by kernel_rfl, by kernel_rfl⟩, by decide⟩

/-- linnet/line.does$6 -/
abbrev r39_0 : List CO := [
  ⟨some 1, .box (.t 0), none⟩,
  ⟨some 2, .alloc ([.s (.slice none 0 0), .s (.int .i64 0)]), none⟩]
abbrev r39_1 : List CO := [
  ⟨some 3, .load true 2 (.t 1), none⟩,
  ⟨some 4, .faddr 1 (.t 1), none⟩,
  ⟨some 5, .load false 1 (.t 4), none⟩,
  ⟨some 6, .faddr 0 (.t 1), none⟩,
  ⟨some 7, .load false 1 (.t 6), none⟩,
  ⟨some 8, .len (.t 7), none⟩,
  ⟨some 9, .call (.c (.fn (.func 34) [] [])) [.t 3, .t 5, .t 8], none⟩,
  ⟨none, .store 2 (.t 2) (.t 9), none⟩]
abbrev c39 : CC := .seq (.reg r39_0) (.seq (.reg r39_1) (.rest [2] (.ret)))
theorem F39 : Fun Tryd.prog 39 10 c39 [.cell 2 true 2] 1 := ⟨⟨Tryd.f39, _, Tryd.func39, rfl, by kernel_rfl, Tryd.ntmps39, by kernel_rfl, by kernel_rfl⟩, by decide⟩

/-- linnet/line.does$7 -/
abbrev r40_0 : List CO := [
  ⟨some 1, .box (.t 0), none⟩,
  ⟨some 2, .alloc ([.s (.slice none 0 0), .s (.int .i64 0)]), none⟩]
abbrev r40_1 : List CO := [
  ⟨some 3, .build ([.s (.slice none 0 0), .s (.int .i64 0)]) [], none⟩,
  ⟨none, .store 2 (.t 2) (.t 3), none⟩]
abbrev c40 : CC := .seq (.reg r40_0) (.seq (.reg r40_1) (.ret))
theorem F40 : Fun Tryd.prog 40 4 c40 [.cell 2 true 2] 1 := ⟨⟨Tryd.f40, _, Tryd.func40, rfl, by kernel_rfl, Tryd.ntmps40, by kernel_rfl, by kernel_rfl⟩, by decide⟩

/-- linnet/line.does$8 -/
abbrev r41_0 : List CO := [
  ⟨some 1, .box (.t 0), none⟩,
  ⟨some 2, .alloc ([.s (.slice none 0 0), .s (.int .i64 0)]), none⟩]
abbrev r41_1 : List CO := [
  ⟨some 3, .load true 2 (.t 1), none⟩,
  ⟨some 4, .faddr 1 (.t 1), none⟩,
  ⟨some 5, .load false 1 (.t 4), none⟩,
  ⟨some 6, .bin .sub (.t 5) (.c (.p (.s (.int .i64 1)))), none⟩,
  ⟨some 7, .call (.c (.fn (.func 42) [] [])) [.t 3, .t 6], none⟩,
  ⟨none, .store 2 (.t 2) (.t 7), none⟩]
abbrev c41 : CC := .seq (.reg r41_0) (.seq (.reg r41_1) (.rest [2] (.ret)))
theorem F41 : Fun Tryd.prog 41 8 c41 [.cell 2 true 2] 1 := ⟨⟨Tryd.f41, _, Tryd.func41, rfl, by kernel_rfl, Tryd.ntmps41, by kernel_rfl, by kernel_rfl⟩, by decide⟩

/-- linnet/line.to -/
abbrev r42_0 : List CO := [
  ⟨some 2, .box (.t 0), none⟩,
  ⟨some 4, .alloc ([.s (.slice none 0 0), .s (.int .i64 0)]), none⟩]
abbrev r42_1 : List CO := [
  ⟨some 5, .faddr 0 (.t 2), none⟩,
  ⟨some 6, .load false 1 (.t 5), none⟩,
  ⟨some 7, .mv (.t 1), none⟩,
  ⟨some 8, .faddr 0 (.t 2), none⟩,
  ⟨some 9, .load false 1 (.t 8), none⟩,
  ⟨some 10, .len (.t 9), none⟩,
  ⟨some 11, .minmax false (.t 7) (.t 10), none⟩,
  ⟨some 12, .minmax true (.c (.p (.s (.int .i64 0)))) (.t 11), none⟩,
  ⟨some 13, .build ([.s (.slice none 0 0), .s (.int .i64 0)]) [(0, 1, .t 6), (1, 1, .t 12)], none⟩,
  ⟨none, .store 2 (.t 4) (.t 13), none⟩]
abbrev c42 : CC := .seq (.reg r42_0) (.seq (.reg r42_1) (.rest [4] (.ret)))
theorem F42 : Fun Tryd.prog 42 14 c42 [.cell 4 true 2] 2 := ⟨⟨Tryd.f42, _, Tryd.func42, rfl, by kernel_rfl, Tryd.ntmps42, by kernel_rfl, by kernel_rfl⟩, by decide⟩

/-- linnet/line.does$9 -/
abbrev r43_0 : List CO := [
  ⟨some 1, .box (.t 0), none⟩,
  ⟨some 2, .alloc ([.s (.slice none 0 0), .s (.int .i64 0)]), none⟩]
abbrev r43_1 : List CO := [
  ⟨some 3, .load true 2 (.t 1), none⟩,
  ⟨some 4, .faddr 1 (.t 1), none⟩,
  ⟨some 5, .load false 1 (.t 4), none⟩,
  ⟨some 6, .bin .add (.t 5) (.c (.p (.s (.int .i64 1)))), none⟩,
  ⟨some 7, .call (.c (.fn (.func 42) [] [])) [.t 3, .t 6], none⟩,
  ⟨none, .store 2 (.t 2) (.t 7), none⟩]
abbrev c43 : CC := .seq (.reg r43_0) (.seq (.reg r43_1) (.rest [2] (.ret)))
theorem F43 : Fun Tryd.prog 43 8 c43 [.cell 2 true 2] 1 := ⟨⟨Tryd.f43, _, Tryd.func43, rfl, by kernel_rfl, Tryd.ntmps43, by kernel_rfl, by kernel_rfl⟩, by decide⟩

/-- linnet/line.does$10 -/
abbrev r44_0 : List CO := [
  ⟨some 1, .box (.t 0), none⟩,
  ⟨some 2, .alloc ([.s (.slice none 0 0), .s (.int .i64 0)]), none⟩]
abbrev r44_1 : List CO := [
  ⟨some 3, .load true 2 (.t 1), none⟩,
  ⟨some 4, .load true 2 (.t 1), none⟩,
  ⟨some 5, .call (.c (.fn (.func 14) [] [])) [.t 4], none⟩,
  ⟨some 6, .call (.c (.fn (.func 42) [] [])) [.t 3, .t 5], none⟩,
  ⟨none, .store 2 (.t 2) (.t 6), none⟩]
abbrev b44_1 : List (List Nat) := [[], [], [1], [0, 2, 2], [3, 3, 0, 1, 2, 3]]
abbrev c44 : CC := .seq (.reg r44_0) (.seq (.regd r44_1 b44_1) (.rest [2] (.ret)))
theorem F44 : Fun Tryd.prog 44 7 c44 [.cell 2 true 2] 1 := ⟨⟨Tryd.f44, _, Tryd.func44, rfl, by kernel_rfl, Tryd.ntmps44, by kernel_rfl, by kernel_rfl⟩, by decide⟩

/-- linnet/line.does$11 -/
abbrev r45_0 : List CO := [
  ⟨some 1, .box (.t 0), none⟩,
  ⟨some 2, .alloc ([.s (.slice none 0 0), .s (.int .i64 0)]), none⟩]
abbrev r45_1 : List CO := [
  ⟨some 3, .load true 2 (.t 1), none⟩,
  ⟨some 4, .load true 2 (.t 1), none⟩,
  ⟨some 5, .call (.c (.fn (.func 15) [] [])) [.t 4], none⟩,
  ⟨some 6, .call (.c (.fn (.func 42) [] [])) [.t 3, .t 5], none⟩,
  ⟨none, .store 2 (.t 2) (.t 6), none⟩]
abbrev b45_1 : List (List Nat) := [[], [], [1], [0, 2, 2], [3, 3, 0, 1, 2, 3]]
abbrev c45 : CC := .seq (.reg r45_0) (.seq (.regd r45_1 b45_1) (.rest [2] (.ret)))
theorem F45 : Fun Tryd.prog 45 7 c45 [.cell 2 true 2] 1 := ⟨⟨Tryd.f45, _, Tryd.func45, rfl, by kernel_rfl, Tryd.ntmps45, by kernel_rfl, by kernel_rfl⟩, by decide⟩

/-- linnet/line.does$12 -/
abbrev r46_0 : List CO := [
  ⟨some 1, .box (.t 0), none⟩,
  ⟨some 2, .alloc ([.s (.slice none 0 0), .s (.int .i64 0)]), none⟩]
abbrev r46_1 : List CO := [
  ⟨some 3, .load true 2 (.t 1), none⟩,
  ⟨some 4, .call (.c (.fn (.func 42) [] [])) [.t 3, .c (.p (.s (.int .i64 0)))], none⟩,
  ⟨none, .store 2 (.t 2) (.t 4), none⟩]
abbrev c46 : CC := .seq (.reg r46_0) (.seq (.reg r46_1) (.ret))
theorem F46 : Fun Tryd.prog 46 5 c46 [.cell 2 true 2] 1 := ⟨⟨Tryd.f46, _, Tryd.func46, rfl, by kernel_rfl, Tryd.ntmps46, by kernel_rfl, by kernel_rfl⟩, by decide⟩

/-- linnet/line.does$13 -/
abbrev r47_0 : List CO := [
  ⟨some 1, .box (.t 0), none⟩,
  ⟨some 2, .alloc ([.s (.slice none 0 0), .s (.int .i64 0)]), none⟩]
abbrev r47_1 : List CO := [
  ⟨some 3, .load true 2 (.t 1), none⟩,
  ⟨some 4, .faddr 0 (.t 1), none⟩,
  ⟨some 5, .load false 1 (.t 4), none⟩,
  ⟨some 6, .len (.t 5), none⟩,
  ⟨some 7, .call (.c (.fn (.func 42) [] [])) [.t 3, .t 6], none⟩,
  ⟨none, .store 2 (.t 2) (.t 7), none⟩]
abbrev c47 : CC := .seq (.reg r47_0) (.seq (.reg r47_1) (.rest [2] (.ret)))
theorem F47 : Fun Tryd.prog 47 8 c47 [.cell 2 true 2] 1 := ⟨⟨Tryd.f47, _, Tryd.func47, rfl, by kernel_rfl, Tryd.ntmps47, by kernel_rfl, by kernel_rfl⟩, by decide⟩

/-- bytes.trimRightByte -/
abbrev r48_0 : List CO := [
  ⟨some 4, .mv (.c (.p (.s (.slice none 0 0)))), none⟩]
abbrev r48_1 : List CO := [
  ⟨some 5, .mv (.t 0), none⟩,
  ⟨some 6, .len (.t 5), none⟩,
  ⟨some 7, .bin .gtr (.t 6) (.c (.p (.s (.int .i64 0)))), none⟩,
  ⟨some 8, .mv (.t 7), none⟩,
  ⟨some 9, .mv (.t 0), some (8, true)⟩,
  ⟨some 10, .mv (.t 0), some (8, true)⟩,
  ⟨some 11, .len (.t 10), some (8, true)⟩,
  ⟨some 12, .bin .sub (.t 11) (.c (.p (.s (.int .i64 1)))), some (8, true)⟩,
  ⟨some 13, .iaddrS 1 (.t 9) (.t 12), some (8, true)⟩,
  ⟨some 14, .load false 1 (.t 13), some (8, true)⟩,
  ⟨some 15, .mv (.t 1), some (8, true)⟩,
  ⟨some 16, .bin .eql (.t 14) (.t 15), some (8, true)⟩,
  ⟨some 17, .pick (.t 8) (.t 16) (.c (.p (.s (.bool false)))), none⟩]
abbrev r48_2 : List CO := [
  ⟨some 18, .mv (.t 0), none⟩,
  ⟨some 19, .mv (.t 0), none⟩,
  ⟨some 20, .len (.t 19), none⟩,
  ⟨some 21, .bin .sub (.t 20) (.c (.p (.s (.int .i64 1)))), none⟩,
  ⟨some 22, .slice 1 (.t 18) none (some (.t 21)), none⟩,
  ⟨some 0, .mv (.t 22), none⟩]
abbrev k48_1 : CC := .reg r48_2
abbrev l48_4 : CC := .seq (.seq (.reg r48_1) (.rest [0, 1, 17] (.cond (.t 17) (.skip) (.exit 0)))) (.rest [0, 1] (.block 1 k48_1))
abbrev k48_0 : CC := .loop l48_4
abbrev r48_3 : List CO := [
  ⟨some 23, .mv (.t 0), none⟩,
  ⟨some 4, .mv (.t 23), none⟩]
abbrev c48 : CC := .seq (.reg r48_0) (.seq (.block 0 k48_0) (.rest [0] (.seq (.reg r48_3) (.ret))))
theorem F48 : Fun Tryd.prog 48 24 c48 [.tmp 4] 2 := ⟨⟨Tryd.f48, _, Tryd.func48, rfl, by kernel_rfl, Tryd.ntmps48, by kernel_rfl, by kernel_rfl⟩, by decide⟩

/-- bytes.makeASCIISet -/
abbrev r49_0 : List CO := [
  ⟨some 2, .alloc (List.replicate 256 (.s (.bool false))), none⟩,
  ⟨some 3, .mv (.c (.p (.s (.bool false)))), none⟩]
abbrev r49_1 : List CO := [
  ⟨some 4, .mv (.c (.p (.s (.int .i64 0)))), none⟩]
abbrev r49_2 : List CO := [
  ⟨some 6, .mv (.t 4), none⟩,
  ⟨some 7, .mv (.t 0), none⟩,
  ⟨some 8, .slen (.t 7), none⟩,
  ⟨some 9, .bin .lss (.t 6) (.t 8), none⟩]
abbrev r49_4 : List CO := [
  ⟨some 12, .mv (.t 0), none⟩,
  ⟨some 13, .mv (.t 4), none⟩,
  ⟨some 14, .sindex (.t 12) (.t 13), none⟩,
  ⟨some 5, .mv (.t 14), none⟩]
abbrev r49_5 : List CO := [
  ⟨some 15, .mv (.t 5), none⟩,
  ⟨some 16, .bin .geq (.t 15) (.c (.p (.s (.int .u8 128)))), none⟩]
abbrev r49_6 : List CO := [
  ⟨some 17, .load true 256 (.t 2), none⟩,
  ⟨none, .store 256 (.t 2) (.t 17), none⟩,
  ⟨some 3, .mv (.c (.p (.s (.bool false)))), none⟩]
abbrev r49_7 : List CO := [
  ⟨some 18, .mv (.t 5), none⟩,
  ⟨some 19, .iaddrA 1 256 (.t 2) (.t 18), none⟩,
  ⟨none, .store 1 (.t 19) (.c (.p (.s (.bool true)))), none⟩]
abbrev k49_1 : CC := .seq (.reg r49_4) (.rest [0, 2, 4, 5] (.seq (.seq (.reg r49_5) (.cond (.t 16) (.seq (.reg r49_6) (.ret)) (.skip))) (.rest [0, 2, 4, 5] (.reg r49_7))))
abbrev r49_3 : List CO := [
  ⟨some 10, .mv (.t 4), none⟩,
  ⟨some 11, .bin .add (.t 10) (.c (.p (.s (.int .i64 1)))), none⟩,
  ⟨some 4, .mv (.t 11), none⟩]
abbrev l49_9 : CC := .seq (.seq (.reg r49_2) (.rest [0, 2, 4, 9] (.cond (.t 9) (.skip) (.exit 0)))) (.rest [0, 2, 4] (.seq (.block 1 k49_1) (.rest [0, 2, 4] (.reg r49_3))))
abbrev k49_0 : CC := .loop l49_9
abbrev r49_8 : List CO := [
  ⟨some 20, .load true 256 (.t 2), none⟩,
  ⟨none, .store 256 (.t 2) (.t 20), none⟩,
  ⟨some 3, .mv (.c (.p (.s (.bool true)))), none⟩]
abbrev c49 : CC := .seq (.reg r49_0) (.seq (.seq (.reg r49_1) (.block 0 k49_0)) (.rest [2] (.seq (.reg r49_8) (.ret))))
theorem F49 : Fun Tryd.prog 49 21 c49 [.cell 2 true 256, .tmp 3] 1 := ⟨⟨Tryd.f49, _, Tryd.func49, rfl, by kernel_rfl, Tryd.ntmps49, by kernel_rfl, by kernel_rfl⟩, by decide⟩

/-- bytes.trimRightASCII -/
abbrev r50_0 : List CO := [
  ⟨some 4, .mv (.c (.p (.s (.slice none 0 0)))), none⟩]
abbrev r50_1 : List CO := [
  ⟨some 5, .mv (.t 0), none⟩,
  ⟨some 6, .len (.t 5), none⟩,
  ⟨some 7, .bin .gtr (.t 6) (.c (.p (.s (.int .i64 0)))), none⟩]
abbrev r50_2 : List CO := [
  ⟨some 8, .mv (.t 1), none⟩,
  ⟨some 9, .mv (.t 0), none⟩,
  ⟨some 10, .mv (.t 0), none⟩,
  ⟨some 11, .len (.t 10), none⟩,
  ⟨some 12, .bin .sub (.t 11) (.c (.p (.s (.int .i64 1)))), none⟩,
  ⟨some 13, .iaddrS 1 (.t 9) (.t 12), none⟩,
  ⟨some 14, .load false 1 (.t 13), none⟩,
  ⟨some 15, .call (.c (.fn (.func 52) [] [])) [.t 8, .t 14], none⟩,
  ⟨some 16, .un .not (.t 15), none⟩]
abbrev r50_3 : List CO := [
  ⟨some 17, .mv (.t 0), none⟩,
  ⟨some 18, .mv (.t 0), none⟩,
  ⟨some 19, .len (.t 18), none⟩,
  ⟨some 20, .bin .sub (.t 19) (.c (.p (.s (.int .i64 1)))), none⟩,
  ⟨some 21, .slice 1 (.t 17) none (some (.t 20)), none⟩,
  ⟨some 0, .mv (.t 21), none⟩]
abbrev k50_1 : CC := .seq (.seq (.reg r50_2) (.rest [0, 1, 16] (.cond (.t 16) (.exit 0) (.skip)))) (.rest [0, 1] (.reg r50_3))
abbrev l50_5 : CC := .seq (.seq (.reg r50_1) (.cond (.t 7) (.skip) (.exit 0))) (.block 1 k50_1)
abbrev k50_0 : CC := .loop l50_5
abbrev r50_4 : List CO := [
  ⟨some 22, .mv (.t 0), none⟩,
  ⟨some 4, .mv (.t 22), none⟩]
abbrev c50 : CC := .seq (.reg r50_0) (.seq (.block 0 k50_0) (.rest [0] (.seq (.reg r50_4) (.ret))))
theorem F50 : Fun Tryd.prog 50 23 c50 [.tmp 4] 2 := ⟨⟨Tryd.f50, _, Tryd.func50, rfl, by kernel_rfl, Tryd.ntmps50, by kernel_rfl, by kernel_rfl⟩, by decide⟩

/-- bytes.trimRightUnicode -/
abbrev r51_0 : List CO := [
  ⟨some 4, .mv (.c (.p (.s (.slice none 0 0)))), none⟩]
abbrev r51_1 : List CO := [
  ⟨some 7, .mv (.t 0), none⟩,
  ⟨some 8, .len (.t 7), none⟩,
  ⟨some 9, .bin .gtr (.t 8) (.c (.p (.s (.int .i64 0)))), none⟩]
abbrev r51_2 : List CO := [
  ⟨some 10, .mv (.t 0), none⟩,
  ⟨some 11, .mv (.t 0), none⟩,
  ⟨some 12, .len (.t 11), none⟩,
  ⟨some 13, .bin .sub (.t 12) (.c (.p (.s (.int .i64 1)))), none⟩,
  ⟨some 14, .iaddrS 1 (.t 10) (.t 13), none⟩,
  ⟨some 15, .load false 1 (.t 14), none⟩,
  ⟨some 16, .toInt .i32 (.t 15), none⟩,
  ⟨some 5, .mv (.t 16), none⟩,
  ⟨some 6, .mv (.c (.p (.s (.int .i64 1)))), none⟩]
abbrev r51_3 : List CO := [
  ⟨some 17, .mv (.t 5), none⟩,
  ⟨some 18, .bin .geq (.t 17) (.c (.p (.s (.int .i32 128)))), none⟩]
abbrev r51_4 : List CO := [
  ⟨some 20, .mv (.t 0), none⟩,
  ⟨some 21, .call (.c (.fn (.func 53) [] [])) [.t 20], none⟩,
  ⟨some 19, .mv (.t 21), none⟩,
  ⟨some 22, .extract 0 (.t 19), none⟩,
  ⟨some 23, .extract 1 (.t 19), none⟩,
  ⟨some 5, .mv (.t 22), none⟩,
  ⟨some 6, .mv (.t 23), none⟩]
abbrev r51_5 : List CO := [
  ⟨some 24, .mv (.t 1), none⟩,
  ⟨some 25, .mv (.t 5), none⟩,
  ⟨some 26, .call (.c (.fn (.func 54) [] [])) [.t 24, .t 25], none⟩,
  ⟨some 27, .un .not (.t 26), none⟩]
abbrev r51_6 : List CO := [
  ⟨some 28, .mv (.t 0), none⟩,
  ⟨some 29, .mv (.t 0), none⟩,
  ⟨some 30, .len (.t 29), none⟩,
  ⟨some 31, .mv (.t 6), none⟩,
  ⟨some 32, .bin .sub (.t 30) (.t 31), none⟩,
  ⟨some 33, .slice 1 (.t 28) none (some (.t 32)), none⟩,
  ⟨some 0, .mv (.t 33), none⟩]
abbrev k51_1 : CC := .seq (.reg r51_2) (.rest [0, 1, 5, 6] (.seq (.seq (.reg r51_3) (.cond (.t 18) (.reg r51_4) (.skip))) (.rest [0, 1, 5, 6] (.seq (.seq (.reg r51_5) (.rest [0, 1, 6, 27] (.cond (.t 27) (.exit 0) (.skip)))) (.rest [0, 1, 6] (.reg r51_6))))))
abbrev l51_8 : CC := .seq (.seq (.reg r51_1) (.cond (.t 9) (.skip) (.exit 0))) (.block 1 k51_1)
abbrev k51_0 : CC := .loop l51_8
abbrev r51_7 : List CO := [
  ⟨some 34, .mv (.t 0), none⟩,
  ⟨some 4, .mv (.t 34), none⟩]
abbrev c51 : CC := .seq (.reg r51_0) (.seq (.block 0 k51_0) (.rest [0] (.seq (.reg r51_7) (.ret))))
theorem F51 : Fun Tryd.prog 51 35 c51 [.tmp 4] 2 := ⟨⟨Tryd.f51, _, Tryd.func51, rfl, by kernel_rfl, Tryd.ntmps51, by kernel_rfl, by kernel_rfl⟩, by decide⟩

/-- (*bytes.asciiSet).contains -/
abbrev r52_0 : List CO := [
  ⟨some 4, .mv (.c (.p (.s (.bool false)))), none⟩]
abbrev r52_1 : List CO := [
  ⟨some 5, .mv (.t 0), none⟩,
  ⟨some 6, .mv (.t 1), none⟩,
  ⟨some 7, .nilchk (.t 5), none⟩,
  ⟨some 8, .iaddrA 1 256 (.t 7) (.t 6), none⟩,
  ⟨some 9, .load false 1 (.t 8), none⟩,
  ⟨some 4, .mv (.t 9), none⟩]
abbrev c52 : CC := .seq (.reg r52_0) (.seq (.reg r52_1) (.rest [4] (.ret)))
theorem F52 : Fun Tryd.prog 52 10 c52 [.tmp 4] 2 := ⟨⟨Tryd.f52, _, Tryd.func52, rfl, by kernel_rfl, Tryd.ntmps52, by kernel_rfl, by kernel_rfl⟩, by decide⟩

/-- unicode/utf8.DecodeLastRune -/
abbrev r53_0 : List CO := [
  ⟨some 2, .mv (.c (.p (.s (.int .i32 0)))), none⟩,
  ⟨some 3, .mv (.c (.p (.s (.int .i64 0)))), none⟩]
abbrev r53_1 : List CO := [
  ⟨some 7, .mv (.t 0), none⟩,
  ⟨some 8, .len (.t 7), none⟩,
  ⟨some 4, .mv (.t 8), none⟩]
abbrev r53_2 : List CO := [
  ⟨some 9, .mv (.t 4), none⟩,
  ⟨some 10, .bin .eql (.t 9) (.c (.p (.s (.int .i64 0)))), none⟩]
abbrev r53_3 : List CO := [
  ⟨some 2, .mv (.c (.p (.s (.int .i32 65533)))), none⟩,
  ⟨some 3, .mv (.c (.p (.s (.int .i64 0)))), none⟩]
abbrev r53_4 : List CO := [
  ⟨some 11, .mv (.t 4), none⟩,
  ⟨some 12, .bin .sub (.t 11) (.c (.p (.s (.int .i64 1)))), none⟩,
  ⟨some 5, .mv (.t 12), none⟩]
abbrev r53_5 : List CO := [
  ⟨some 13, .mv (.t 0), none⟩,
  ⟨some 14, .mv (.t 5), none⟩,
  ⟨some 15, .iaddrS 1 (.t 13) (.t 14), none⟩,
  ⟨some 16, .load false 1 (.t 15), none⟩,
  ⟨some 17, .toInt .i32 (.t 16), none⟩,
  ⟨some 2, .mv (.t 17), none⟩]
abbrev r53_6 : List CO := [
  ⟨some 18, .mv (.t 2), none⟩,
  ⟨some 19, .bin .lss (.t 18) (.c (.p (.s (.int .i32 128)))), none⟩]
abbrev r53_7 : List CO := [
  ⟨some 20, .mv (.t 2), none⟩,
  ⟨some 2, .mv (.t 20), none⟩,
  ⟨some 3, .mv (.c (.p (.s (.int .i64 1)))), none⟩]
abbrev r53_8 : List CO := [
  ⟨some 21, .mv (.t 4), none⟩,
  ⟨some 22, .bin .sub (.t 21) (.c (.p (.s (.int .i64 4)))), none⟩,
  ⟨some 23, .minmax true (.t 22) (.c (.p (.s (.int .i64 0)))), none⟩,
  ⟨some 6, .mv (.t 23), none⟩]
abbrev r53_9 : List CO := [
  ⟨some 24, .mv (.t 5), none⟩,
  ⟨some 25, .bin .sub (.t 24) (.c (.p (.s (.int .i64 1)))), none⟩,
  ⟨some 5, .mv (.t 25), none⟩]
abbrev r53_10 : List CO := [
  ⟨some 26, .mv (.t 5), none⟩,
  ⟨some 27, .mv (.t 6), none⟩,
  ⟨some 28, .bin .geq (.t 26) (.t 27), none⟩]
abbrev r53_12 : List CO := [
  ⟨some 31, .mv (.t 0), none⟩,
  ⟨some 32, .mv (.t 5), none⟩,
  ⟨some 33, .iaddrS 1 (.t 31) (.t 32), none⟩,
  ⟨some 34, .load false 1 (.t 33), none⟩,
  ⟨some 35, .call (.c (.fn (.func 55) [] [])) [.t 34], none⟩]
abbrev k53_1 : CC := .seq (.reg r53_12) (.rest [0, 4, 5, 6, 35] (.cond (.t 35) (.exit 0) (.skip)))
abbrev r53_11 : List CO := [
  ⟨some 29, .mv (.t 5), none⟩,
  ⟨some 30, .bin .sub (.t 29) (.c (.p (.s (.int .i64 1)))), none⟩,
  ⟨some 5, .mv (.t 30), none⟩]
abbrev l53_14 : CC := .seq (.seq (.reg r53_10) (.cond (.t 28) (.skip) (.exit 0))) (.seq (.block 1 k53_1) (.rest [0, 4, 5, 6] (.reg r53_11)))
abbrev k53_0 : CC := .loop l53_14
abbrev r53_13 : List CO := [
  ⟨some 36, .mv (.t 5), none⟩,
  ⟨some 37, .bin .lss (.t 36) (.c (.p (.s (.int .i64 0)))), none⟩]
abbrev r53_14 : List CO := [
  ⟨some 5, .mv (.c (.p (.s (.int .i64 0)))), none⟩]
abbrev r53_15 : List CO := [
  ⟨some 39, .mv (.t 0), none⟩,
  ⟨some 40, .mv (.t 5), none⟩,
  ⟨some 41, .mv (.t 4), none⟩,
  ⟨some 42, .slice 1 (.t 39) (some (.t 40)) (some (.t 41)), none⟩,
  ⟨some 43, .call (.c (.fn (.func 56) [] [])) [.t 42], none⟩,
  ⟨some 38, .mv (.t 43), none⟩,
  ⟨some 44, .extract 0 (.t 38), none⟩,
  ⟨some 45, .extract 1 (.t 38), none⟩,
  ⟨some 2, .mv (.t 44), none⟩,
  ⟨some 3, .mv (.t 45), none⟩]
abbrev r53_16 : List CO := [
  ⟨some 46, .mv (.t 5), none⟩,
  ⟨some 47, .mv (.t 3), none⟩,
  ⟨some 48, .bin .add (.t 46) (.t 47), none⟩,
  ⟨some 49, .mv (.t 4), none⟩,
  ⟨some 50, .bin .neq (.t 48) (.t 49), none⟩]
abbrev r53_17 : List CO := [
  ⟨some 2, .mv (.c (.p (.s (.int .i32 65533)))), none⟩,
  ⟨some 3, .mv (.c (.p (.s (.int .i64 1)))), none⟩]
abbrev r53_18 : List CO := [
  ⟨some 51, .mv (.t 2), none⟩,
  ⟨some 52, .mv (.t 3), none⟩,
  ⟨some 2, .mv (.t 51), none⟩,
  ⟨some 3, .mv (.t 52), none⟩]
abbrev c53 : CC := .seq (.reg r53_0) (.seq (.reg r53_1) (.seq (.seq (.reg r53_2) (.cond (.t 10) (.seq (.reg r53_3) (.ret)) (.skip))) (.rest [0, 4] (.seq (.reg r53_4) (.seq (.reg r53_5) (.rest [0, 2, 4, 5] (.seq (.seq (.reg r53_6) (.cond (.t 19) (.seq (.reg r53_7) (.ret)) (.skip))) (.rest [0, 4, 5] (.seq (.reg r53_8) (.rest [0, 4, 5, 6] (.seq (.seq (.reg r53_9) (.block 0 k53_0)) (.rest [0, 4, 5] (.seq (.seq (.reg r53_13) (.cond (.t 37) (.reg r53_14) (.skip))) (.seq (.reg r53_15) (.rest [2, 3, 4, 5] (.seq (.seq (.reg r53_16) (.rest [2, 3, 50] (.cond (.t 50) (.seq (.reg r53_17) (.ret)) (.skip)))) (.rest [2, 3] (.seq (.reg r53_18) (.rest [2, 3] (.ret))))))))))))))))))))
theorem F53 : Fun Tryd.prog 53 53 c53 [.tmp 2, .tmp 3] 1 := ⟨⟨Tryd.f53, _, Tryd.func53, rfl, by kernel_rfl, Tryd.ntmps53, by kernel_rfl, by kernel_rfl⟩, by decide⟩

/-- unicode/utf8.RuneStart -/
abbrev r55_0 : List CO := [
  ⟨some 2, .mv (.c (.p (.s (.bool false)))), none⟩]
abbrev r55_1 : List CO := [
  ⟨some 3, .mv (.t 0), none⟩,
  ⟨some 4, .bin .and (.t 3) (.c (.p (.s (.int .u8 192)))), none⟩,
  ⟨some 5, .bin .neq (.t 4) (.c (.p (.s (.int .u8 128)))), none⟩,
  ⟨some 2, .mv (.t 5), none⟩]
abbrev c55 : CC := .seq (.reg r55_0) (.seq (.reg r55_1) (.rest [2] (.ret)))
theorem F55 : Fun Tryd.prog 55 6 c55 [.tmp 2] 1 := ⟨⟨Tryd.f55, _, Tryd.func55, rfl, by kernel_rfl, Tryd.ntmps55, by kernel_rfl, by kernel_rfl⟩, by decide⟩

/-- unicode/utf8.DecodeRune -/
abbrev r56_0 : List CO := [
  ⟨some 2, .mv (.c (.p (.s (.int .i32 0)))), none⟩,
  ⟨some 3, .mv (.c (.p (.s (.int .i64 0)))), none⟩]
abbrev r56_1 : List CO := [
  ⟨some 6, .mv (.t 0), none⟩,
  ⟨some 7, .len (.t 6), none⟩,
  ⟨some 8, .mv (.c (.p (.s (.int .i64 0)))), none⟩]
abbrev r56_2 : List CO := [
  ⟨some 9, .bin .lss (.t 8) (.t 7), none⟩]
abbrev r56_3 : List CO := [
  ⟨some 10, .iaddrS 1 (.t 6) (.t 8), none⟩,
  ⟨some 11, .load false 1 (.t 10), none⟩,
  ⟨some 5, .mv (.t 11), none⟩]
abbrev r56_4 : List CO := [
  ⟨some 12, .mv (.t 5), none⟩,
  ⟨some 13, .bin .lss (.t 12) (.c (.p (.s (.int .u8 128)))), none⟩]
abbrev r56_5 : List CO := [
  ⟨some 14, .mv (.t 5), none⟩,
  ⟨some 15, .toInt .i32 (.t 14), none⟩,
  ⟨some 2, .mv (.t 15), none⟩,
  ⟨some 3, .mv (.c (.p (.s (.int .i64 1)))), none⟩]
abbrev k56_1 : CC := .seq (.reg r56_3) (.seq (.seq (.reg r56_4) (.cond (.t 13) (.seq (.reg r56_5) (.rest [2, 3] (.ret))) (.skip))) (.rest [0] (.exit 0)))
abbrev r56_6 : List CO := [
  ⟨some 16, .bin .add (.t 8) (.c (.p (.s (.int .i64 1)))), none⟩,
  ⟨some 8, .mv (.t 16), none⟩]
abbrev l56_8 : CC := .seq (.reg r56_2) (.seq (.cond (.t 9) (.skip) (.exit 0)) (.seq (.block 1 k56_1) (.rest [0, 6, 7, 8] (.reg r56_6))))
abbrev k56_0 : CC := .loop l56_8
abbrev r56_7 : List CO := [
  ⟨some 18, .mv (.t 0), none⟩,
  ⟨some 19, .call (.c (.fn (.func 57) [] [])) [.t 18], none⟩,
  ⟨some 17, .mv (.t 19), none⟩,
  ⟨some 20, .extract 0 (.t 17), none⟩,
  ⟨some 21, .extract 1 (.t 17), none⟩,
  ⟨some 2, .mv (.t 20), none⟩,
  ⟨some 3, .mv (.t 21), none⟩]
abbrev c56 : CC := .seq (.reg r56_0) (.seq (.seq (.reg r56_1) (.block 0 k56_0)) (.rest [0] (.seq (.reg r56_7) (.rest [2, 3] (.ret)))))
theorem F56 : Fun Tryd.prog 56 22 c56 [.tmp 2, .tmp 3] 1 := ⟨⟨Tryd.f56, _, Tryd.func56, rfl, by kernel_rfl, Tryd.ntmps56, by kernel_rfl, by kernel_rfl⟩, by decide⟩

/-- unicode/utf8.decodeRuneSlow -/
abbrev r57_0 : List CO := [
  ⟨some 2, .mv (.c (.p (.s (.int .i32 0)))), none⟩,
  ⟨some 3, .mv (.c (.p (.s (.int .i64 0)))), none⟩]
abbrev r57_1 : List CO := [
  ⟨some 13, .mv (.t 0), none⟩,
  ⟨some 14, .len (.t 13), none⟩,
  ⟨some 4, .mv (.t 14), none⟩]
abbrev r57_2 : List CO := [
  ⟨some 15, .mv (.t 4), none⟩,
  ⟨some 16, .bin .lss (.t 15) (.c (.p (.s (.int .i64 1)))), none⟩]
abbrev r57_3 : List CO := [
  ⟨some 2, .mv (.c (.p (.s (.int .i32 65533)))), none⟩,
  ⟨some 3, .mv (.c (.p (.s (.int .i64 0)))), none⟩]
abbrev r57_4 : List CO := [
  ⟨some 17, .mv (.t 0), none⟩,
  ⟨some 18, .iaddrS 1 (.t 17) (.c (.p (.s (.int .i64 0)))), none⟩,
  ⟨some 19, .load false 1 (.t 18), none⟩,
  ⟨some 5, .mv (.t 19), none⟩]
abbrev r57_5 : List CO := [
  ⟨some 20, .mv (.t 5), none⟩,
  ⟨some 21, .iaddrA 1 256 (.g 0) (.t 20), none⟩,
  ⟨some 22, .load false 1 (.t 21), none⟩,
  ⟨some 6, .mv (.t 22), none⟩]
abbrev r57_6 : List CO := [
  ⟨some 23, .mv (.t 6), none⟩,
  ⟨some 24, .bin .geq (.t 23) (.c (.p (.s (.int .u8 240)))), none⟩]
abbrev r57_7 : List CO := [
  ⟨some 25, .mv (.t 6), none⟩,
  ⟨some 26, .toInt .i32 (.t 25), none⟩,
  ⟨some 27, .bin .shl (.t 26) (.c (.p (.s (.int .u64 31)))), none⟩,
  ⟨some 28, .bin .shr (.t 27) (.c (.p (.s (.int .u64 31)))), none⟩,
  ⟨some 7, .mv (.t 28), none⟩]
abbrev r57_8 : List CO := [
  ⟨some 29, .mv (.t 0), none⟩,
  ⟨some 30, .iaddrS 1 (.t 29) (.c (.p (.s (.int .i64 0)))), none⟩,
  ⟨some 31, .load false 1 (.t 30), none⟩,
  ⟨some 32, .toInt .i32 (.t 31), none⟩,
  ⟨some 33, .mv (.t 7), none⟩,
  ⟨some 34, .bin .andNot (.t 32) (.t 33), none⟩,
  ⟨some 35, .mv (.t 7), none⟩,
  ⟨some 36, .bin .and (.c (.p (.s (.int .i32 65533)))) (.t 35), none⟩,
  ⟨some 37, .bin .or (.t 34) (.t 36), none⟩,
  ⟨some 2, .mv (.t 37), none⟩,
  ⟨some 3, .mv (.c (.p (.s (.int .i64 1)))), none⟩]
abbrev r57_9 : List CO := [
  ⟨some 38, .mv (.t 6), none⟩,
  ⟨some 39, .bin .and (.t 38) (.c (.p (.s (.int .u8 7)))), none⟩,
  ⟨some 40, .toInt .i64 (.t 39), none⟩,
  ⟨some 8, .mv (.t 40), none⟩]
abbrev r57_10 : List CO := [
  ⟨some 41, .mv (.t 6), none⟩,
  ⟨some 42, .bin .shr (.t 41) (.c (.p (.s (.int .u64 4)))), none⟩,
  ⟨some 43, .iaddrA 2 16 (.g 1) (.t 42), none⟩,
  ⟨some 44, .load true 2 (.t 43), none⟩,
  ⟨some 9, .alloc ([.s (.int .u8 0), .s (.int .u8 0)]), none⟩,
  ⟨none, .store 2 (.t 9) (.t 44), none⟩]
abbrev r57_11 : List CO := [
  ⟨some 45, .mv (.t 4), none⟩,
  ⟨some 46, .mv (.t 8), none⟩,
  ⟨some 47, .bin .lss (.t 45) (.t 46), none⟩]
abbrev r57_12 : List CO := [
  ⟨some 2, .mv (.c (.p (.s (.int .i32 65533)))), none⟩,
  ⟨some 3, .mv (.c (.p (.s (.int .i64 1)))), none⟩]
abbrev r57_13 : List CO := [
  ⟨some 48, .mv (.t 0), none⟩,
  ⟨some 49, .iaddrS 1 (.t 48) (.c (.p (.s (.int .i64 1)))), none⟩,
  ⟨some 50, .load false 1 (.t 49), none⟩,
  ⟨some 10, .mv (.t 50), none⟩]
abbrev r57_14 : List CO := [
  ⟨some 51, .mv (.t 10), none⟩,
  ⟨some 52, .faddr 0 (.t 9), none⟩,
  ⟨some 53, .load false 1 (.t 52), none⟩,
  ⟨some 54, .bin .lss (.t 51) (.t 53), none⟩,
  ⟨some 55, .mv (.t 54), none⟩,
  ⟨some 56, .faddr 1 (.t 9), some (55, false)⟩,
  ⟨some 57, .load false 1 (.t 56), some (55, false)⟩,
  ⟨some 58, .mv (.t 10), some (55, false)⟩,
  ⟨some 59, .bin .lss (.t 57) (.t 58), some (55, false)⟩,
  ⟨some 60, .pick (.t 55) (.c (.p (.s (.bool true)))) (.t 59), none⟩]
abbrev r57_15 : List CO := [
  ⟨some 2, .mv (.c (.p (.s (.int .i32 65533)))), none⟩,
  ⟨some 3, .mv (.c (.p (.s (.int .i64 1)))), none⟩]
abbrev r57_16 : List CO := [
  ⟨some 61, .mv (.t 8), none⟩,
  ⟨some 62, .bin .leq (.t 61) (.c (.p (.s (.int .i64 2)))), none⟩]
abbrev r57_17 : List CO := [
  ⟨some 63, .mv (.t 5), none⟩,
  ⟨some 64, .bin .and (.t 63) (.c (.p (.s (.int .u8 31)))), none⟩,
  ⟨some 65, .toInt .i32 (.t 64), none⟩,
  ⟨some 66, .bin .shl (.t 65) (.c (.p (.s (.int .u64 6)))), none⟩,
  ⟨some 67, .mv (.t 10), none⟩,
  ⟨some 68, .bin .and (.t 67) (.c (.p (.s (.int .u8 63)))), none⟩,
  ⟨some 69, .toInt .i32 (.t 68), none⟩,
  ⟨some 70, .bin .or (.t 66) (.t 69), none⟩,
  ⟨some 2, .mv (.t 70), none⟩,
  ⟨some 3, .mv (.c (.p (.s (.int .i64 2)))), none⟩]
abbrev r57_18 : List CO := [
  ⟨some 71, .mv (.t 0), none⟩,
  ⟨some 72, .iaddrS 1 (.t 71) (.c (.p (.s (.int .i64 2)))), none⟩,
  ⟨some 73, .load false 1 (.t 72), none⟩,
  ⟨some 11, .mv (.t 73), none⟩]
abbrev r57_19 : List CO := [
  ⟨some 74, .mv (.t 11), none⟩,
  ⟨some 75, .bin .lss (.t 74) (.c (.p (.s (.int .u8 128)))), none⟩,
  ⟨some 76, .mv (.t 75), none⟩,
  ⟨some 77, .mv (.t 11), some (76, false)⟩,
  ⟨some 78, .bin .lss (.c (.p (.s (.int .u8 191)))) (.t 77), some (76, false)⟩,
  ⟨some 79, .pick (.t 76) (.c (.p (.s (.bool true)))) (.t 78), none⟩]
abbrev r57_20 : List CO := [
  ⟨some 2, .mv (.c (.p (.s (.int .i32 65533)))), none⟩,
  ⟨some 3, .mv (.c (.p (.s (.int .i64 1)))), none⟩]
abbrev r57_21 : List CO := [
  ⟨some 80, .mv (.t 8), none⟩,
  ⟨some 81, .bin .leq (.t 80) (.c (.p (.s (.int .i64 3)))), none⟩]
abbrev r57_22 : List CO := [
  ⟨some 82, .mv (.t 5), none⟩,
  ⟨some 83, .bin .and (.t 82) (.c (.p (.s (.int .u8 15)))), none⟩,
  ⟨some 84, .toInt .i32 (.t 83), none⟩,
  ⟨some 85, .bin .shl (.t 84) (.c (.p (.s (.int .u64 12)))), none⟩,
  ⟨some 86, .mv (.t 10), none⟩,
  ⟨some 87, .bin .and (.t 86) (.c (.p (.s (.int .u8 63)))), none⟩,
  ⟨some 88, .toInt .i32 (.t 87), none⟩,
  ⟨some 89, .bin .shl (.t 88) (.c (.p (.s (.int .u64 6)))), none⟩,
  ⟨some 90, .bin .or (.t 85) (.t 89), none⟩,
  ⟨some 91, .mv (.t 11), none⟩,
  ⟨some 92, .bin .and (.t 91) (.c (.p (.s (.int .u8 63)))), none⟩,
  ⟨some 93, .toInt .i32 (.t 92), none⟩,
  ⟨some 94, .bin .or (.t 90) (.t 93), none⟩,
  ⟨some 2, .mv (.t 94), none⟩,
  ⟨some 3, .mv (.c (.p (.s (.int .i64 3)))), none⟩]
abbrev r57_23 : List CO := [
  ⟨some 95, .mv (.t 0), none⟩,
  ⟨some 96, .iaddrS 1 (.t 95) (.c (.p (.s (.int .i64 3)))), none⟩,
  ⟨some 97, .load false 1 (.t 96), none⟩,
  ⟨some 12, .mv (.t 97), none⟩]
abbrev r57_24 : List CO := [
  ⟨some 98, .mv (.t 12), none⟩,
  ⟨some 99, .bin .lss (.t 98) (.c (.p (.s (.int .u8 128)))), none⟩,
  ⟨some 100, .mv (.t 99), none⟩,
  ⟨some 101, .mv (.t 12), some (100, false)⟩,
  ⟨some 102, .bin .lss (.c (.p (.s (.int .u8 191)))) (.t 101), some (100, false)⟩,
  ⟨some 103, .pick (.t 100) (.c (.p (.s (.bool true)))) (.t 102), none⟩]
abbrev r57_25 : List CO := [
  ⟨some 2, .mv (.c (.p (.s (.int .i32 65533)))), none⟩,
  ⟨some 3, .mv (.c (.p (.s (.int .i64 1)))), none⟩]
abbrev r57_26 : List CO := [
  ⟨some 104, .mv (.t 5), none⟩,
  ⟨some 105, .bin .and (.t 104) (.c (.p (.s (.int .u8 7)))), none⟩,
  ⟨some 106, .toInt .i32 (.t 105), none⟩,
  ⟨some 107, .bin .shl (.t 106) (.c (.p (.s (.int .u64 18)))), none⟩,
  ⟨some 108, .mv (.t 10), none⟩,
  ⟨some 109, .bin .and (.t 108) (.c (.p (.s (.int .u8 63)))), none⟩,
  ⟨some 110, .toInt .i32 (.t 109), none⟩,
  ⟨some 111, .bin .shl (.t 110) (.c (.p (.s (.int .u64 12)))), none⟩,
  ⟨some 112, .bin .or (.t 107) (.t 111), none⟩,
  ⟨some 113, .mv (.t 11), none⟩,
  ⟨some 114, .bin .and (.t 113) (.c (.p (.s (.int .u8 63)))), none⟩,
  ⟨some 115, .toInt .i32 (.t 114), none⟩,
  ⟨some 116, .bin .shl (.t 115) (.c (.p (.s (.int .u64 6)))), none⟩,
  ⟨some 117, .bin .or (.t 112) (.t 116), none⟩,
  ⟨some 118, .mv (.t 12), none⟩,
  ⟨some 119, .bin .and (.t 118) (.c (.p (.s (.int .u8 63)))), none⟩,
  ⟨some 120, .toInt .i32 (.t 119), none⟩,
  ⟨some 121, .bin .or (.t 117) (.t 120), none⟩,
  ⟨some 2, .mv (.t 121), none⟩,
  ⟨some 3, .mv (.c (.p (.s (.int .i64 4)))), none⟩]
abbrev c57 : CC := .seq (.reg r57_0) (.seq (.reg r57_1) (.seq (.seq (.reg r57_2) (.cond (.t 16) (.seq (.reg r57_3) (.ret)) (.skip))) (.rest [0, 4] (.seq (.reg r57_4) (.rest [0, 4, 5] (.seq (.reg r57_5) (.rest [0, 4, 5, 6] (.seq (.seq (.reg r57_6) (.cond (.t 24) (.seq (.reg r57_7) (.rest [0, 7] (.seq (.reg r57_8) (.rest [2, 3] (.ret))))) (.skip))) (.rest [0, 4, 5, 6] (.seq (.reg r57_9) (.rest [0, 4, 5, 6, 8] (.seq (.reg r57_10) (.rest [0, 4, 5, 8, 9] (.seq (.seq (.reg r57_11) (.cond (.t 47) (.seq (.reg r57_12) (.ret)) (.skip))) (.rest [0, 5, 8, 9] (.seq (.reg r57_13) (.rest [0, 5, 8, 9, 10] (.seq (.seq (.reg r57_14) (.rest [0, 5, 8, 10, 60] (.cond (.t 60) (.seq (.reg r57_15) (.ret)) (.skip)))) (.rest [0, 5, 8, 10] (.seq (.seq (.reg r57_16) (.cond (.t 62) (.seq (.reg r57_17) (.rest [2, 3] (.ret))) (.skip))) (.rest [0, 5, 8, 10] (.seq (.reg r57_18) (.rest [0, 5, 8, 10, 11] (.seq (.seq (.reg r57_19) (.rest [0, 5, 8, 10, 11, 79] (.cond (.t 79) (.seq (.reg r57_20) (.ret)) (.skip)))) (.rest [0, 5, 8, 10, 11] (.seq (.seq (.reg r57_21) (.cond (.t 81) (.seq (.reg r57_22) (.rest [2, 3] (.ret))) (.skip))) (.rest [0, 5, 10, 11] (.seq (.reg r57_23) (.rest [5, 10, 11, 12] (.seq (.seq (.reg r57_24) (.rest [5, 10, 11, 12, 103] (.cond (.t 103) (.seq (.reg r57_25) (.ret)) (.skip)))) (.rest [5, 10, 11, 12] (.seq (.reg r57_26) (.rest [2, 3] (.ret))))))))))))))))))))))))))))))))))
theorem F57 : Fun Tryd.prog 57 122 c57 [.tmp 2, .tmp 3] 1 := ⟨⟨Tryd.f57, _, Tryd.func57, rfl, by kernel_rfl, Tryd.ntmps57, by kernel_rfl, by kernel_rfl⟩, by decide⟩

end Go.Proofs.YthigibfnpfamdaaDoor
