/- Code of functions of the given program in compact form, printed by a program of this repository (wip/tools/gen.py) out of what Lean prints of the loaded functions; each is checked by the kernel. -/
import Derived.Test.YtnhkcalanpepoaaSz
import Derived.Test.YtnhkcalanpepoaaProg
import Derived.KernelRfl
namespace Go.Proofs.Ytnhkcalanpepoaa
open Go Go.Shade

/-- linnet/linnetlaw01.QueueOrder -/
abbrev r3_0 : List CO := [
  ⟨some 4, .mv (.c (.p (.s (.bool false)))), none⟩]
abbrev r3_1 : List CO := [
  ⟨some 18, .mv (.t 0), none⟩,
  ⟨some 19, .toInt .i64 (.t 18), none⟩,
  ⟨some 20, .bin .add (.c (.p (.s (.int .i64 1)))) (.t 19), none⟩,
  ⟨some 21, .call (.c (.fn (.func 9) [] [])) [.t 20], none⟩,
  ⟨some 17, .mv (.t 21), none⟩,
  ⟨some 22, .extract 0 (.t 17), none⟩,
  ⟨some 23, .extract 1 (.t 17), none⟩,
  ⟨some 5, .alloc ([.s (.int .i64 0), .s (.slice none 0 0)]), none⟩,
  ⟨none, .store 2 (.t 5) (.t 22), none⟩,
  ⟨some 6, .mv (.t 23), none⟩]
abbrev r3_2 : List CO := [
  ⟨some 24, .mv (.t 6), none⟩,
  ⟨some 25, .bin .neq (.t 24) (.c (.p (.s (.int .i64 0)))), none⟩]
abbrev r3_3 : List CO := [
  ⟨some 4, .mv (.c (.p (.s (.bool false)))), none⟩]
abbrev r3_4 : List CO := [
  ⟨some 7, .mv (.c (.p (.s (.slice none 0 0)))), none⟩,
  ⟨some 8, .mv (.c (.p (.s (.slice none 0 0)))), none⟩]
abbrev r3_5 : List CO := [
  ⟨some 9, .mv (.c (.p (.s (.int .i64 0)))), none⟩]
abbrev r3_6 : List CO := [
  ⟨some 26, .mv (.t 9), none⟩,
  ⟨some 27, .mv (.t 1), none⟩,
  ⟨some 28, .len (.t 27), none⟩,
  ⟨some 29, .bin .lss (.t 26) (.t 28), none⟩,
  ⟨some 30, .mv (.t 29), none⟩,
  ⟨some 31, .mv (.t 9), some (30, true)⟩,
  ⟨some 32, .bin .lss (.t 31) (.c (.p (.s (.int .i64 60)))), some (30, true)⟩,
  ⟨some 33, .pick (.t 30) (.t 32) (.c (.p (.s (.bool false)))), none⟩]
abbrev r3_8 : List CO := [
  ⟨some 36, .mv (.t 1), none⟩,
  ⟨some 37, .mv (.t 9), none⟩,
  ⟨some 38, .iaddrS 2 (.t 36) (.t 37), none⟩,
  ⟨some 39, .faddr 0 (.t 38), none⟩,
  ⟨some 40, .load false 1 (.t 39), none⟩,
  ⟨some 41, .call (.c (.fn (.func 10) [] [])) [.t 40], none⟩,
  ⟨some 10, .mv (.t 41), none⟩]
abbrev r3_9 : List CO := [
  ⟨some 42, .mv (.t 10), none⟩,
  ⟨some 43, .len (.t 42), none⟩,
  ⟨some 44, .bin .gtr (.t 43) (.c (.p (.s (.int .i64 0)))), none⟩]
abbrev r3_10 : List CO := [
  ⟨some 46, .load true 2 (.t 5), none⟩,
  ⟨some 47, .mv (.t 10), none⟩,
  ⟨some 48, .call (.c (.fn (.func 11) [] [])) [.t 46, .t 47], none⟩,
  ⟨some 45, .mv (.t 48), none⟩,
  ⟨some 49, .extract 0 (.t 45), none⟩,
  ⟨some 50, .extract 1 (.t 45), none⟩,
  ⟨some 51, .extract 2 (.t 45), none⟩,
  ⟨some 11, .alloc ([.s (.int .i64 0), .s (.slice none 0 0)]), none⟩,
  ⟨none, .store 2 (.t 11) (.t 49), none⟩,
  ⟨some 12, .mv (.t 50), none⟩,
  ⟨some 13, .mv (.t 51), none⟩]
abbrev r3_11 : List CO := [
  ⟨some 52, .mv (.t 13), none⟩,
  ⟨some 53, .bin .neq (.t 52) (.c (.p (.s (.int .i64 0)))), none⟩,
  ⟨some 54, .mv (.t 53), none⟩,
  ⟨some 55, .mv (.t 12), some (54, false)⟩,
  ⟨some 56, .bin .lss (.t 55) (.c (.p (.s (.int .i64 0)))), some (54, false)⟩,
  ⟨some 57, .pick (.t 54) (.c (.p (.s (.bool true)))) (.t 56), none⟩,
  ⟨some 58, .mv (.t 57), none⟩,
  ⟨some 59, .mv (.t 12), some (58, false)⟩,
  ⟨some 60, .mv (.t 10), some (58, false)⟩,
  ⟨some 61, .len (.t 60), some (58, false)⟩,
  ⟨some 62, .bin .gtr (.t 59) (.t 61), some (58, false)⟩,
  ⟨some 63, .pick (.t 58) (.c (.p (.s (.bool true)))) (.t 62), none⟩,
  ⟨some 64, .mv (.t 63), none⟩,
  ⟨some 65, .mv (.t 12), some (64, false)⟩,
  ⟨some 66, .mv (.t 10), some (64, false)⟩,
  ⟨some 67, .len (.t 66), some (64, false)⟩,
  ⟨some 68, .bin .lss (.t 65) (.t 67), some (64, false)⟩,
  ⟨some 69, .mv (.t 68), some (64, false)⟩,
  ⟨some 70, .faddr 1 (.t 11), some (69, true)⟩,
  ⟨some 71, .load false 1 (.t 70), some (69, true)⟩,
  ⟨some 72, .len (.t 71), some (69, true)⟩,
  ⟨some 73, .faddr 0 (.t 11), some (69, true)⟩,
  ⟨some 74, .load false 1 (.t 73), some (69, true)⟩,
  ⟨some 75, .bin .neq (.t 72) (.t 74), some (69, true)⟩,
  ⟨some 76, .pick (.t 69) (.t 75) (.c (.p (.s (.bool false)))), some (64, false)⟩,
  ⟨some 77, .pick (.t 64) (.c (.p (.s (.bool true)))) (.t 76), none⟩]
abbrev r3_12 : List CO := [
  ⟨some 4, .mv (.c (.p (.s (.bool false)))), none⟩]
abbrev r3_13 : List CO := [
  ⟨some 78, .mv (.t 7), none⟩,
  ⟨some 79, .mv (.t 10), none⟩,
  ⟨some 80, .mv (.t 12), none⟩,
  ⟨some 81, .slice 1 (.t 79) none (some (.t 80)), none⟩,
  ⟨some 82, .append 1 1 ([.s (.int .u8 0)]) (.t 78) (.t 81), none⟩,
  ⟨some 7, .mv (.t 82), none⟩]
abbrev r3_14 : List CO := [
  ⟨some 83, .load true 2 (.t 11), none⟩,
  ⟨none, .store 2 (.t 5) (.t 83), none⟩]
abbrev r3_15 : List CO := [
  ⟨some 85, .load true 2 (.t 5), none⟩,
  ⟨some 86, .mv (.t 1), none⟩,
  ⟨some 87, .mv (.t 9), none⟩,
  ⟨some 88, .iaddrS 2 (.t 86) (.t 87), none⟩,
  ⟨some 89, .faddr 1 (.t 88), none⟩,
  ⟨some 90, .load false 1 (.t 89), none⟩,
  ⟨some 91, .call (.c (.fn (.func 12) [] [])) [.t 85, .t 90], none⟩,
  ⟨some 84, .mv (.t 91), none⟩,
  ⟨some 92, .extract 0 (.t 84), none⟩,
  ⟨some 93, .extract 1 (.t 84), none⟩,
  ⟨some 94, .extract 2 (.t 84), none⟩,
  ⟨some 14, .alloc ([.s (.int .i64 0), .s (.slice none 0 0)]), none⟩,
  ⟨none, .store 2 (.t 14) (.t 92), none⟩,
  ⟨some 15, .mv (.t 93), none⟩,
  ⟨some 16, .mv (.t 94), none⟩]
abbrev b3_15 : List (List Nat) := [[], [], [], [1, 2], [3], [4], [0, 5], [6], [7], [7], [7], [], [11, 8, 6, 0, 1, 2, 3, 4, 5, 6, 7, 8, 11], [9, 12, 0, 1, 2, 3, 4, 5, 6, 7, 8, 9, 11, 12], [10, 13, 0, 1, 2, 3, 4, 5, 6, 7, 8, 9, 10, 11, 12, 13]]
abbrev r3_16 : List CO := [
  ⟨some 95, .mv (.t 16), none⟩,
  ⟨some 96, .bin .neq (.t 95) (.c (.p (.s (.int .i64 0)))), none⟩,
  ⟨some 97, .mv (.t 96), none⟩,
  ⟨some 98, .mv (.t 15), some (97, false)⟩,
  ⟨some 99, .len (.t 98), some (97, false)⟩,
  ⟨some 100, .mv (.t 1), some (97, false)⟩,
  ⟨some 101, .mv (.t 9), some (97, false)⟩,
  ⟨some 102, .iaddrS 2 (.t 100) (.t 101), some (97, false)⟩,
  ⟨some 103, .faddr 1 (.t 102), some (97, false)⟩,
  ⟨some 104, .load false 1 (.t 103), some (97, false)⟩,
  ⟨some 105, .minmax true (.t 104) (.c (.p (.s (.int .i64 0)))), some (97, false)⟩,
  ⟨some 106, .bin .gtr (.t 99) (.t 105), some (97, false)⟩,
  ⟨some 107, .pick (.t 97) (.c (.p (.s (.bool true)))) (.t 106), none⟩]
abbrev r3_17 : List CO := [
  ⟨some 4, .mv (.c (.p (.s (.bool false)))), none⟩]
abbrev r3_18 : List CO := [
  ⟨some 108, .mv (.t 8), none⟩,
  ⟨some 109, .mv (.t 15), none⟩,
  ⟨some 110, .append 1 1 ([.s (.int .u8 0)]) (.t 108) (.t 109), none⟩,
  ⟨some 8, .mv (.t 110), none⟩]
abbrev r3_19 : List CO := [
  ⟨some 111, .load true 2 (.t 14), none⟩,
  ⟨none, .store 2 (.t 5) (.t 111), none⟩]
abbrev k3_1 : CC := .seq (.reg r3_8) (.rest [0, 1, 5, 7, 8, 9, 10] (.seq (.seq (.reg r3_9) (.cond (.t 44) (.seq (.reg r3_10) (.rest [0, 1, 5, 7, 8, 9, 10, 11, 12, 13] (.seq (.seq (.reg r3_11) (.rest [0, 1, 5, 7, 8, 9, 10, 11, 12, 77] (.cond (.t 77) (.seq (.reg r3_12) (.ret)) (.skip)))) (.rest [0, 1, 5, 7, 8, 9, 10, 11, 12] (.seq (.reg r3_13) (.rest [0, 1, 5, 7, 8, 9, 11] (.seq (.reg r3_14) (.exit 1)))))))) (.skip))) (.rest [0, 1, 5, 7, 8, 9] (.seq (.regd r3_15 b3_15) (.rest [0, 1, 5, 7, 8, 9, 14, 15, 16] (.seq (.seq (.reg r3_16) (.rest [0, 1, 5, 7, 8, 9, 14, 15, 107] (.cond (.t 107) (.seq (.reg r3_17) (.ret)) (.skip)))) (.rest [0, 1, 5, 7, 8, 9, 14, 15] (.seq (.reg r3_18) (.rest [0, 1, 5, 7, 8, 9, 14] (.reg r3_19))))))))))
abbrev r3_7 : List CO := [
  ⟨some 34, .mv (.t 9), none⟩,
  ⟨some 35, .bin .add (.t 34) (.c (.p (.s (.int .i64 1)))), none⟩,
  ⟨some 9, .mv (.t 35), none⟩]
abbrev l3_22 : CC := .seq (.seq (.reg r3_6) (.rest [0, 1, 5, 7, 8, 9, 33] (.cond (.t 33) (.skip) (.exit 0)))) (.rest [0, 1, 5, 7, 8, 9] (.seq (.block 1 k3_1) (.rest [0, 1, 5, 7, 8, 9] (.reg r3_7))))
abbrev k3_0 : CC := .loop l3_22
abbrev r3_20 : List CO := [
  ⟨some 112, .bslice 1 0 ([.s (.int .u8 0)]) [], none⟩,
  ⟨some 113, .mv (.t 8), none⟩,
  ⟨some 114, .append 1 1 ([.s (.int .u8 0)]) (.t 112) (.t 113), none⟩,
  ⟨some 115, .faddr 1 (.t 5), none⟩,
  ⟨some 116, .load false 1 (.t 115), none⟩,
  ⟨some 117, .append 1 1 ([.s (.int .u8 0)]) (.t 114) (.t 116), none⟩,
  ⟨some 118, .mv (.t 7), none⟩,
  ⟨some 119, .call (.c (.fn (.func 13) [] [])) [.t 117, .t 118], none⟩,
  ⟨some 120, .mv (.t 119), none⟩,
  ⟨some 121, .faddr 0 (.t 5), some (120, true)⟩,
  ⟨some 122, .load false 1 (.t 121), some (120, true)⟩,
  ⟨some 123, .mv (.t 0), some (120, true)⟩,
  ⟨some 124, .toInt .i64 (.t 123), some (120, true)⟩,
  ⟨some 125, .bin .add (.c (.p (.s (.int .i64 1)))) (.t 124), some (120, true)⟩,
  ⟨some 126, .bin .eql (.t 122) (.t 125), some (120, true)⟩,
  ⟨some 127, .pick (.t 120) (.t 126) (.c (.p (.s (.bool false)))), none⟩,
  ⟨some 128, .mv (.t 127), none⟩,
  ⟨some 129, .call (.c (.fn (.func 14) [] [])) [], some (128, true)⟩,
  ⟨some 130, .pick (.t 128) (.t 129) (.c (.p (.s (.bool false)))), none⟩,
  ⟨some 4, .mv (.t 130), none⟩]
abbrev b3_20 : List (List Nat) := [[], [], [0, 1], [], [3], [2, 4, 2], [], [5, 6, 5], [7, 7], [8], [9, 8], [8], [11, 8], [12, 8], [10, 13, 8], [8, 14], [15, 8], [16, 16], [16, 17], [18, 17, 0, 1, 2, 3, 4, 5, 6, 7, 8, 9, 10, 11, 12, 13, 14, 15, 16, 17, 18]]
abbrev c3 : CC := .seq (.reg r3_0) (.seq (.reg r3_1) (.rest [0, 1, 5, 6] (.seq (.seq (.reg r3_2) (.cond (.t 25) (.seq (.reg r3_3) (.ret)) (.skip))) (.seq (.reg r3_4) (.seq (.seq (.reg r3_5) (.block 0 k3_0)) (.rest [0, 5, 7, 8] (.seq (.regd r3_20 b3_20) (.rest [4] (.ret)))))))))
theorem F3 : Fun Try.prog 3 131 c3 [.tmp 4] 2 := ⟨⟨Try.f3, _, Try.func3, rfl, by kernel_rfl, Try.ntmps3, by kernel_rfl, by kernel_rfl⟩, by decide⟩

/-- linnet/linnetlaw01.QueueParts -/
abbrev r4_0 : List CO := [
  ⟨some 3, .box (.t 0), none⟩,
  ⟨some 4, .box (.t 1), none⟩,
  ⟨some 5, .box (.t 2), none⟩,
  ⟨some 6, .mv (.c (.p (.s (.bool false)))), none⟩]
abbrev r4_1 : List CO := [
  ⟨some 29, .load true 2 (.t 3), none⟩,
  ⟨some 30, .call (.c (.fn (.func 15) [] [])) [.t 29], none⟩,
  ⟨none, .store 2 (.t 3) (.t 30), none⟩]
abbrev r4_2 : List CO := [
  ⟨some 31, .faddr 0 (.t 4), none⟩,
  ⟨some 32, .load false 1 (.t 31), none⟩,
  ⟨some 33, .call (.c (.fn (.func 10) [] [])) [.t 32], none⟩,
  ⟨some 34, .faddr 0 (.t 5), none⟩,
  ⟨some 35, .load false 1 (.t 34), none⟩,
  ⟨some 36, .call (.c (.fn (.func 10) [] [])) [.t 35], none⟩,
  ⟨some 37, .faddr 1 (.t 4), none⟩,
  ⟨some 38, .load false 1 (.t 37), none⟩,
  ⟨some 39, .minmax true (.t 38) (.c (.p (.s (.int .i64 0)))), none⟩,
  ⟨some 40, .minmax false (.t 39) (.c (.p (.s (.int .i64 300)))), none⟩,
  ⟨some 41, .faddr 1 (.t 5), none⟩,
  ⟨some 42, .load false 1 (.t 41), none⟩,
  ⟨some 43, .minmax true (.t 42) (.c (.p (.s (.int .i64 0)))), none⟩,
  ⟨some 44, .minmax false (.t 43) (.c (.p (.s (.int .i64 300)))), none⟩,
  ⟨some 7, .mv (.t 33), none⟩,
  ⟨some 8, .mv (.t 36), none⟩,
  ⟨some 9, .mv (.t 40), none⟩,
  ⟨some 10, .mv (.t 44), none⟩]
abbrev b4_2 : List (List Nat) := [[], [0], [1], [], [3], [4, 2], [], [6], [7], [8], [], [10], [11], [12], [2, 5, 0, 1, 2], [5, 14, 0, 1, 2, 3, 4, 5, 14], [9, 15, 0, 1, 2, 3, 4, 5, 6, 7, 8, 9, 14, 15], [13, 16, 0, 1, 2, 3, 4, 5, 6, 7, 8, 9, 10, 11, 12, 13, 14, 15, 16]]
abbrev r4_3 : List CO := [
  ⟨some 46, .load true 2 (.t 3), none⟩,
  ⟨some 47, .bslice 1 0 ([.s (.int .u8 0)]) [], none⟩,
  ⟨some 48, .mv (.t 7), none⟩,
  ⟨some 49, .append 1 1 ([.s (.int .u8 0)]) (.t 47) (.t 48), none⟩,
  ⟨some 50, .mv (.t 8), none⟩,
  ⟨some 51, .append 1 1 ([.s (.int .u8 0)]) (.t 49) (.t 50), none⟩,
  ⟨some 52, .call (.c (.fn (.func 11) [] [])) [.t 46, .t 51], none⟩,
  ⟨some 45, .mv (.t 52), none⟩,
  ⟨some 53, .extract 0 (.t 45), none⟩,
  ⟨some 54, .extract 1 (.t 45), none⟩,
  ⟨some 55, .extract 2 (.t 45), none⟩,
  ⟨some 11, .alloc ([.s (.int .i64 0), .s (.slice none 0 0)]), none⟩,
  ⟨none, .store 2 (.t 11) (.t 53), none⟩,
  ⟨some 12, .mv (.t 54), none⟩,
  ⟨some 13, .mv (.t 55), none⟩]
abbrev b4_3 : List (List Nat) := [[], [], [], [1, 2], [], [3, 4, 3], [0, 5, 5], [6], [7], [7], [7], [], [11, 8, 6, 0, 1, 2, 3, 4, 5, 6, 7, 8, 11], [9, 12, 0, 1, 2, 3, 4, 5, 6, 7, 8, 9, 11, 12], [10, 13, 0, 1, 2, 3, 4, 5, 6, 7, 8, 9, 10, 11, 12, 13]]
abbrev r4_4 : List CO := [
  ⟨some 57, .load true 2 (.t 3), none⟩,
  ⟨some 58, .mv (.t 7), none⟩,
  ⟨some 59, .call (.c (.fn (.func 11) [] [])) [.t 57, .t 58], none⟩,
  ⟨some 56, .mv (.t 59), none⟩,
  ⟨some 60, .extract 0 (.t 56), none⟩,
  ⟨some 61, .extract 1 (.t 56), none⟩,
  ⟨some 62, .extract 2 (.t 56), none⟩,
  ⟨some 14, .alloc ([.s (.int .i64 0), .s (.slice none 0 0)]), none⟩,
  ⟨none, .store 2 (.t 14) (.t 60), none⟩,
  ⟨some 15, .mv (.t 61), none⟩,
  ⟨some 16, .mv (.t 62), none⟩]
abbrev r4_5 : List CO := [
  ⟨some 64, .load true 2 (.t 14), none⟩,
  ⟨some 65, .mv (.t 8), none⟩,
  ⟨some 66, .call (.c (.fn (.func 11) [] [])) [.t 64, .t 65], none⟩,
  ⟨some 63, .mv (.t 66), none⟩,
  ⟨some 67, .extract 0 (.t 63), none⟩,
  ⟨some 68, .extract 1 (.t 63), none⟩,
  ⟨some 69, .extract 2 (.t 63), none⟩,
  ⟨some 17, .alloc ([.s (.int .i64 0), .s (.slice none 0 0)]), none⟩,
  ⟨none, .store 2 (.t 17) (.t 67), none⟩,
  ⟨some 18, .mv (.t 68), none⟩,
  ⟨some 19, .mv (.t 69), none⟩]
abbrev r4_6 : List CO := [
  ⟨some 70, .mv (.t 13), none⟩,
  ⟨some 71, .bin .neq (.t 70) (.c (.p (.s (.int .i64 0)))), none⟩]
abbrev r4_7 : List CO := [
  ⟨some 72, .mv (.t 16), none⟩,
  ⟨some 73, .mv (.t 13), none⟩,
  ⟨some 74, .bin .eql (.t 72) (.t 73), none⟩,
  ⟨some 75, .mv (.t 74), none⟩,
  ⟨some 76, .mv (.t 19), some (75, true)⟩,
  ⟨some 77, .mv (.t 13), some (75, true)⟩,
  ⟨some 78, .bin .eql (.t 76) (.t 77), some (75, true)⟩,
  ⟨some 79, .pick (.t 75) (.t 78) (.c (.p (.s (.bool false)))), none⟩,
  ⟨some 80, .mv (.t 79), none⟩,
  ⟨some 81, .mv (.t 12), some (80, true)⟩,
  ⟨some 82, .mv (.t 15), some (80, true)⟩,
  ⟨some 83, .bin .add (.t 81) (.t 82), some (80, true)⟩,
  ⟨some 84, .mv (.t 18), some (80, true)⟩,
  ⟨some 85, .bin .add (.t 83) (.t 84), some (80, true)⟩,
  ⟨some 86, .bin .eql (.t 85) (.c (.p (.s (.int .i64 0)))), some (80, true)⟩,
  ⟨some 87, .pick (.t 80) (.t 86) (.c (.p (.s (.bool false)))), none⟩,
  ⟨some 88, .mv (.t 87), none⟩,
  ⟨some 89, .call (.c (.fn (.func 14) [] [])) [], some (88, true)⟩,
  ⟨some 90, .pick (.t 88) (.t 89) (.c (.p (.s (.bool false)))), none⟩,
  ⟨some 6, .mv (.t 90), none⟩]
abbrev r4_8 : List CO := [
  ⟨some 91, .mv (.t 16), none⟩,
  ⟨some 92, .bin .neq (.t 91) (.c (.p (.s (.int .i64 0)))), none⟩,
  ⟨some 93, .mv (.t 92), none⟩,
  ⟨some 94, .mv (.t 19), some (93, false)⟩,
  ⟨some 95, .bin .neq (.t 94) (.c (.p (.s (.int .i64 0)))), some (93, false)⟩,
  ⟨some 96, .pick (.t 93) (.c (.p (.s (.bool true)))) (.t 95), none⟩,
  ⟨some 97, .mv (.t 96), none⟩,
  ⟨some 98, .mv (.t 12), some (97, false)⟩,
  ⟨some 99, .mv (.t 15), some (97, false)⟩,
  ⟨some 100, .mv (.t 18), some (97, false)⟩,
  ⟨some 101, .bin .add (.t 99) (.t 100), some (97, false)⟩,
  ⟨some 102, .bin .neq (.t 98) (.t 101), some (97, false)⟩,
  ⟨some 103, .pick (.t 97) (.c (.p (.s (.bool true)))) (.t 102), none⟩,
  ⟨some 104, .mv (.t 103), none⟩,
  ⟨some 105, .load true 2 (.t 11), some (104, false)⟩,
  ⟨some 106, .load true 2 (.t 17), some (104, false)⟩,
  ⟨some 107, .call (.c (.fn (.func 16) [] [])) [.t 105, .t 106], some (104, false)⟩,
  ⟨some 108, .un .not (.t 107), some (104, false)⟩,
  ⟨some 109, .pick (.t 104) (.c (.p (.s (.bool true)))) (.t 108), none⟩]
abbrev r4_9 : List CO := [
  ⟨some 6, .mv (.c (.p (.s (.bool false)))), none⟩]
abbrev r4_10 : List CO := [
  ⟨some 111, .load true 2 (.t 11), none⟩,
  ⟨some 112, .mv (.t 9), none⟩,
  ⟨some 113, .mv (.t 10), none⟩,
  ⟨some 114, .bin .add (.t 112) (.t 113), none⟩,
  ⟨some 115, .call (.c (.fn (.func 12) [] [])) [.t 111, .t 114], none⟩,
  ⟨some 110, .mv (.t 115), none⟩,
  ⟨some 116, .extract 0 (.t 110), none⟩,
  ⟨some 117, .extract 1 (.t 110), none⟩,
  ⟨some 118, .extract 2 (.t 110), none⟩,
  ⟨some 20, .alloc ([.s (.int .i64 0), .s (.slice none 0 0)]), none⟩,
  ⟨none, .store 2 (.t 20) (.t 116), none⟩,
  ⟨some 21, .mv (.t 117), none⟩,
  ⟨some 22, .mv (.t 118), none⟩]
abbrev r4_11 : List CO := [
  ⟨some 120, .load true 2 (.t 11), none⟩,
  ⟨some 121, .mv (.t 9), none⟩,
  ⟨some 122, .call (.c (.fn (.func 12) [] [])) [.t 120, .t 121], none⟩,
  ⟨some 119, .mv (.t 122), none⟩,
  ⟨some 123, .extract 0 (.t 119), none⟩,
  ⟨some 124, .extract 1 (.t 119), none⟩,
  ⟨some 125, .extract 2 (.t 119), none⟩,
  ⟨some 23, .alloc ([.s (.int .i64 0), .s (.slice none 0 0)]), none⟩,
  ⟨none, .store 2 (.t 23) (.t 123), none⟩,
  ⟨some 24, .mv (.t 124), none⟩,
  ⟨some 25, .mv (.t 125), none⟩]
abbrev r4_12 : List CO := [
  ⟨some 127, .load true 2 (.t 23), none⟩,
  ⟨some 128, .mv (.t 10), none⟩,
  ⟨some 129, .call (.c (.fn (.func 12) [] [])) [.t 127, .t 128], none⟩,
  ⟨some 126, .mv (.t 129), none⟩,
  ⟨some 130, .extract 0 (.t 126), none⟩,
  ⟨some 131, .extract 1 (.t 126), none⟩,
  ⟨some 132, .extract 2 (.t 126), none⟩,
  ⟨some 26, .alloc ([.s (.int .i64 0), .s (.slice none 0 0)]), none⟩,
  ⟨none, .store 2 (.t 26) (.t 130), none⟩,
  ⟨some 27, .mv (.t 131), none⟩,
  ⟨some 28, .mv (.t 132), none⟩]
abbrev r4_13 : List CO := [
  ⟨some 133, .mv (.t 22), none⟩,
  ⟨some 134, .bin .eql (.t 133) (.c (.p (.s (.int .i64 0)))), none⟩,
  ⟨some 135, .mv (.t 134), none⟩,
  ⟨some 136, .mv (.t 25), some (135, true)⟩,
  ⟨some 137, .bin .eql (.t 136) (.c (.p (.s (.int .i64 0)))), some (135, true)⟩,
  ⟨some 138, .pick (.t 135) (.t 137) (.c (.p (.s (.bool false)))), none⟩,
  ⟨some 139, .mv (.t 138), none⟩,
  ⟨some 140, .mv (.t 28), some (139, true)⟩,
  ⟨some 141, .bin .eql (.t 140) (.c (.p (.s (.int .i64 0)))), some (139, true)⟩,
  ⟨some 142, .pick (.t 139) (.t 141) (.c (.p (.s (.bool false)))), none⟩,
  ⟨some 143, .mv (.t 142), none⟩,
  ⟨some 144, .load true 2 (.t 20), some (143, true)⟩,
  ⟨some 145, .load true 2 (.t 26), some (143, true)⟩,
  ⟨some 146, .call (.c (.fn (.func 16) [] [])) [.t 144, .t 145], some (143, true)⟩,
  ⟨some 147, .pick (.t 143) (.t 146) (.c (.p (.s (.bool false)))), none⟩,
  ⟨some 148, .mv (.t 147), none⟩,
  ⟨some 149, .mv (.t 21), some (148, true)⟩,
  ⟨some 150, .bslice 1 0 ([.s (.int .u8 0)]) [], some (148, true)⟩,
  ⟨some 151, .mv (.t 24), some (148, true)⟩,
  ⟨some 152, .append 1 1 ([.s (.int .u8 0)]) (.t 150) (.t 151), some (148, true)⟩,
  ⟨some 153, .mv (.t 27), some (148, true)⟩,
  ⟨some 154, .append 1 1 ([.s (.int .u8 0)]) (.t 152) (.t 153), some (148, true)⟩,
  ⟨some 155, .call (.c (.fn (.func 13) [] [])) [.t 149, .t 154], some (148, true)⟩,
  ⟨some 156, .pick (.t 148) (.t 155) (.c (.p (.s (.bool false)))), none⟩,
  ⟨some 157, .mv (.t 156), none⟩,
  ⟨some 158, .call (.c (.fn (.func 14) [] [])) [], some (157, true)⟩,
  ⟨some 159, .pick (.t 157) (.t 158) (.c (.p (.s (.bool false)))), none⟩,
  ⟨some 6, .mv (.t 159), none⟩]
abbrev c4 : CC := .seq (.reg r4_0) (.rest [3, 4, 5] (.seq (.reg r4_1) (.seq (.regd r4_2 b4_2) (.rest [3, 7, 8, 9, 10] (.seq (.regd r4_3 b4_3) (.rest [3, 7, 8, 9, 10, 11, 12, 13] (.seq (.reg r4_4) (.rest [8, 9, 10, 11, 12, 13, 14, 15, 16] (.seq (.reg r4_5) (.rest [9, 10, 11, 12, 13, 15, 16, 17, 18, 19] (.seq (.seq (.reg r4_6) (.cond (.t 71) (.seq (.reg r4_7) (.rest [6] (.ret))) (.skip))) (.rest [9, 10, 11, 12, 15, 16, 17, 18, 19] (.seq (.seq (.reg r4_8) (.rest [9, 10, 11, 109] (.cond (.t 109) (.seq (.reg r4_9) (.ret)) (.skip)))) (.rest [9, 10, 11] (.seq (.reg r4_10) (.rest [9, 10, 11, 20, 21, 22] (.seq (.reg r4_11) (.rest [10, 20, 21, 22, 23, 24, 25] (.seq (.reg r4_12) (.rest [20, 21, 22, 24, 25, 26, 27, 28] (.seq (.reg r4_13) (.rest [6] (.ret)))))))))))))))))))))))
theorem F4 : Fun Try.prog 4 160 c4 [.tmp 6] 3 := ⟨⟨Try.f4, _, Try.func4, rfl, by kernel_rfl, Try.ntmps4, by kernel_rfl, by kernel_rfl⟩, by decide⟩

/-- linnet/linnetlaw01.QueueRoom -/
abbrev r5_0 : List CO := [
  ⟨some 3, .box (.t 0), none⟩,
  ⟨some 6, .mv (.c (.p (.s (.bool false)))), none⟩]
abbrev r5_1 : List CO := [
  ⟨some 16, .load true 2 (.t 3), none⟩,
  ⟨some 17, .call (.c (.fn (.func 15) [] [])) [.t 16], none⟩,
  ⟨some 18, .mv (.t 1), none⟩,
  ⟨some 19, .call (.c (.fn (.func 10) [] [])) [.t 18], none⟩,
  ⟨none, .store 2 (.t 3) (.t 17), none⟩,
  ⟨some 1, .mv (.t 19), none⟩]
abbrev r5_2 : List CO := [
  ⟨some 21, .load true 2 (.t 3), none⟩,
  ⟨some 22, .mv (.t 1), none⟩,
  ⟨some 23, .call (.c (.fn (.func 11) [] [])) [.t 21, .t 22], none⟩,
  ⟨some 20, .mv (.t 23), none⟩,
  ⟨some 24, .extract 0 (.t 20), none⟩,
  ⟨some 25, .extract 1 (.t 20), none⟩,
  ⟨some 26, .extract 2 (.t 20), none⟩,
  ⟨some 7, .alloc ([.s (.int .i64 0), .s (.slice none 0 0)]), none⟩,
  ⟨none, .store 2 (.t 7) (.t 24), none⟩,
  ⟨some 8, .mv (.t 25), none⟩,
  ⟨some 9, .mv (.t 26), none⟩]
abbrev r5_3 : List CO := [
  ⟨some 27, .mv (.t 9), none⟩,
  ⟨some 28, .bin .neq (.t 27) (.c (.p (.s (.int .i64 0)))), none⟩]
abbrev r5_4 : List CO := [
  ⟨some 29, .call (.c (.fn (.func 14) [] [])) [], none⟩,
  ⟨some 6, .mv (.t 29), none⟩]
abbrev r5_5 : List CO := [
  ⟨some 30, .mv (.t 8), none⟩,
  ⟨some 31, .mv (.t 1), none⟩,
  ⟨some 32, .len (.t 31), none⟩,
  ⟨some 33, .faddr 0 (.t 3), none⟩,
  ⟨some 34, .load false 1 (.t 33), none⟩,
  ⟨some 35, .faddr 1 (.t 3), none⟩,
  ⟨some 36, .load false 1 (.t 35), none⟩,
  ⟨some 37, .len (.t 36), none⟩,
  ⟨some 38, .bin .sub (.t 34) (.t 37), none⟩,
  ⟨some 39, .minmax false (.t 32) (.t 38), none⟩,
  ⟨some 40, .bin .neq (.t 30) (.t 39), none⟩,
  ⟨some 41, .mv (.t 40), none⟩,
  ⟨some 42, .faddr 1 (.t 7), some (41, false)⟩,
  ⟨some 43, .load false 1 (.t 42), some (41, false)⟩,
  ⟨some 44, .len (.t 43), some (41, false)⟩,
  ⟨some 45, .faddr 1 (.t 3), some (41, false)⟩,
  ⟨some 46, .load false 1 (.t 45), some (41, false)⟩,
  ⟨some 47, .len (.t 46), some (41, false)⟩,
  ⟨some 48, .mv (.t 8), some (41, false)⟩,
  ⟨some 49, .bin .add (.t 47) (.t 48), some (41, false)⟩,
  ⟨some 50, .bin .neq (.t 44) (.t 49), some (41, false)⟩,
  ⟨some 51, .pick (.t 41) (.c (.p (.s (.bool true)))) (.t 50), none⟩]
abbrev r5_6 : List CO := [
  ⟨some 6, .mv (.c (.p (.s (.bool false)))), none⟩]
abbrev r5_7 : List CO := [
  ⟨some 53, .load true 2 (.t 7), none⟩,
  ⟨some 54, .mv (.t 2), none⟩,
  ⟨some 55, .call (.c (.fn (.func 12) [] [])) [.t 53, .t 54], none⟩,
  ⟨some 52, .mv (.t 55), none⟩,
  ⟨some 56, .extract 0 (.t 52), none⟩,
  ⟨some 57, .extract 1 (.t 52), none⟩,
  ⟨some 58, .extract 2 (.t 52), none⟩,
  ⟨some 10, .alloc ([.s (.int .i64 0), .s (.slice none 0 0)]), none⟩,
  ⟨none, .store 2 (.t 10) (.t 56), none⟩,
  ⟨some 11, .mv (.t 57), none⟩,
  ⟨some 12, .mv (.t 58), none⟩]
abbrev r5_8 : List CO := [
  ⟨some 60, .load true 2 (.t 10), none⟩,
  ⟨some 61, .mv (.t 11), none⟩,
  ⟨some 62, .call (.c (.fn (.func 11) [] [])) [.t 60, .t 61], none⟩,
  ⟨some 59, .mv (.t 62), none⟩,
  ⟨some 63, .extract 0 (.t 59), none⟩,
  ⟨some 64, .extract 1 (.t 59), none⟩,
  ⟨some 65, .extract 2 (.t 59), none⟩,
  ⟨some 13, .alloc ([.s (.int .i64 0), .s (.slice none 0 0)]), none⟩,
  ⟨none, .store 2 (.t 13) (.t 63), none⟩,
  ⟨some 14, .mv (.t 64), none⟩,
  ⟨some 15, .mv (.t 65), none⟩]
abbrev r5_9 : List CO := [
  ⟨some 66, .mv (.t 12), none⟩,
  ⟨some 67, .bin .eql (.t 66) (.c (.p (.s (.int .i64 0)))), none⟩,
  ⟨some 68, .mv (.t 67), none⟩,
  ⟨some 69, .mv (.t 15), some (68, true)⟩,
  ⟨some 70, .bin .eql (.t 69) (.c (.p (.s (.int .i64 0)))), some (68, true)⟩,
  ⟨some 71, .pick (.t 68) (.t 70) (.c (.p (.s (.bool false)))), none⟩,
  ⟨some 72, .mv (.t 71), none⟩,
  ⟨some 73, .mv (.t 14), some (72, true)⟩,
  ⟨some 74, .mv (.t 11), some (72, true)⟩,
  ⟨some 75, .len (.t 74), some (72, true)⟩,
  ⟨some 76, .bin .eql (.t 73) (.t 75), some (72, true)⟩,
  ⟨some 77, .pick (.t 72) (.t 76) (.c (.p (.s (.bool false)))), none⟩,
  ⟨some 78, .mv (.t 77), none⟩,
  ⟨some 79, .faddr 1 (.t 13), some (78, true)⟩,
  ⟨some 80, .load false 1 (.t 79), some (78, true)⟩,
  ⟨some 81, .len (.t 80), some (78, true)⟩,
  ⟨some 82, .faddr 1 (.t 7), some (78, true)⟩,
  ⟨some 83, .load false 1 (.t 82), some (78, true)⟩,
  ⟨some 84, .len (.t 83), some (78, true)⟩,
  ⟨some 85, .bin .eql (.t 81) (.t 84), some (78, true)⟩,
  ⟨some 86, .pick (.t 78) (.t 85) (.c (.p (.s (.bool false)))), none⟩,
  ⟨some 87, .mv (.t 86), none⟩,
  ⟨some 88, .faddr 1 (.t 10), some (87, true)⟩,
  ⟨some 89, .load false 1 (.t 88), some (87, true)⟩,
  ⟨some 90, .len (.t 89), some (87, true)⟩,
  ⟨some 91, .mv (.t 11), some (87, true)⟩,
  ⟨some 92, .len (.t 91), some (87, true)⟩,
  ⟨some 93, .bin .add (.t 90) (.t 92), some (87, true)⟩,
  ⟨some 94, .faddr 1 (.t 7), some (87, true)⟩,
  ⟨some 95, .load false 1 (.t 94), some (87, true)⟩,
  ⟨some 96, .len (.t 95), some (87, true)⟩,
  ⟨some 97, .bin .eql (.t 93) (.t 96), some (87, true)⟩,
  ⟨some 98, .pick (.t 87) (.t 97) (.c (.p (.s (.bool false)))), none⟩,
  ⟨some 99, .mv (.t 98), none⟩,
  ⟨some 100, .call (.c (.fn (.func 14) [] [])) [], some (99, true)⟩,
  ⟨some 101, .pick (.t 99) (.t 100) (.c (.p (.s (.bool false)))), none⟩,
  ⟨some 6, .mv (.t 101), none⟩]
abbrev c5 : CC := .seq (.reg r5_0) (.seq (.reg r5_1) (.rest [1, 2, 3] (.seq (.reg r5_2) (.rest [1, 2, 3, 7, 8, 9] (.seq (.seq (.reg r5_3) (.cond (.t 28) (.seq (.reg r5_4) (.ret)) (.skip))) (.rest [1, 2, 3, 7, 8] (.seq (.seq (.reg r5_5) (.rest [2, 7, 51] (.cond (.t 51) (.seq (.reg r5_6) (.ret)) (.skip)))) (.rest [2, 7] (.seq (.reg r5_7) (.rest [7, 10, 11, 12] (.seq (.reg r5_8) (.rest [7, 10, 11, 12, 13, 14, 15] (.seq (.reg r5_9) (.rest [6] (.ret)))))))))))))))
theorem F5 : Fun Try.prog 5 102 c5 [.tmp 6] 3 := ⟨⟨Try.f5, _, Try.func5, rfl, by kernel_rfl, Try.ntmps5, by kernel_rfl, by kernel_rfl⟩, by decide⟩

/-- linnet/linnetlaw01.QueueKeeps -/
abbrev r6_0 : List CO := [
  ⟨some 3, .box (.t 0), none⟩,
  ⟨some 6, .mv (.c (.p (.s (.bool false)))), none⟩]
abbrev r6_1 : List CO := [
  ⟨some 18, .load true 2 (.t 3), none⟩,
  ⟨some 19, .call (.c (.fn (.func 15) [] [])) [.t 18], none⟩,
  ⟨some 20, .mv (.t 1), none⟩,
  ⟨some 21, .call (.c (.fn (.func 10) [] [])) [.t 20], none⟩,
  ⟨none, .store 2 (.t 3) (.t 19), none⟩,
  ⟨some 1, .mv (.t 21), none⟩]
abbrev r6_2 : List CO := [
  ⟨some 22, .load true 2 (.t 3), none⟩,
  ⟨some 23, .call (.c (.fn (.func 17) [] [])) [.t 22], none⟩,
  ⟨some 24, .bin .neq (.t 23) (.c (.p (.s (.int .i64 0)))), none⟩]
abbrev r6_3 : List CO := [
  ⟨some 25, .call (.c (.fn (.func 14) [] [])) [], none⟩,
  ⟨some 6, .mv (.t 25), none⟩]
abbrev r6_4 : List CO := [
  ⟨some 26, .bslice 1 0 ([.s (.int .u8 0)]) [], none⟩,
  ⟨some 27, .faddr 1 (.t 3), none⟩,
  ⟨some 28, .load false 1 (.t 27), none⟩,
  ⟨some 29, .append 1 1 ([.s (.int .u8 0)]) (.t 26) (.t 28), none⟩,
  ⟨some 30, .mv (.t 1), none⟩,
  ⟨some 31, .toStr (.t 30), none⟩,
  ⟨some 7, .mv (.t 29), none⟩,
  ⟨some 8, .mv (.t 31), none⟩]
abbrev b6_4 : List (List Nat) := [[], [], [1], [0, 2], [], [4], [3, 3, 0, 1, 2, 3], [5, 6, 0, 1, 2, 3, 4, 5, 6]]
abbrev r6_5 : List CO := [
  ⟨some 33, .load true 2 (.t 3), none⟩,
  ⟨some 34, .mv (.t 1), none⟩,
  ⟨some 35, .call (.c (.fn (.func 11) [] [])) [.t 33, .t 34], none⟩,
  ⟨some 32, .mv (.t 35), none⟩,
  ⟨some 36, .extract 0 (.t 32), none⟩,
  ⟨some 37, .extract 1 (.t 32), none⟩,
  ⟨some 38, .extract 2 (.t 32), none⟩,
  ⟨some 9, .alloc ([.s (.int .i64 0), .s (.slice none 0 0)]), none⟩,
  ⟨none, .store 2 (.t 9) (.t 36), none⟩,
  ⟨some 10, .mv (.t 37), none⟩,
  ⟨some 11, .mv (.t 38), none⟩]
abbrev r6_6 : List CO := [
  ⟨some 39, .bslice 1 0 ([.s (.int .u8 0)]) [], none⟩,
  ⟨some 40, .faddr 1 (.t 9), none⟩,
  ⟨some 41, .load false 1 (.t 40), none⟩,
  ⟨some 42, .append 1 1 ([.s (.int .u8 0)]) (.t 39) (.t 41), none⟩,
  ⟨some 12, .mv (.t 42), none⟩]
abbrev r6_7 : List CO := [
  ⟨some 44, .load true 2 (.t 9), none⟩,
  ⟨some 45, .mv (.t 2), none⟩,
  ⟨some 46, .call (.c (.fn (.func 12) [] [])) [.t 44, .t 45], none⟩,
  ⟨some 43, .mv (.t 46), none⟩,
  ⟨some 47, .extract 0 (.t 43), none⟩,
  ⟨some 48, .extract 1 (.t 43), none⟩,
  ⟨some 49, .extract 2 (.t 43), none⟩,
  ⟨some 13, .alloc ([.s (.int .i64 0), .s (.slice none 0 0)]), none⟩,
  ⟨none, .store 2 (.t 13) (.t 47), none⟩,
  ⟨some 14, .mv (.t 48), none⟩,
  ⟨some 15, .mv (.t 49), none⟩]
abbrev r6_8 : List CO := [
  ⟨some 50, .mv (.t 14), none⟩,
  ⟨some 51, .len (.t 50), none⟩,
  ⟨some 52, .mv (.c (.p (.s (.int .i64 0)))), none⟩]
abbrev r6_9 : List CO := [
  ⟨some 53, .bin .lss (.t 52) (.t 51), none⟩]
abbrev r6_10 : List CO := [
  ⟨some 54, .mv (.t 52), none⟩,
  ⟨some 16, .mv (.t 54), none⟩]
abbrev r6_11 : List CO := [
  ⟨some 55, .mv (.t 14), none⟩,
  ⟨some 56, .mv (.t 16), none⟩,
  ⟨some 57, .iaddrS 1 (.t 55) (.t 56), none⟩,
  ⟨some 58, .load false 1 (.t 57), none⟩,
  ⟨some 59, .bin .xor (.t 58) (.c (.p (.s (.int .u8 255)))), none⟩,
  ⟨some 60, .iaddrS 1 (.t 55) (.t 56), none⟩,
  ⟨none, .store 1 (.t 60) (.t 59), none⟩]
abbrev k6_1 : CC := .seq (.reg r6_10) (.reg r6_11)
abbrev r6_12 : List CO := [
  ⟨some 61, .bin .add (.t 52) (.c (.p (.s (.int .i64 1)))), none⟩,
  ⟨some 52, .mv (.t 61), none⟩]
abbrev l6_15 : CC := .seq (.reg r6_9) (.seq (.cond (.t 53) (.skip) (.exit 0)) (.seq (.block 1 k6_1) (.rest [1, 3, 7, 8, 9, 12, 13, 14, 51, 52] (.reg r6_12))))
abbrev k6_0 : CC := .loop l6_15
abbrev r6_13 : List CO := [
  ⟨some 62, .faddr 1 (.t 13), none⟩,
  ⟨some 63, .load false 1 (.t 62), none⟩,
  ⟨some 64, .len (.t 63), none⟩,
  ⟨some 65, .mv (.c (.p (.s (.int .i64 0)))), none⟩]
abbrev r6_14 : List CO := [
  ⟨some 66, .bin .lss (.t 65) (.t 64), none⟩]
abbrev r6_15 : List CO := [
  ⟨some 67, .mv (.t 65), none⟩,
  ⟨some 17, .mv (.t 67), none⟩]
abbrev r6_16 : List CO := [
  ⟨some 68, .faddr 1 (.t 13), none⟩,
  ⟨some 69, .load false 1 (.t 68), none⟩,
  ⟨some 70, .mv (.t 17), none⟩,
  ⟨some 71, .iaddrS 1 (.t 69) (.t 70), none⟩,
  ⟨some 72, .load false 1 (.t 71), none⟩,
  ⟨some 73, .bin .xor (.t 72) (.c (.p (.s (.int .u8 255)))), none⟩,
  ⟨some 74, .iaddrS 1 (.t 69) (.t 70), none⟩,
  ⟨none, .store 1 (.t 74) (.t 73), none⟩]
abbrev k6_3 : CC := .seq (.reg r6_15) (.reg r6_16)
abbrev r6_17 : List CO := [
  ⟨some 75, .bin .add (.t 65) (.c (.p (.s (.int .i64 1)))), none⟩,
  ⟨some 65, .mv (.t 75), none⟩]
abbrev l6_23 : CC := .seq (.reg r6_14) (.seq (.cond (.t 66) (.skip) (.exit 2)) (.seq (.block 3 k6_3) (.rest [1, 3, 7, 8, 9, 12, 13, 64, 65] (.reg r6_17))))
abbrev k6_2 : CC := .loop l6_23
abbrev r6_18 : List CO := [
  ⟨some 76, .faddr 1 (.t 3), none⟩,
  ⟨some 77, .load false 1 (.t 76), none⟩,
  ⟨some 78, .mv (.t 7), none⟩,
  ⟨some 79, .call (.c (.fn (.func 13) [] [])) [.t 77, .t 78], none⟩,
  ⟨some 80, .mv (.t 79), none⟩,
  ⟨some 81, .mv (.t 1), some (80, true)⟩,
  ⟨some 82, .toStr (.t 81), some (80, true)⟩,
  ⟨some 83, .mv (.t 8), some (80, true)⟩,
  ⟨some 84, .bin .eql (.t 82) (.t 83), some (80, true)⟩,
  ⟨some 85, .pick (.t 80) (.t 84) (.c (.p (.s (.bool false)))), none⟩,
  ⟨some 86, .mv (.t 85), none⟩,
  ⟨some 87, .faddr 1 (.t 9), some (86, true)⟩,
  ⟨some 88, .load false 1 (.t 87), some (86, true)⟩,
  ⟨some 89, .mv (.t 12), some (86, true)⟩,
  ⟨some 90, .call (.c (.fn (.func 13) [] [])) [.t 88, .t 89], some (86, true)⟩,
  ⟨some 91, .pick (.t 86) (.t 90) (.c (.p (.s (.bool false)))), none⟩,
  ⟨some 92, .mv (.t 91), none⟩,
  ⟨some 93, .call (.c (.fn (.func 14) [] [])) [], some (92, true)⟩,
  ⟨some 94, .pick (.t 92) (.t 93) (.c (.p (.s (.bool false)))), none⟩,
  ⟨some 6, .mv (.t 94), none⟩]
abbrev c6 : CC := .seq (.reg r6_0) (.seq (.reg r6_1) (.rest [1, 2, 3] (.seq (.seq (.reg r6_2) (.cond (.t 24) (.seq (.reg r6_3) (.ret)) (.skip))) (.rest [1, 2, 3] (.seq (.regd r6_4 b6_4) (.rest [1, 2, 3, 7, 8] (.seq (.reg r6_5) (.rest [1, 2, 3, 7, 8, 9] (.seq (.reg r6_6) (.rest [1, 2, 3, 7, 8, 9, 12] (.seq (.reg r6_7) (.rest [1, 3, 7, 8, 9, 12, 13, 14] (.seq (.seq (.reg r6_8) (.block 0 k6_0)) (.rest [1, 3, 7, 8, 9, 12, 13] (.seq (.seq (.reg r6_13) (.rest [1, 3, 7, 8, 9, 12, 13, 64, 65] (.block 2 k6_2))) (.rest [1, 3, 7, 8, 9, 12] (.seq (.reg r6_18) (.rest [6] (.ret)))))))))))))))))))
theorem F6 : Fun Try.prog 6 95 c6 [.tmp 6] 3 := ⟨⟨Try.f6, _, Try.func6, rfl, by kernel_rfl, Try.ntmps6, by kernel_rfl, by kernel_rfl⟩, by decide⟩

/-- linnet/linnetlaw01.QueueTells -/
abbrev r7_0 : List CO := [
  ⟨some 3, .box (.t 0), none⟩,
  ⟨some 4, .box (.t 1), none⟩,
  ⟨some 5, .box (.t 2), none⟩,
  ⟨some 6, .mv (.c (.p (.s (.bool false)))), none⟩]
abbrev r7_1 : List CO := [
  ⟨some 21, .load true 2 (.t 3), none⟩,
  ⟨some 22, .call (.c (.fn (.func 15) [] [])) [.t 21], none⟩,
  ⟨some 23, .load true 2 (.t 4), none⟩,
  ⟨some 24, .call (.c (.fn (.func 15) [] [])) [.t 23], none⟩,
  ⟨none, .store 2 (.t 3) (.t 22), none⟩,
  ⟨none, .store 2 (.t 4) (.t 24), none⟩]
abbrev b7_1 : List (List Nat) := [[], [0], [], [2, 1], [1, 3, 0, 1], [3, 4, 0, 1, 2, 3, 4]]
abbrev r7_2 : List CO := [
  ⟨some 25, .faddr 0 (.t 5), none⟩,
  ⟨some 26, .load false 1 (.t 25), none⟩,
  ⟨some 27, .call (.c (.fn (.func 10) [] [])) [.t 26], none⟩,
  ⟨some 28, .faddr 1 (.t 5), none⟩,
  ⟨some 29, .load false 1 (.t 28), none⟩,
  ⟨some 7, .mv (.t 27), none⟩,
  ⟨some 8, .mv (.t 29), none⟩]
abbrev b7_2 : List (List Nat) := [[], [0], [1], [], [3], [2, 2, 0, 1, 2], [4, 5, 0, 1, 2, 3, 4, 5]]
abbrev r7_3 : List CO := [
  ⟨some 31, .mv (.t 8), none⟩,
  ⟨some 32, .call (.c (.fn (.func 9) [] [])) [.t 31], none⟩,
  ⟨some 30, .mv (.t 32), none⟩,
  ⟨some 33, .extract 0 (.t 30), none⟩,
  ⟨some 34, .extract 1 (.t 30), none⟩,
  ⟨some 9, .alloc ([.s (.int .i64 0), .s (.slice none 0 0)]), none⟩,
  ⟨none, .store 2 (.t 9) (.t 33), none⟩,
  ⟨some 10, .mv (.t 34), none⟩]
abbrev r7_4 : List CO := [
  ⟨some 35, .load true 2 (.t 3), none⟩,
  ⟨some 36, .call (.c (.fn (.func 17) [] [])) [.t 35], none⟩,
  ⟨some 37, .bin .eql (.t 36) (.c (.p (.s (.int .i64 0)))), none⟩,
  ⟨some 38, .load true 2 (.t 3), none⟩,
  ⟨some 39, .call (.c (.fn (.func 18) [] [])) [.t 38], none⟩,
  ⟨some 40, .beq true (.t 37) (.t 39), none⟩,
  ⟨some 41, .mv (.t 40), none⟩,
  ⟨some 42, .load true 2 (.t 3), some (41, false)⟩,
  ⟨some 43, .load true 2 (.t 4), some (41, false)⟩,
  ⟨some 44, .call (.c (.fn (.func 19) [] [])) [.t 42, .t 43], some (41, false)⟩,
  ⟨some 45, .load true 2 (.t 3), some (41, false)⟩,
  ⟨some 46, .load true 2 (.t 4), some (41, false)⟩,
  ⟨some 47, .call (.c (.fn (.func 16) [] [])) [.t 45, .t 46], some (41, false)⟩,
  ⟨some 48, .beq true (.t 44) (.t 47), some (41, false)⟩,
  ⟨some 49, .pick (.t 41) (.c (.p (.s (.bool true)))) (.t 48), none⟩,
  ⟨some 50, .mv (.t 49), none⟩,
  ⟨some 51, .mv (.t 10), some (50, false)⟩,
  ⟨some 52, .bin .eql (.t 51) (.c (.p (.s (.int .i64 0)))), some (50, false)⟩,
  ⟨some 53, .mv (.t 8), some (50, false)⟩,
  ⟨some 54, .build ([.s (.int .i64 0), .s (.slice none 0 0)]) [(0, 1, .t 53)], some (50, false)⟩,
  ⟨some 55, .call (.c (.fn (.func 18) [] [])) [.t 54], some (50, false)⟩,
  ⟨some 56, .beq true (.t 52) (.t 55), some (50, false)⟩,
  ⟨some 57, .pick (.t 50) (.c (.p (.s (.bool true)))) (.t 56), none⟩]
abbrev b7_4 : List (List Nat) := [[], [0], [1], [], [3, 1], [2, 4], [5, 4], [6], [6], [7, 8, 6, 6], [6], [6], [10, 11, 9, 6], [9, 12, 6], [6, 13], [14, 12], [15], [16, 15], [15], [18, 15], [19, 15, 15], [17, 20, 15], [15, 21]]
abbrev r7_5 : List CO := [
  ⟨some 6, .mv (.c (.p (.s (.bool false)))), none⟩]
abbrev r7_6 : List CO := [
  ⟨some 58, .mv (.t 10), none⟩,
  ⟨some 59, .bin .eql (.t 58) (.c (.p (.s (.int .i64 0)))), none⟩,
  ⟨some 60, .mv (.t 59), none⟩,
  ⟨some 61, .load true 2 (.t 9), some (60, true)⟩,
  ⟨some 62, .mv (.t 8), some (60, true)⟩,
  ⟨some 63, .build ([.s (.int .i64 0), .s (.slice none 0 0)]) [(0, 1, .t 62)], some (60, true)⟩,
  ⟨some 64, .call (.c (.fn (.func 16) [] [])) [.t 61, .t 63], some (60, true)⟩,
  ⟨some 65, .un .not (.t 64), some (60, true)⟩,
  ⟨some 66, .pick (.t 60) (.t 65) (.c (.p (.s (.bool false)))), none⟩,
  ⟨some 67, .mv (.t 66), none⟩,
  ⟨some 68, .mv (.t 10), some (67, false)⟩,
  ⟨some 69, .bin .neq (.t 68) (.c (.p (.s (.int .i64 0)))), some (67, false)⟩,
  ⟨some 70, .mv (.t 69), some (67, false)⟩,
  ⟨some 71, .mv (.t 10), some (70, true)⟩,
  ⟨some 72, .bin .neq (.t 71) (.c (.p (.s (.int .i64 1)))), some (70, true)⟩,
  ⟨some 73, .mv (.t 72), some (70, true)⟩,
  ⟨some 74, .load true 2 (.t 9), some (73, false)⟩,
  ⟨some 75, .build ([.s (.int .i64 0), .s (.slice none 0 0)]) [], some (73, false)⟩,
  ⟨some 76, .call (.c (.fn (.func 16) [] [])) [.t 74, .t 75], some (73, false)⟩,
  ⟨some 77, .un .not (.t 76), some (73, false)⟩,
  ⟨some 78, .pick (.t 73) (.c (.p (.s (.bool true)))) (.t 77), some (70, true)⟩,
  ⟨some 79, .pick (.t 70) (.t 78) (.c (.p (.s (.bool false)))), some (67, false)⟩,
  ⟨some 80, .pick (.t 67) (.c (.p (.s (.bool true)))) (.t 79), none⟩]
abbrev r7_7 : List CO := [
  ⟨some 6, .mv (.c (.p (.s (.bool false)))), none⟩]
abbrev r7_8 : List CO := [
  ⟨some 82, .load true 2 (.t 3), none⟩,
  ⟨some 83, .mv (.t 7), none⟩,
  ⟨some 84, .call (.c (.fn (.func 11) [] [])) [.t 82, .t 83], none⟩,
  ⟨some 81, .mv (.t 84), none⟩,
  ⟨some 85, .extract 0 (.t 81), none⟩,
  ⟨some 86, .extract 1 (.t 81), none⟩,
  ⟨some 87, .extract 2 (.t 81), none⟩,
  ⟨some 11, .alloc ([.s (.int .i64 0), .s (.slice none 0 0)]), none⟩,
  ⟨none, .store 2 (.t 11) (.t 85), none⟩,
  ⟨some 12, .mv (.t 86), none⟩,
  ⟨some 13, .mv (.t 87), none⟩]
abbrev r7_9 : List CO := [
  ⟨some 89, .load true 2 (.t 3), none⟩,
  ⟨some 90, .mv (.t 8), none⟩,
  ⟨some 91, .call (.c (.fn (.func 12) [] [])) [.t 89, .t 90], none⟩,
  ⟨some 88, .mv (.t 91), none⟩,
  ⟨some 92, .extract 0 (.t 88), none⟩,
  ⟨some 93, .extract 1 (.t 88), none⟩,
  ⟨some 94, .extract 2 (.t 88), none⟩,
  ⟨some 14, .alloc ([.s (.int .i64 0), .s (.slice none 0 0)]), none⟩,
  ⟨none, .store 2 (.t 14) (.t 92), none⟩,
  ⟨some 15, .mv (.t 93), none⟩,
  ⟨some 16, .mv (.t 94), none⟩]
abbrev r7_10 : List CO := [
  ⟨some 95, .load true 2 (.t 3), none⟩,
  ⟨some 96, .call (.c (.fn (.func 18) [] [])) [.t 95], none⟩,
  ⟨some 97, .un .not (.t 96), none⟩]
abbrev r7_11 : List CO := [
  ⟨some 98, .load true 2 (.t 11), none⟩,
  ⟨some 99, .load true 2 (.t 3), none⟩,
  ⟨some 100, .call (.c (.fn (.func 16) [] [])) [.t 98, .t 99], none⟩,
  ⟨some 101, .mv (.t 100), none⟩,
  ⟨some 102, .mv (.t 12), some (101, true)⟩,
  ⟨some 103, .bin .eql (.t 102) (.c (.p (.s (.int .i64 0)))), some (101, true)⟩,
  ⟨some 104, .pick (.t 101) (.t 103) (.c (.p (.s (.bool false)))), none⟩,
  ⟨some 105, .mv (.t 104), none⟩,
  ⟨some 106, .mv (.t 13), some (105, true)⟩,
  ⟨some 107, .bin .eql (.t 106) (.c (.p (.s (.int .i64 1)))), some (105, true)⟩,
  ⟨some 108, .pick (.t 105) (.t 107) (.c (.p (.s (.bool false)))), none⟩,
  ⟨some 109, .mv (.t 108), none⟩,
  ⟨some 110, .load true 2 (.t 14), some (109, true)⟩,
  ⟨some 111, .load true 2 (.t 3), some (109, true)⟩,
  ⟨some 112, .call (.c (.fn (.func 16) [] [])) [.t 110, .t 111], some (109, true)⟩,
  ⟨some 113, .pick (.t 109) (.t 112) (.c (.p (.s (.bool false)))), none⟩,
  ⟨some 114, .mv (.t 113), none⟩,
  ⟨some 115, .mv (.t 15), some (114, true)⟩,
  ⟨some 116, .len (.t 115), some (114, true)⟩,
  ⟨some 117, .bin .eql (.t 116) (.c (.p (.s (.int .i64 0)))), some (114, true)⟩,
  ⟨some 118, .pick (.t 114) (.t 117) (.c (.p (.s (.bool false)))), none⟩,
  ⟨some 119, .mv (.t 118), none⟩,
  ⟨some 120, .mv (.t 16), some (119, true)⟩,
  ⟨some 121, .bin .eql (.t 120) (.c (.p (.s (.int .i64 1)))), some (119, true)⟩,
  ⟨some 122, .pick (.t 119) (.t 121) (.c (.p (.s (.bool false)))), none⟩,
  ⟨some 123, .mv (.t 122), none⟩,
  ⟨some 124, .call (.c (.fn (.func 14) [] [])) [], some (123, true)⟩,
  ⟨some 125, .pick (.t 123) (.t 124) (.c (.p (.s (.bool false)))), none⟩,
  ⟨some 6, .mv (.t 125), none⟩]
abbrev r7_12 : List CO := [
  ⟨some 127, .load true 2 (.t 3), none⟩,
  ⟨some 128, .mv (.t 7), none⟩,
  ⟨some 129, .call (.c (.fn (.func 20) [] [])) [.t 127, .t 128], none⟩,
  ⟨some 126, .mv (.t 129), none⟩,
  ⟨some 130, .extract 0 (.t 126), none⟩,
  ⟨some 131, .extract 1 (.t 126), none⟩,
  ⟨some 17, .alloc ([.s (.int .i64 0), .s (.slice none 0 0)]), none⟩,
  ⟨none, .store 2 (.t 17) (.t 130), none⟩,
  ⟨some 18, .mv (.t 131), none⟩]
abbrev r7_13 : List CO := [
  ⟨some 133, .load true 2 (.t 3), none⟩,
  ⟨some 134, .mv (.t 8), none⟩,
  ⟨some 135, .call (.c (.fn (.func 21) [] [])) [.t 133, .t 134], none⟩,
  ⟨some 132, .mv (.t 135), none⟩,
  ⟨some 136, .extract 0 (.t 132), none⟩,
  ⟨some 137, .extract 1 (.t 132), none⟩,
  ⟨some 19, .alloc ([.s (.int .i64 0), .s (.slice none 0 0)]), none⟩,
  ⟨none, .store 2 (.t 19) (.t 136), none⟩,
  ⟨some 20, .mv (.t 137), none⟩]
abbrev r7_14 : List CO := [
  ⟨some 138, .load true 2 (.t 11), none⟩,
  ⟨some 139, .load true 2 (.t 17), none⟩,
  ⟨some 140, .call (.c (.fn (.func 16) [] [])) [.t 138, .t 139], none⟩,
  ⟨some 141, .mv (.t 140), none⟩,
  ⟨some 142, .mv (.t 12), some (141, true)⟩,
  ⟨some 143, .mv (.t 18), some (141, true)⟩,
  ⟨some 144, .bin .eql (.t 142) (.t 143), some (141, true)⟩,
  ⟨some 145, .pick (.t 141) (.t 144) (.c (.p (.s (.bool false)))), none⟩,
  ⟨some 146, .mv (.t 145), none⟩,
  ⟨some 147, .mv (.t 13), some (146, true)⟩,
  ⟨some 148, .bin .eql (.t 147) (.c (.p (.s (.int .i64 0)))), some (146, true)⟩,
  ⟨some 149, .pick (.t 146) (.t 148) (.c (.p (.s (.bool false)))), none⟩,
  ⟨some 150, .mv (.t 149), none⟩,
  ⟨some 151, .load true 2 (.t 14), some (150, true)⟩,
  ⟨some 152, .load true 2 (.t 19), some (150, true)⟩,
  ⟨some 153, .call (.c (.fn (.func 16) [] [])) [.t 151, .t 152], some (150, true)⟩,
  ⟨some 154, .pick (.t 150) (.t 153) (.c (.p (.s (.bool false)))), none⟩,
  ⟨some 155, .mv (.t 154), none⟩,
  ⟨some 156, .mv (.t 15), some (155, true)⟩,
  ⟨some 157, .mv (.t 20), some (155, true)⟩,
  ⟨some 158, .call (.c (.fn (.func 13) [] [])) [.t 156, .t 157], some (155, true)⟩,
  ⟨some 159, .pick (.t 155) (.t 158) (.c (.p (.s (.bool false)))), none⟩,
  ⟨some 160, .mv (.t 159), none⟩,
  ⟨some 161, .mv (.t 16), some (160, true)⟩,
  ⟨some 162, .bin .eql (.t 161) (.c (.p (.s (.int .i64 0)))), some (160, true)⟩,
  ⟨some 163, .pick (.t 160) (.t 162) (.c (.p (.s (.bool false)))), none⟩,
  ⟨some 164, .mv (.t 163), none⟩,
  ⟨some 165, .call (.c (.fn (.func 14) [] [])) [], some (164, true)⟩,
  ⟨some 166, .pick (.t 164) (.t 165) (.c (.p (.s (.bool false)))), none⟩,
  ⟨some 6, .mv (.t 166), none⟩]
abbrev c7 : CC := .seq (.reg r7_0) (.rest [3, 4, 5] (.seq (.regd r7_1 b7_1) (.rest [3, 4, 5] (.seq (.regd r7_2 b7_2) (.rest [3, 4, 7, 8] (.seq (.reg r7_3) (.rest [3, 4, 7, 8, 9, 10] (.seq (.seq (.regd r7_4 b7_4) (.rest [3, 7, 8, 9, 10, 57] (.cond (.t 57) (.seq (.reg r7_5) (.ret)) (.skip)))) (.rest [3, 7, 8, 9, 10] (.seq (.seq (.reg r7_6) (.rest [3, 7, 8, 80] (.cond (.t 80) (.seq (.reg r7_7) (.ret)) (.skip)))) (.rest [3, 7, 8] (.seq (.reg r7_8) (.rest [3, 7, 8, 11, 12, 13] (.seq (.reg r7_9) (.rest [3, 7, 8, 11, 12, 13, 14, 15, 16] (.seq (.seq (.reg r7_10) (.cond (.t 97) (.seq (.reg r7_11) (.rest [6] (.ret))) (.skip))) (.rest [3, 7, 8, 11, 12, 13, 14, 15, 16] (.seq (.reg r7_12) (.rest [3, 8, 11, 12, 13, 14, 15, 16, 17, 18] (.seq (.reg r7_13) (.rest [11, 12, 13, 14, 15, 16, 17, 18, 19, 20] (.seq (.reg r7_14) (.rest [6] (.ret))))))))))))))))))))))))
theorem F7 : Fun Try.prog 7 167 c7 [.tmp 6] 3 := ⟨⟨Try.f7, _, Try.func7, rfl, by kernel_rfl, Try.ntmps7, by kernel_rfl, by kernel_rfl⟩, by decide⟩

/-- linnet/linnetlaw01.QueueFull -/
abbrev r8_0 : List CO := [
  ⟨some 4, .mv (.c (.p (.s (.bool false)))), none⟩]
abbrev r8_1 : List CO := [
  ⟨some 22, .mv (.t 0), none⟩,
  ⟨some 23, .toInt .i64 (.t 22), none⟩,
  ⟨some 24, .bin .add (.c (.p (.s (.int .i64 1)))) (.t 23), none⟩,
  ⟨some 5, .mv (.t 24), none⟩]
abbrev r8_2 : List CO := [
  ⟨some 26, .mv (.t 5), none⟩,
  ⟨some 27, .call (.c (.fn (.func 9) [] [])) [.t 26], none⟩,
  ⟨some 25, .mv (.t 27), none⟩,
  ⟨some 28, .extract 0 (.t 25), none⟩,
  ⟨some 29, .extract 1 (.t 25), none⟩,
  ⟨some 6, .alloc ([.s (.int .i64 0), .s (.slice none 0 0)]), none⟩,
  ⟨none, .store 2 (.t 6) (.t 28), none⟩,
  ⟨some 7, .mv (.t 29), none⟩]
abbrev r8_3 : List CO := [
  ⟨some 8, .mv (.c (.p (.s (.slice none 0 0)))), none⟩]
abbrev r8_4 : List CO := [
  ⟨some 9, .mv (.c (.p (.s (.int .i64 0)))), none⟩]
abbrev r8_5 : List CO := [
  ⟨some 30, .mv (.t 9), none⟩,
  ⟨some 31, .mv (.t 5), none⟩,
  ⟨some 32, .bin .add (.t 31) (.c (.p (.s (.int .i64 3)))), none⟩,
  ⟨some 33, .bin .lss (.t 30) (.t 32), none⟩]
abbrev r8_7 : List CO := [
  ⟨some 36, .mv (.t 8), none⟩,
  ⟨some 37, .mv (.t 1), none⟩,
  ⟨some 38, .mv (.t 9), none⟩,
  ⟨some 39, .toInt .u8 (.t 38), none⟩,
  ⟨some 40, .bin .add (.t 37) (.t 39), none⟩,
  ⟨some 41, .bslice 1 1 ([.s (.int .u8 0)]) [(0, .t 40)], none⟩,
  ⟨some 42, .append 1 1 ([.s (.int .u8 0)]) (.t 36) (.t 41), none⟩,
  ⟨some 8, .mv (.t 42), none⟩]
abbrev k8_1 : CC := .reg r8_7
abbrev r8_6 : List CO := [
  ⟨some 34, .mv (.t 9), none⟩,
  ⟨some 35, .bin .add (.t 34) (.c (.p (.s (.int .i64 1)))), none⟩,
  ⟨some 9, .mv (.t 35), none⟩]
abbrev l8_9 : CC := .seq (.seq (.reg r8_5) (.rest [1, 5, 6, 7, 8, 9, 33] (.cond (.t 33) (.skip) (.exit 0)))) (.rest [1, 5, 6, 7, 8, 9] (.seq (.block 1 k8_1) (.rest [1, 5, 6, 7, 8, 9] (.reg r8_6))))
abbrev k8_0 : CC := .loop l8_9
abbrev r8_8 : List CO := [
  ⟨some 44, .load true 2 (.t 6), none⟩,
  ⟨some 45, .mv (.t 8), none⟩,
  ⟨some 46, .call (.c (.fn (.func 11) [] [])) [.t 44, .t 45], none⟩,
  ⟨some 43, .mv (.t 46), none⟩,
  ⟨some 47, .extract 0 (.t 43), none⟩,
  ⟨some 48, .extract 1 (.t 43), none⟩,
  ⟨some 49, .extract 2 (.t 43), none⟩,
  ⟨some 10, .alloc ([.s (.int .i64 0), .s (.slice none 0 0)]), none⟩,
  ⟨none, .store 2 (.t 10) (.t 47), none⟩,
  ⟨some 11, .mv (.t 48), none⟩,
  ⟨some 12, .mv (.t 49), none⟩]
abbrev r8_9 : List CO := [
  ⟨some 51, .load true 2 (.t 10), none⟩,
  ⟨some 52, .mv (.t 1), none⟩,
  ⟨some 53, .bslice 1 1 ([.s (.int .u8 0)]) [(0, .t 52)], none⟩,
  ⟨some 54, .call (.c (.fn (.func 11) [] [])) [.t 51, .t 53], none⟩,
  ⟨some 50, .mv (.t 54), none⟩,
  ⟨some 55, .extract 0 (.t 50), none⟩,
  ⟨some 56, .extract 1 (.t 50), none⟩,
  ⟨some 57, .extract 2 (.t 50), none⟩,
  ⟨some 13, .alloc ([.s (.int .i64 0), .s (.slice none 0 0)]), none⟩,
  ⟨none, .store 2 (.t 13) (.t 55), none⟩,
  ⟨some 14, .mv (.t 56), none⟩,
  ⟨some 15, .mv (.t 57), none⟩]
abbrev r8_10 : List CO := [
  ⟨some 59, .load true 2 (.t 13), none⟩,
  ⟨some 60, .mv (.t 5), none⟩,
  ⟨some 61, .call (.c (.fn (.func 12) [] [])) [.t 59, .t 60], none⟩,
  ⟨some 58, .mv (.t 61), none⟩,
  ⟨some 62, .extract 0 (.t 58), none⟩,
  ⟨some 63, .extract 1 (.t 58), none⟩,
  ⟨some 64, .extract 2 (.t 58), none⟩,
  ⟨some 16, .alloc ([.s (.int .i64 0), .s (.slice none 0 0)]), none⟩,
  ⟨none, .store 2 (.t 16) (.t 62), none⟩,
  ⟨some 17, .mv (.t 63), none⟩,
  ⟨some 18, .mv (.t 64), none⟩]
abbrev r8_11 : List CO := [
  ⟨some 66, .load true 2 (.t 16), none⟩,
  ⟨some 67, .mv (.t 8), none⟩,
  ⟨some 68, .mv (.t 5), none⟩,
  ⟨some 69, .slice 1 (.t 67) none (some (.t 68)), none⟩,
  ⟨some 70, .call (.c (.fn (.func 11) [] [])) [.t 66, .t 69], none⟩,
  ⟨some 65, .mv (.t 70), none⟩,
  ⟨some 71, .extract 0 (.t 65), none⟩,
  ⟨some 72, .extract 1 (.t 65), none⟩,
  ⟨some 73, .extract 2 (.t 65), none⟩,
  ⟨some 19, .alloc ([.s (.int .i64 0), .s (.slice none 0 0)]), none⟩,
  ⟨none, .store 2 (.t 19) (.t 71), none⟩,
  ⟨some 20, .mv (.t 72), none⟩,
  ⟨some 21, .mv (.t 73), none⟩]
abbrev b8_11 : List (List Nat) := [[], [], [], [1, 2], [0, 3], [4], [5], [5], [5], [], [9, 6, 4, 0, 1, 2, 3, 4, 5, 6, 9], [7, 10, 0, 1, 2, 3, 4, 5, 6, 7, 9, 10], [8, 11, 0, 1, 2, 3, 4, 5, 6, 7, 8, 9, 10, 11]]
abbrev r8_12 : List CO := [
  ⟨some 74, .mv (.t 7), none⟩,
  ⟨some 75, .bin .neq (.t 74) (.c (.p (.s (.int .i64 0)))), none⟩,
  ⟨some 76, .mv (.t 75), none⟩,
  ⟨some 77, .mv (.t 12), some (76, false)⟩,
  ⟨some 78, .bin .neq (.t 77) (.c (.p (.s (.int .i64 0)))), some (76, false)⟩,
  ⟨some 79, .pick (.t 76) (.c (.p (.s (.bool true)))) (.t 78), none⟩,
  ⟨some 80, .mv (.t 79), none⟩,
  ⟨some 81, .mv (.t 15), some (80, false)⟩,
  ⟨some 82, .bin .neq (.t 81) (.c (.p (.s (.int .i64 0)))), some (80, false)⟩,
  ⟨some 83, .pick (.t 80) (.c (.p (.s (.bool true)))) (.t 82), none⟩,
  ⟨some 84, .mv (.t 83), none⟩,
  ⟨some 85, .mv (.t 18), some (84, false)⟩,
  ⟨some 86, .bin .neq (.t 85) (.c (.p (.s (.int .i64 0)))), some (84, false)⟩,
  ⟨some 87, .pick (.t 84) (.c (.p (.s (.bool true)))) (.t 86), none⟩,
  ⟨some 88, .mv (.t 87), none⟩,
  ⟨some 89, .mv (.t 21), some (88, false)⟩,
  ⟨some 90, .bin .neq (.t 89) (.c (.p (.s (.int .i64 0)))), some (88, false)⟩,
  ⟨some 91, .pick (.t 88) (.c (.p (.s (.bool true)))) (.t 90), none⟩]
abbrev r8_13 : List CO := [
  ⟨some 4, .mv (.c (.p (.s (.bool false)))), none⟩]
abbrev r8_14 : List CO := [
  ⟨some 92, .mv (.t 11), none⟩,
  ⟨some 93, .mv (.t 5), none⟩,
  ⟨some 94, .bin .eql (.t 92) (.t 93), none⟩,
  ⟨some 95, .mv (.t 94), none⟩,
  ⟨some 96, .mv (.t 14), some (95, true)⟩,
  ⟨some 97, .bin .eql (.t 96) (.c (.p (.s (.int .i64 0)))), some (95, true)⟩,
  ⟨some 98, .pick (.t 95) (.t 97) (.c (.p (.s (.bool false)))), none⟩,
  ⟨some 99, .mv (.t 98), none⟩,
  ⟨some 100, .mv (.t 20), some (99, true)⟩,
  ⟨some 101, .mv (.t 5), some (99, true)⟩,
  ⟨some 102, .bin .eql (.t 100) (.t 101), some (99, true)⟩,
  ⟨some 103, .pick (.t 99) (.t 102) (.c (.p (.s (.bool false)))), none⟩,
  ⟨some 104, .mv (.t 103), none⟩,
  ⟨some 105, .load true 2 (.t 10), some (104, true)⟩,
  ⟨some 106, .load true 2 (.t 13), some (104, true)⟩,
  ⟨some 107, .call (.c (.fn (.func 19) [] [])) [.t 105, .t 106], some (104, true)⟩,
  ⟨some 108, .pick (.t 104) (.t 107) (.c (.p (.s (.bool false)))), none⟩,
  ⟨some 109, .mv (.t 108), none⟩,
  ⟨some 110, .load true 2 (.t 19), some (109, true)⟩,
  ⟨some 111, .load true 2 (.t 10), some (109, true)⟩,
  ⟨some 112, .call (.c (.fn (.func 19) [] [])) [.t 110, .t 111], some (109, true)⟩,
  ⟨some 113, .pick (.t 109) (.t 112) (.c (.p (.s (.bool false)))), none⟩,
  ⟨some 114, .mv (.t 113), none⟩,
  ⟨some 115, .mv (.t 17), some (114, true)⟩,
  ⟨some 116, .mv (.t 8), some (114, true)⟩,
  ⟨some 117, .mv (.t 5), some (114, true)⟩,
  ⟨some 118, .slice 1 (.t 116) none (some (.t 117)), some (114, true)⟩,
  ⟨some 119, .call (.c (.fn (.func 13) [] [])) [.t 115, .t 118], some (114, true)⟩,
  ⟨some 120, .pick (.t 114) (.t 119) (.c (.p (.s (.bool false)))), none⟩,
  ⟨some 121, .mv (.t 120), none⟩,
  ⟨some 122, .faddr 1 (.t 16), some (121, true)⟩,
  ⟨some 123, .load false 1 (.t 122), some (121, true)⟩,
  ⟨some 124, .len (.t 123), some (121, true)⟩,
  ⟨some 125, .bin .eql (.t 124) (.c (.p (.s (.int .i64 0)))), some (121, true)⟩,
  ⟨some 126, .pick (.t 121) (.t 125) (.c (.p (.s (.bool false)))), none⟩,
  ⟨some 127, .mv (.t 126), none⟩,
  ⟨some 128, .call (.c (.fn (.func 14) [] [])) [], some (127, true)⟩,
  ⟨some 129, .pick (.t 127) (.t 128) (.c (.p (.s (.bool false)))), none⟩,
  ⟨some 4, .mv (.t 129), none⟩]
abbrev c8 : CC := .seq (.reg r8_0) (.seq (.reg r8_1) (.rest [1, 5] (.seq (.reg r8_2) (.rest [1, 5, 6, 7] (.seq (.reg r8_3) (.seq (.seq (.reg r8_4) (.block 0 k8_0)) (.rest [1, 5, 6, 7, 8] (.seq (.reg r8_8) (.rest [1, 5, 7, 8, 10, 11, 12] (.seq (.reg r8_9) (.rest [5, 7, 8, 10, 11, 12, 13, 14, 15] (.seq (.reg r8_10) (.rest [5, 7, 8, 10, 11, 12, 13, 14, 15, 16, 17, 18] (.seq (.regd r8_11 b8_11) (.rest [5, 7, 8, 10, 11, 12, 13, 14, 15, 16, 17, 18, 19, 20, 21] (.seq (.seq (.reg r8_12) (.rest [5, 8, 10, 11, 13, 14, 16, 17, 19, 20, 91] (.cond (.t 91) (.seq (.reg r8_13) (.ret)) (.skip)))) (.rest [5, 8, 10, 11, 13, 14, 16, 17, 19, 20] (.seq (.reg r8_14) (.rest [4] (.ret))))))))))))))))))))
theorem F8 : Fun Try.prog 8 130 c8 [.tmp 4] 2 := ⟨⟨Try.f8, _, Try.func8, rfl, by kernel_rfl, Try.ntmps8, by kernel_rfl, by kernel_rfl⟩, by decide⟩

/-- linnet/queue.New -/
abbrev r9_0 : List CO := [
  ⟨some 2, .alloc ([.s (.int .i64 0), .s (.slice none 0 0)]), none⟩,
  ⟨some 3, .mv (.c (.p (.s (.int .i64 0)))), none⟩]
abbrev r9_1 : List CO := [
  ⟨some 6, .mv (.t 0), none⟩,
  ⟨some 7, .build ([.s (.int .i64 0), .s (.slice none 0 0)]) [(0, 1, .t 6)], none⟩,
  ⟨some 4, .alloc ([.s (.int .i64 0), .s (.slice none 0 0)]), none⟩,
  ⟨none, .store 2 (.t 4) (.t 7), none⟩]
abbrev r9_2 : List CO := [
  ⟨some 8, .load true 2 (.t 4), none⟩,
  ⟨some 9, .call (.c (.fn (.func 17) [] [])) [.t 8], none⟩,
  ⟨some 5, .mv (.t 9), none⟩]
abbrev r9_3 : List CO := [
  ⟨some 10, .mv (.t 5), none⟩,
  ⟨some 11, .bin .neq (.t 10) (.c (.p (.s (.int .i64 0)))), none⟩]
abbrev r9_4 : List CO := [
  ⟨some 12, .build ([.s (.int .i64 0), .s (.slice none 0 0)]) [], none⟩,
  ⟨some 13, .mv (.t 5), none⟩,
  ⟨none, .store 2 (.t 2) (.t 12), none⟩,
  ⟨some 3, .mv (.t 13), none⟩]
abbrev r9_5 : List CO := [
  ⟨some 14, .load true 2 (.t 4), none⟩,
  ⟨none, .store 2 (.t 2) (.t 14), none⟩,
  ⟨some 3, .mv (.c (.p (.s (.int .i64 0)))), none⟩]
abbrev c9 : CC := .seq (.reg r9_0) (.seq (.reg r9_1) (.rest [2, 4] (.seq (.seq (.reg r9_2) (.seq (.reg r9_3) (.cond (.t 11) (.seq (.reg r9_4) (.rest [2, 3] (.ret))) (.skip)))) (.rest [2, 4] (.seq (.reg r9_5) (.ret))))))
theorem F9 : Fun Try.prog 9 15 c9 [.cell 2 true 2, .tmp 3] 1 := ⟨⟨Try.f9, _, Try.func9, rfl, by kernel_rfl, Try.ntmps9, by kernel_rfl, by kernel_rfl⟩, by decide⟩

/-- linnet/linnetlaw01.Few -/
abbrev r10_0 : List CO := [
  ⟨some 2, .mv (.c (.p (.s (.slice none 0 0)))), none⟩]
abbrev r10_1 : List CO := [
  ⟨some 3, .mv (.t 0), none⟩,
  ⟨some 4, .len (.t 3), none⟩,
  ⟨some 5, .bin .gtr (.t 4) (.c (.p (.s (.int .i64 200)))), none⟩]
abbrev r10_2 : List CO := [
  ⟨some 6, .mv (.t 0), none⟩,
  ⟨some 7, .slice 1 (.t 6) none (some (.c (.p (.s (.int .i64 200))))), none⟩,
  ⟨some 2, .mv (.t 7), none⟩]
abbrev r10_3 : List CO := [
  ⟨some 8, .mv (.t 0), none⟩,
  ⟨some 2, .mv (.t 8), none⟩]
abbrev c10 : CC := .seq (.reg r10_0) (.seq (.seq (.reg r10_1) (.cond (.t 5) (.seq (.reg r10_2) (.ret)) (.skip))) (.rest [0] (.seq (.reg r10_3) (.ret))))
theorem F10 : Fun Try.prog 10 9 c10 [.tmp 2] 1 := ⟨⟨Try.f10, _, Try.func10, rfl, by kernel_rfl, Try.ntmps10, by kernel_rfl, by kernel_rfl⟩, by decide⟩

/-- linnet/queue.Put -/
abbrev r11_0 : List CO := [
  ⟨some 2, .box (.t 0), none⟩,
  ⟨some 4, .alloc ([.s (.int .i64 0), .s (.slice none 0 0)]), none⟩,
  ⟨some 5, .mv (.c (.p (.s (.int .i64 0)))), none⟩,
  ⟨some 6, .mv (.c (.p (.s (.int .i64 0)))), none⟩]
abbrev r11_1 : List CO := [
  ⟨some 9, .load true 2 (.t 2), none⟩,
  ⟨some 10, .call (.c (.fn (.func 17) [] [])) [.t 9], none⟩,
  ⟨some 7, .mv (.t 10), none⟩]
abbrev r11_2 : List CO := [
  ⟨some 11, .mv (.t 7), none⟩,
  ⟨some 12, .bin .neq (.t 11) (.c (.p (.s (.int .i64 0)))), none⟩]
abbrev r11_3 : List CO := [
  ⟨some 13, .load true 2 (.t 2), none⟩,
  ⟨some 14, .mv (.t 7), none⟩,
  ⟨none, .store 2 (.t 4) (.t 13), none⟩,
  ⟨some 5, .mv (.c (.p (.s (.int .i64 0)))), none⟩,
  ⟨some 6, .mv (.t 14), none⟩]
abbrev r11_4 : List CO := [
  ⟨some 15, .mv (.t 1), none⟩,
  ⟨some 16, .len (.t 15), none⟩,
  ⟨some 17, .faddr 0 (.t 2), none⟩,
  ⟨some 18, .load false 1 (.t 17), none⟩,
  ⟨some 19, .faddr 1 (.t 2), none⟩,
  ⟨some 20, .load false 1 (.t 19), none⟩,
  ⟨some 21, .len (.t 20), none⟩,
  ⟨some 22, .bin .sub (.t 18) (.t 21), none⟩,
  ⟨some 23, .minmax false (.t 16) (.t 22), none⟩,
  ⟨some 8, .mv (.t 23), none⟩]
abbrev r11_5 : List CO := [
  ⟨some 24, .faddr 1 (.t 2), none⟩,
  ⟨some 25, .load false 1 (.t 24), none⟩,
  ⟨some 26, .call (.c (.fn (.func 22) [] [])) [.t 25], none⟩,
  ⟨some 27, .mv (.t 1), none⟩,
  ⟨some 28, .mv (.t 8), none⟩,
  ⟨some 29, .slice 1 (.t 27) none (some (.t 28)), none⟩,
  ⟨some 30, .append 1 1 ([.s (.int .u8 0)]) (.t 26) (.t 29), none⟩,
  ⟨some 31, .faddr 1 (.t 2), none⟩,
  ⟨none, .store 1 (.t 31) (.t 30), none⟩]
abbrev b11_5 : List (List Nat) := [[], [0], [1], [], [], [3, 4], [2, 5, 2], [0, 1, 2, 3, 4, 5, 6], [7, 6, 6, 0, 1, 2, 3, 4, 5, 6]]
abbrev r11_6 : List CO := [
  ⟨some 32, .load true 2 (.t 2), none⟩,
  ⟨some 33, .mv (.t 8), none⟩,
  ⟨none, .store 2 (.t 4) (.t 32), none⟩,
  ⟨some 5, .mv (.t 33), none⟩,
  ⟨some 6, .mv (.c (.p (.s (.int .i64 0)))), none⟩]
abbrev c11 : CC := .seq (.reg r11_0) (.rest [1, 2, 4] (.seq (.seq (.reg r11_1) (.seq (.reg r11_2) (.cond (.t 12) (.seq (.reg r11_3) (.rest [4, 5, 6] (.ret))) (.skip)))) (.rest [1, 2, 4] (.seq (.reg r11_4) (.rest [1, 2, 4, 8] (.seq (.regd r11_5 b11_5) (.rest [2, 4, 8] (.seq (.reg r11_6) (.rest [4, 5, 6] (.ret))))))))))
theorem F11 : Fun Try.prog 11 34 c11 [.cell 4 true 2, .tmp 5, .tmp 6] 2 := ⟨⟨Try.f11, _, Try.func11, rfl, by kernel_rfl, Try.ntmps11, by kernel_rfl, by kernel_rfl⟩, by decide⟩

/-- linnet/queue.Take -/
abbrev r12_0 : List CO := [
  ⟨some 2, .box (.t 0), none⟩,
  ⟨some 4, .alloc ([.s (.int .i64 0), .s (.slice none 0 0)]), none⟩,
  ⟨some 5, .mv (.c (.p (.s (.slice none 0 0)))), none⟩,
  ⟨some 6, .mv (.c (.p (.s (.int .i64 0)))), none⟩]
abbrev r12_1 : List CO := [
  ⟨some 9, .load true 2 (.t 2), none⟩,
  ⟨some 10, .call (.c (.fn (.func 17) [] [])) [.t 9], none⟩,
  ⟨some 7, .mv (.t 10), none⟩]
abbrev r12_2 : List CO := [
  ⟨some 11, .mv (.t 7), none⟩,
  ⟨some 12, .bin .neq (.t 11) (.c (.p (.s (.int .i64 0)))), none⟩]
abbrev r12_3 : List CO := [
  ⟨some 13, .load true 2 (.t 2), none⟩,
  ⟨some 14, .mv (.t 7), none⟩,
  ⟨none, .store 2 (.t 4) (.t 13), none⟩,
  ⟨some 5, .mv (.c (.p (.s (.slice none 0 0)))), none⟩,
  ⟨some 6, .mv (.t 14), none⟩]
abbrev r12_4 : List CO := [
  ⟨some 15, .mv (.t 1), none⟩,
  ⟨some 16, .faddr 1 (.t 2), none⟩,
  ⟨some 17, .load false 1 (.t 16), none⟩,
  ⟨some 18, .len (.t 17), none⟩,
  ⟨some 19, .minmax false (.t 15) (.t 18), none⟩,
  ⟨some 20, .minmax true (.c (.p (.s (.int .i64 0)))) (.t 19), none⟩,
  ⟨some 1, .mv (.t 20), none⟩]
abbrev r12_5 : List CO := [
  ⟨some 21, .faddr 1 (.t 2), none⟩,
  ⟨some 22, .load false 1 (.t 21), none⟩,
  ⟨some 23, .mv (.t 1), none⟩,
  ⟨some 24, .slice 1 (.t 22) none (some (.t 23)), none⟩,
  ⟨some 25, .call (.c (.fn (.func 22) [] [])) [.t 24], none⟩,
  ⟨some 8, .mv (.t 25), none⟩]
abbrev r12_6 : List CO := [
  ⟨some 26, .faddr 1 (.t 2), none⟩,
  ⟨some 27, .load false 1 (.t 26), none⟩,
  ⟨some 28, .mv (.t 1), none⟩,
  ⟨some 29, .slice 1 (.t 27) (some (.t 28)) none, none⟩,
  ⟨some 30, .call (.c (.fn (.func 22) [] [])) [.t 29], none⟩,
  ⟨some 31, .faddr 1 (.t 2), none⟩,
  ⟨none, .store 1 (.t 31) (.t 30), none⟩]
abbrev r12_7 : List CO := [
  ⟨some 32, .load true 2 (.t 2), none⟩,
  ⟨some 33, .mv (.t 8), none⟩,
  ⟨none, .store 2 (.t 4) (.t 32), none⟩,
  ⟨some 5, .mv (.t 33), none⟩,
  ⟨some 6, .mv (.c (.p (.s (.int .i64 0)))), none⟩]
abbrev c12 : CC := .seq (.reg r12_0) (.rest [1, 2, 4] (.seq (.seq (.reg r12_1) (.seq (.reg r12_2) (.cond (.t 12) (.seq (.reg r12_3) (.rest [4, 5, 6] (.ret))) (.skip)))) (.rest [1, 2, 4] (.seq (.reg r12_4) (.rest [1, 2, 4] (.seq (.reg r12_5) (.rest [1, 2, 4, 8] (.seq (.reg r12_6) (.rest [2, 4, 8] (.seq (.reg r12_7) (.rest [4, 5, 6] (.ret))))))))))))
theorem F12 : Fun Try.prog 12 34 c12 [.cell 4 true 2, .tmp 5, .tmp 6] 2 := ⟨⟨Try.f12, _, Try.func12, rfl, by kernel_rfl, Try.ntmps12, by kernel_rfl, by kernel_rfl⟩, by decide⟩

/-- linnet/linnetref01.Octets -/
abbrev r13_0 : List CO := [
  ⟨some 4, .mv (.c (.p (.s (.bool false)))), none⟩]
abbrev r13_1 : List CO := [
  ⟨some 5, .mv (.t 0), none⟩,
  ⟨some 6, .toStr (.t 5), none⟩,
  ⟨some 7, .mv (.t 1), none⟩,
  ⟨some 8, .toStr (.t 7), none⟩,
  ⟨some 9, .bin .eql (.t 6) (.t 8), none⟩,
  ⟨some 4, .mv (.t 9), none⟩]
abbrev c13 : CC := .seq (.reg r13_0) (.seq (.reg r13_1) (.rest [4] (.ret)))
theorem F13 : Fun Try.prog 13 10 c13 [.tmp 4] 2 := ⟨⟨Try.f13, _, Try.func13, rfl, by kernel_rfl, Try.ntmps13, by kernel_rfl, by kernel_rfl⟩, by decide⟩

/-- linnet/linnetlaw01.awake -/
abbrev r14_0 : List CO := [
  ⟨some 0, .mv (.c (.p (.s (.bool false)))), none⟩]
abbrev r14_1 : List CO := [
  ⟨some 12, .call (.c (.fn (.func 9) [] [])) [.c (.p (.s (.int .i64 3)))], none⟩,
  ⟨some 11, .mv (.t 12), none⟩,
  ⟨some 13, .extract 0 (.t 11), none⟩,
  ⟨some 14, .extract 1 (.t 11), none⟩,
  ⟨some 1, .alloc ([.s (.int .i64 0), .s (.slice none 0 0)]), none⟩,
  ⟨none, .store 2 (.t 1) (.t 13), none⟩,
  ⟨some 2, .mv (.t 14), none⟩]
abbrev r14_2 : List CO := [
  ⟨some 16, .load true 2 (.t 1), none⟩,
  ⟨some 17, .bslice 1 4 ([.s (.int .u8 0)]) [(0, .c (.p (.s (.int .u8 1)))), (1, .c (.p (.s (.int .u8 2)))), (2, .c (.p (.s (.int .u8 3)))), (3, .c (.p (.s (.int .u8 4))))], none⟩,
  ⟨some 18, .call (.c (.fn (.func 11) [] [])) [.t 16, .t 17], none⟩,
  ⟨some 15, .mv (.t 18), none⟩,
  ⟨some 19, .extract 0 (.t 15), none⟩,
  ⟨some 20, .extract 1 (.t 15), none⟩,
  ⟨some 21, .extract 2 (.t 15), none⟩,
  ⟨none, .store 2 (.t 1) (.t 19), none⟩,
  ⟨some 3, .mv (.t 20), none⟩,
  ⟨some 4, .mv (.t 21), none⟩]
abbrev r14_3 : List CO := [
  ⟨some 23, .load true 2 (.t 1), none⟩,
  ⟨some 24, .call (.c (.fn (.func 12) [] [])) [.t 23, .c (.p (.s (.int .i64 2)))], none⟩,
  ⟨some 22, .mv (.t 24), none⟩,
  ⟨some 25, .extract 0 (.t 22), none⟩,
  ⟨some 26, .extract 1 (.t 22), none⟩,
  ⟨some 27, .extract 2 (.t 22), none⟩,
  ⟨none, .store 2 (.t 1) (.t 25), none⟩,
  ⟨some 5, .mv (.t 26), none⟩,
  ⟨some 6, .mv (.t 27), none⟩]
abbrev r14_4 : List CO := [
  ⟨some 29, .load true 2 (.t 1), none⟩,
  ⟨some 30, .bslice 1 2 ([.s (.int .u8 0)]) [(0, .c (.p (.s (.int .u8 5)))), (1, .c (.p (.s (.int .u8 6))))], none⟩,
  ⟨some 31, .call (.c (.fn (.func 11) [] [])) [.t 29, .t 30], none⟩,
  ⟨some 28, .mv (.t 31), none⟩,
  ⟨some 32, .extract 0 (.t 28), none⟩,
  ⟨some 33, .extract 1 (.t 28), none⟩,
  ⟨some 34, .extract 2 (.t 28), none⟩,
  ⟨none, .store 2 (.t 1) (.t 32), none⟩,
  ⟨some 7, .mv (.t 33), none⟩,
  ⟨some 8, .mv (.t 34), none⟩]
abbrev r14_5 : List CO := [
  ⟨some 36, .load true 2 (.t 1), none⟩,
  ⟨some 37, .call (.c (.fn (.func 12) [] [])) [.t 36, .c (.p (.s (.int .i64 9)))], none⟩,
  ⟨some 35, .mv (.t 37), none⟩,
  ⟨some 38, .extract 0 (.t 35), none⟩,
  ⟨some 39, .extract 1 (.t 35), none⟩,
  ⟨some 40, .extract 2 (.t 35), none⟩,
  ⟨none, .store 2 (.t 1) (.t 38), none⟩,
  ⟨some 9, .mv (.t 39), none⟩,
  ⟨some 10, .mv (.t 40), none⟩]
abbrev r14_6 : List CO := [
  ⟨some 41, .mv (.t 2), none⟩,
  ⟨some 42, .bin .eql (.t 41) (.c (.p (.s (.int .i64 0)))), none⟩,
  ⟨some 43, .mv (.t 42), none⟩,
  ⟨some 44, .mv (.t 4), some (43, true)⟩,
  ⟨some 45, .bin .eql (.t 44) (.c (.p (.s (.int .i64 0)))), some (43, true)⟩,
  ⟨some 46, .pick (.t 43) (.t 45) (.c (.p (.s (.bool false)))), none⟩,
  ⟨some 47, .mv (.t 46), none⟩,
  ⟨some 48, .mv (.t 6), some (47, true)⟩,
  ⟨some 49, .bin .eql (.t 48) (.c (.p (.s (.int .i64 0)))), some (47, true)⟩,
  ⟨some 50, .pick (.t 47) (.t 49) (.c (.p (.s (.bool false)))), none⟩,
  ⟨some 51, .mv (.t 50), none⟩,
  ⟨some 52, .mv (.t 8), some (51, true)⟩,
  ⟨some 53, .bin .eql (.t 52) (.c (.p (.s (.int .i64 0)))), some (51, true)⟩,
  ⟨some 54, .pick (.t 51) (.t 53) (.c (.p (.s (.bool false)))), none⟩,
  ⟨some 55, .mv (.t 54), none⟩,
  ⟨some 56, .mv (.t 10), some (55, true)⟩,
  ⟨some 57, .bin .eql (.t 56) (.c (.p (.s (.int .i64 0)))), some (55, true)⟩,
  ⟨some 58, .pick (.t 55) (.t 57) (.c (.p (.s (.bool false)))), none⟩,
  ⟨some 59, .mv (.t 58), none⟩,
  ⟨some 60, .mv (.t 3), some (59, true)⟩,
  ⟨some 61, .bin .eql (.t 60) (.c (.p (.s (.int .i64 3)))), some (59, true)⟩,
  ⟨some 62, .pick (.t 59) (.t 61) (.c (.p (.s (.bool false)))), none⟩,
  ⟨some 63, .mv (.t 62), none⟩,
  ⟨some 64, .mv (.t 7), some (63, true)⟩,
  ⟨some 65, .bin .eql (.t 64) (.c (.p (.s (.int .i64 2)))), some (63, true)⟩,
  ⟨some 66, .pick (.t 63) (.t 65) (.c (.p (.s (.bool false)))), none⟩,
  ⟨some 67, .mv (.t 66), none⟩,
  ⟨some 68, .mv (.t 5), some (67, true)⟩,
  ⟨some 69, .toStr (.t 68), some (67, true)⟩,
  ⟨some 70, .bin .eql (.t 69) (.c (.p (.s (.string { data := #[1, 2] })))), some (67, true)⟩,
  ⟨some 71, .pick (.t 67) (.t 70) (.c (.p (.s (.bool false)))), none⟩,
  ⟨some 72, .mv (.t 71), none⟩,
  ⟨some 73, .mv (.t 9), some (72, true)⟩,
  ⟨some 74, .toStr (.t 73), some (72, true)⟩,
  ⟨some 75, .bin .eql (.t 74) (.c (.p (.s (.string { data := #[3, 5, 6] })))), some (72, true)⟩,
  ⟨some 76, .pick (.t 72) (.t 75) (.c (.p (.s (.bool false)))), none⟩,
  ⟨some 77, .mv (.t 76), none⟩,
  ⟨some 78, .faddr 1 (.t 1), some (77, true)⟩,
  ⟨some 79, .load false 1 (.t 78), some (77, true)⟩,
  ⟨some 80, .len (.t 79), some (77, true)⟩,
  ⟨some 81, .bin .eql (.t 80) (.c (.p (.s (.int .i64 0)))), some (77, true)⟩,
  ⟨some 82, .pick (.t 77) (.t 81) (.c (.p (.s (.bool false)))), none⟩,
  ⟨some 83, .mv (.t 82), none⟩,
  ⟨some 84, .pick (.t 83) (.c (.p (.s (.bool true)))) (.c (.p (.s (.bool false)))), none⟩,
  ⟨some 0, .mv (.t 84), none⟩]
abbrev c14 : CC := .seq (.reg r14_0) (.seq (.reg r14_1) (.rest [1, 2] (.seq (.reg r14_2) (.rest [1, 2, 3, 4] (.seq (.reg r14_3) (.rest [1, 2, 3, 4, 5, 6] (.seq (.reg r14_4) (.rest [1, 2, 3, 4, 5, 6, 7, 8] (.seq (.reg r14_5) (.rest [1, 2, 3, 4, 5, 6, 7, 8, 9, 10] (.seq (.reg r14_6) (.rest [0] (.ret)))))))))))))
theorem F14 : Fun Try.prog 14 85 c14 [.tmp 0] 0 := ⟨⟨Try.f14, _, Try.func14, rfl, by kernel_rfl, Try.ntmps14, by kernel_rfl, by kernel_rfl⟩, by decide⟩

/-- linnet/linnetlaw01.One -/
abbrev r15_0 : List CO := [
  ⟨some 1, .box (.t 0), none⟩,
  ⟨some 2, .alloc ([.s (.int .i64 0), .s (.slice none 0 0)]), none⟩]
abbrev r15_1 : List CO := [
  ⟨some 3, .faddr 0 (.t 1), none⟩,
  ⟨some 4, .load false 1 (.t 3), none⟩,
  ⟨some 5, .faddr 1 (.t 1), none⟩,
  ⟨some 6, .load false 1 (.t 5), none⟩,
  ⟨some 7, .call (.c (.fn (.func 10) [] [])) [.t 6], none⟩,
  ⟨some 8, .build ([.s (.int .i64 0), .s (.slice none 0 0)]) [(0, 1, .t 4), (1, 1, .t 7)], none⟩,
  ⟨none, .store 2 (.t 2) (.t 8), none⟩]
abbrev b15_1 : List (List Nat) := [[], [0], [], [2], [3], [1, 4], [5, 4, 0, 1, 2, 3, 4, 5]]
abbrev c15 : CC := .seq (.reg r15_0) (.seq (.regd r15_1 b15_1) (.rest [2] (.ret)))
theorem F15 : Fun Try.prog 15 9 c15 [.cell 2 true 2] 1 := ⟨⟨Try.f15, _, Try.func15, rfl, by kernel_rfl, Try.ntmps15, by kernel_rfl, by kernel_rfl⟩, by decide⟩

/-- linnet/linnetref01.Same -/
abbrev r16_0 : List CO := [
  ⟨some 2, .box (.t 0), none⟩,
  ⟨some 3, .box (.t 1), none⟩,
  ⟨some 4, .mv (.c (.p (.s (.bool false)))), none⟩]
abbrev r16_1 : List CO := [
  ⟨some 5, .faddr 0 (.t 2), none⟩,
  ⟨some 6, .load false 1 (.t 5), none⟩,
  ⟨some 7, .faddr 0 (.t 3), none⟩,
  ⟨some 8, .load false 1 (.t 7), none⟩,
  ⟨some 9, .bin .eql (.t 6) (.t 8), none⟩,
  ⟨some 10, .mv (.t 9), none⟩,
  ⟨some 11, .faddr 1 (.t 2), some (10, true)⟩,
  ⟨some 12, .load false 1 (.t 11), some (10, true)⟩,
  ⟨some 13, .faddr 1 (.t 3), some (10, true)⟩,
  ⟨some 14, .load false 1 (.t 13), some (10, true)⟩,
  ⟨some 15, .call (.c (.fn (.func 13) [] [])) [.t 12, .t 14], some (10, true)⟩,
  ⟨some 16, .pick (.t 10) (.t 15) (.c (.p (.s (.bool false)))), none⟩,
  ⟨some 4, .mv (.t 16), none⟩]
abbrev c16 : CC := .seq (.reg r16_0) (.seq (.reg r16_1) (.rest [4] (.ret)))
theorem F16 : Fun Try.prog 16 17 c16 [.tmp 4] 2 := ⟨⟨Try.f16, _, Try.func16, rfl, by kernel_rfl, Try.ntmps16, by kernel_rfl, by kernel_rfl⟩, by decide⟩

/-- linnet/queue.Check -/
abbrev r17_0 : List CO := [
  ⟨some 1, .box (.t 0), none⟩,
  ⟨some 2, .mv (.c (.p (.s (.int .i64 0)))), none⟩]
abbrev r17_1 : List CO := [
  ⟨some 3, .faddr 0 (.t 1), none⟩,
  ⟨some 4, .load false 1 (.t 3), none⟩,
  ⟨some 5, .bin .lss (.t 4) (.c (.p (.s (.int .i64 1)))), none⟩,
  ⟨some 6, .mv (.t 5), none⟩,
  ⟨some 7, .faddr 0 (.t 1), some (6, false)⟩,
  ⟨some 8, .load false 1 (.t 7), some (6, false)⟩,
  ⟨some 9, .bin .gtr (.t 8) (.c (.p (.s (.int .i64 65536)))), some (6, false)⟩,
  ⟨some 10, .pick (.t 6) (.c (.p (.s (.bool true)))) (.t 9), none⟩,
  ⟨some 11, .mv (.t 10), none⟩,
  ⟨some 12, .faddr 1 (.t 1), some (11, false)⟩,
  ⟨some 13, .load false 1 (.t 12), some (11, false)⟩,
  ⟨some 14, .len (.t 13), some (11, false)⟩,
  ⟨some 15, .faddr 0 (.t 1), some (11, false)⟩,
  ⟨some 16, .load false 1 (.t 15), some (11, false)⟩,
  ⟨some 17, .bin .gtr (.t 14) (.t 16), some (11, false)⟩,
  ⟨some 18, .pick (.t 11) (.c (.p (.s (.bool true)))) (.t 17), none⟩]
abbrev r17_2 : List CO := [
  ⟨some 2, .mv (.c (.p (.s (.int .i64 1)))), none⟩]
abbrev r17_3 : List CO := [
  ⟨some 2, .mv (.c (.p (.s (.int .i64 0)))), none⟩]
abbrev c17 : CC := .seq (.reg r17_0) (.seq (.seq (.reg r17_1) (.rest [18] (.cond (.t 18) (.seq (.reg r17_2) (.ret)) (.skip)))) (.rest [] (.seq (.reg r17_3) (.ret))))
theorem F17 : Fun Try.prog 17 19 c17 [.tmp 2] 1 := ⟨⟨Try.f17, _, Try.func17, rfl, by kernel_rfl, Try.ntmps17, by kernel_rfl, by kernel_rfl⟩, by decide⟩

/-- linnet/linnetref01.May -/
abbrev r18_0 : List CO := [
  ⟨some 1, .box (.t 0), none⟩,
  ⟨some 2, .mv (.c (.p (.s (.bool false)))), none⟩]
abbrev r18_1 : List CO := [
  ⟨some 3, .faddr 0 (.t 1), none⟩,
  ⟨some 4, .load false 1 (.t 3), none⟩,
  ⟨some 5, .bin .geq (.t 4) (.c (.p (.s (.int .i64 1)))), none⟩,
  ⟨some 6, .mv (.t 5), none⟩,
  ⟨some 7, .faddr 0 (.t 1), some (6, true)⟩,
  ⟨some 8, .load false 1 (.t 7), some (6, true)⟩,
  ⟨some 9, .bin .leq (.t 8) (.c (.p (.s (.int .i64 65536)))), some (6, true)⟩,
  ⟨some 10, .pick (.t 6) (.t 9) (.c (.p (.s (.bool false)))), none⟩,
  ⟨some 11, .mv (.t 10), none⟩,
  ⟨some 12, .faddr 1 (.t 1), some (11, true)⟩,
  ⟨some 13, .load false 1 (.t 12), some (11, true)⟩,
  ⟨some 14, .len (.t 13), some (11, true)⟩,
  ⟨some 15, .faddr 0 (.t 1), some (11, true)⟩,
  ⟨some 16, .load false 1 (.t 15), some (11, true)⟩,
  ⟨some 17, .bin .leq (.t 14) (.t 16), some (11, true)⟩,
  ⟨some 18, .pick (.t 11) (.t 17) (.c (.p (.s (.bool false)))), none⟩,
  ⟨some 2, .mv (.t 18), none⟩]
abbrev c18 : CC := .seq (.reg r18_0) (.seq (.reg r18_1) (.rest [2] (.ret)))
theorem F18 : Fun Try.prog 18 19 c18 [.tmp 2] 1 := ⟨⟨Try.f18, _, Try.func18, rfl, by kernel_rfl, Try.ntmps18, by kernel_rfl, by kernel_rfl⟩, by decide⟩

/-- linnet/queue.Same -/
abbrev r19_0 : List CO := [
  ⟨some 2, .box (.t 0), none⟩,
  ⟨some 3, .box (.t 1), none⟩,
  ⟨some 4, .mv (.c (.p (.s (.bool false)))), none⟩]
abbrev r19_1 : List CO := [
  ⟨some 5, .faddr 0 (.t 2), none⟩,
  ⟨some 6, .load false 1 (.t 5), none⟩,
  ⟨some 7, .faddr 0 (.t 3), none⟩,
  ⟨some 8, .load false 1 (.t 7), none⟩,
  ⟨some 9, .bin .eql (.t 6) (.t 8), none⟩,
  ⟨some 10, .mv (.t 9), none⟩,
  ⟨some 11, .faddr 1 (.t 2), some (10, true)⟩,
  ⟨some 12, .load false 1 (.t 11), some (10, true)⟩,
  ⟨some 13, .faddr 1 (.t 3), some (10, true)⟩,
  ⟨some 14, .load false 1 (.t 13), some (10, true)⟩,
  ⟨some 15, .call (.c (.fn (.func 23) [] [])) [.t 12, .t 14], some (10, true)⟩,
  ⟨some 16, .pick (.t 10) (.t 15) (.c (.p (.s (.bool false)))), none⟩,
  ⟨some 4, .mv (.t 16), none⟩]
abbrev c19 : CC := .seq (.reg r19_0) (.seq (.reg r19_1) (.rest [4] (.ret)))
theorem F19 : Fun Try.prog 19 17 c19 [.tmp 4] 2 := ⟨⟨Try.f19, _, Try.func19, rfl, by kernel_rfl, Try.ntmps19, by kernel_rfl, by kernel_rfl⟩, by decide⟩

/-- linnet/linnetref01.Put -/
abbrev r20_0 : List CO := [
  ⟨some 2, .box (.t 0), none⟩,
  ⟨some 4, .alloc ([.s (.int .i64 0), .s (.slice none 0 0)]), none⟩,
  ⟨some 5, .mv (.c (.p (.s (.int .i64 0)))), none⟩]
abbrev r20_1 : List CO := [
  ⟨some 8, .faddr 0 (.t 2), none⟩,
  ⟨some 9, .load false 1 (.t 8), none⟩,
  ⟨some 10, .bslice 1 0 ([.s (.int .u8 0)]) [], none⟩,
  ⟨some 11, .faddr 1 (.t 2), none⟩,
  ⟨some 12, .load false 1 (.t 11), none⟩,
  ⟨some 13, .append 1 1 ([.s (.int .u8 0)]) (.t 10) (.t 12), none⟩,
  ⟨some 14, .build ([.s (.int .i64 0), .s (.slice none 0 0)]) [(0, 1, .t 9), (1, 1, .t 13)], none⟩,
  ⟨some 6, .alloc ([.s (.int .i64 0), .s (.slice none 0 0)]), none⟩,
  ⟨none, .store 2 (.t 6) (.t 14), none⟩]
abbrev b20_1 : List (List Nat) := [[], [0], [], [], [3], [2, 4], [1, 5], [], [7, 6, 5, 0, 1, 2, 3, 4, 5, 6, 7]]
abbrev r20_2 : List CO := [
  ⟨some 7, .mv (.c (.p (.s (.int .i64 0)))), none⟩]
abbrev r20_3 : List CO := [
  ⟨some 15, .mv (.t 7), none⟩,
  ⟨some 16, .mv (.t 1), none⟩,
  ⟨some 17, .len (.t 16), none⟩,
  ⟨some 18, .bin .lss (.t 15) (.t 17), none⟩,
  ⟨some 19, .mv (.t 18), none⟩,
  ⟨some 20, .faddr 1 (.t 6), some (19, true)⟩,
  ⟨some 21, .load false 1 (.t 20), some (19, true)⟩,
  ⟨some 22, .len (.t 21), some (19, true)⟩,
  ⟨some 23, .faddr 0 (.t 2), some (19, true)⟩,
  ⟨some 24, .load false 1 (.t 23), some (19, true)⟩,
  ⟨some 25, .bin .lss (.t 22) (.t 24), some (19, true)⟩,
  ⟨some 26, .pick (.t 19) (.t 25) (.c (.p (.s (.bool false)))), none⟩]
abbrev r20_4 : List CO := [
  ⟨some 27, .faddr 1 (.t 6), none⟩,
  ⟨some 28, .load false 1 (.t 27), none⟩,
  ⟨some 29, .mv (.t 1), none⟩,
  ⟨some 30, .mv (.t 7), none⟩,
  ⟨some 31, .iaddrS 1 (.t 29) (.t 30), none⟩,
  ⟨some 32, .load false 1 (.t 31), none⟩,
  ⟨some 33, .bslice 1 1 ([.s (.int .u8 0)]) [(0, .t 32)], none⟩,
  ⟨some 34, .append 1 1 ([.s (.int .u8 0)]) (.t 28) (.t 33), none⟩,
  ⟨some 35, .faddr 1 (.t 6), none⟩,
  ⟨none, .store 1 (.t 35) (.t 34), none⟩]
abbrev b20_4 : List (List Nat) := [[], [0], [], [], [2, 3], [4], [5], [1, 6], [0, 1, 2, 3, 4, 5, 6, 7], [8, 7, 7, 0, 1, 2, 3, 4, 5, 6, 7]]
abbrev r20_5 : List CO := [
  ⟨some 36, .mv (.t 7), none⟩,
  ⟨some 37, .bin .add (.t 36) (.c (.p (.s (.int .i64 1)))), none⟩,
  ⟨some 7, .mv (.t 37), none⟩]
abbrev k20_1 : CC := .seq (.regd r20_4 b20_4) (.rest [1, 2, 4, 6, 7] (.reg r20_5))
abbrev l20_9 : CC := .seq (.seq (.reg r20_3) (.rest [1, 2, 4, 6, 7, 26] (.cond (.t 26) (.skip) (.exit 0)))) (.rest [1, 2, 4, 6, 7] (.block 1 k20_1))
abbrev k20_0 : CC := .loop l20_9
abbrev r20_6 : List CO := [
  ⟨some 38, .load true 2 (.t 6), none⟩,
  ⟨some 39, .mv (.t 7), none⟩,
  ⟨none, .store 2 (.t 4) (.t 38), none⟩,
  ⟨some 5, .mv (.t 39), none⟩]
abbrev c20 : CC := .seq (.reg r20_0) (.seq (.regd r20_1 b20_1) (.rest [1, 2, 4, 6] (.seq (.reg r20_2) (.seq (.block 0 k20_0) (.rest [4, 6, 7] (.seq (.reg r20_6) (.rest [4, 5] (.ret))))))))
theorem F20 : Fun Try.prog 20 40 c20 [.cell 4 true 2, .tmp 5] 2 := ⟨⟨Try.f20, _, Try.func20, rfl, by kernel_rfl, Try.ntmps20, by kernel_rfl, by kernel_rfl⟩, by decide⟩

/-- linnet/linnetref01.Take -/
abbrev r21_0 : List CO := [
  ⟨some 2, .box (.t 0), none⟩,
  ⟨some 4, .alloc ([.s (.int .i64 0), .s (.slice none 0 0)]), none⟩,
  ⟨some 5, .mv (.c (.p (.s (.slice none 0 0)))), none⟩]
abbrev r21_1 : List CO := [
  ⟨some 6, .mv (.c (.p (.s (.slice none 0 0)))), none⟩]
abbrev r21_2 : List CO := [
  ⟨some 7, .mv (.t 6), none⟩,
  ⟨some 8, .len (.t 7), none⟩,
  ⟨some 9, .mv (.t 1), none⟩,
  ⟨some 10, .bin .lss (.t 8) (.t 9), none⟩,
  ⟨some 11, .mv (.t 10), none⟩,
  ⟨some 12, .mv (.t 6), some (11, true)⟩,
  ⟨some 13, .len (.t 12), some (11, true)⟩,
  ⟨some 14, .faddr 1 (.t 2), some (11, true)⟩,
  ⟨some 15, .load false 1 (.t 14), some (11, true)⟩,
  ⟨some 16, .len (.t 15), some (11, true)⟩,
  ⟨some 17, .bin .lss (.t 13) (.t 16), some (11, true)⟩,
  ⟨some 18, .pick (.t 11) (.t 17) (.c (.p (.s (.bool false)))), none⟩]
abbrev r21_3 : List CO := [
  ⟨some 19, .mv (.t 6), none⟩,
  ⟨some 20, .faddr 1 (.t 2), none⟩,
  ⟨some 21, .load false 1 (.t 20), none⟩,
  ⟨some 22, .mv (.t 6), none⟩,
  ⟨some 23, .len (.t 22), none⟩,
  ⟨some 24, .iaddrS 1 (.t 21) (.t 23), none⟩,
  ⟨some 25, .load false 1 (.t 24), none⟩,
  ⟨some 26, .bslice 1 1 ([.s (.int .u8 0)]) [(0, .t 25)], none⟩,
  ⟨some 27, .append 1 1 ([.s (.int .u8 0)]) (.t 19) (.t 26), none⟩,
  ⟨some 6, .mv (.t 27), none⟩]
abbrev k21_1 : CC := .reg r21_3
abbrev l21_5 : CC := .seq (.seq (.reg r21_2) (.rest [1, 2, 4, 6, 18] (.cond (.t 18) (.skip) (.exit 0)))) (.rest [1, 2, 4, 6] (.block 1 k21_1))
abbrev k21_0 : CC := .loop l21_5
abbrev r21_4 : List CO := [
  ⟨some 28, .faddr 0 (.t 2), none⟩,
  ⟨some 29, .load false 1 (.t 28), none⟩,
  ⟨some 30, .bslice 1 0 ([.s (.int .u8 0)]) [], none⟩,
  ⟨some 31, .faddr 1 (.t 2), none⟩,
  ⟨some 32, .load false 1 (.t 31), none⟩,
  ⟨some 33, .mv (.t 6), none⟩,
  ⟨some 34, .len (.t 33), none⟩,
  ⟨some 35, .slice 1 (.t 32) (some (.t 34)) none, none⟩,
  ⟨some 36, .append 1 1 ([.s (.int .u8 0)]) (.t 30) (.t 35), none⟩,
  ⟨some 37, .build ([.s (.int .i64 0), .s (.slice none 0 0)]) [(0, 1, .t 29), (1, 1, .t 36)], none⟩,
  ⟨some 38, .mv (.t 6), none⟩,
  ⟨none, .store 2 (.t 4) (.t 37), none⟩,
  ⟨some 5, .mv (.t 38), none⟩]
abbrev b21_4 : List (List Nat) := [[], [0], [], [], [3], [], [5], [4, 6], [2, 7], [1, 8], [], [9, 8, 0, 1, 2, 3, 4, 5, 6, 7, 8, 9], [10, 11, 0, 1, 2, 3, 4, 5, 6, 7, 8, 9, 10, 11]]
abbrev c21 : CC := .seq (.reg r21_0) (.seq (.reg r21_1) (.seq (.block 0 k21_0) (.rest [2, 4, 6] (.seq (.regd r21_4 b21_4) (.rest [4, 5] (.ret))))))
theorem F21 : Fun Try.prog 21 39 c21 [.cell 4 true 2, .tmp 5] 2 := ⟨⟨Try.f21, _, Try.func21, rfl, by kernel_rfl, Try.ntmps21, by kernel_rfl, by kernel_rfl⟩, by decide⟩

/-- bytes.Clone -/
abbrev r22_0 : List CO := [
  ⟨some 2, .mv (.c (.p (.s (.slice none 0 0)))), none⟩]
abbrev r22_1 : List CO := [
  ⟨some 3, .mv (.t 0), none⟩,
  ⟨some 4, .isnil false (.t 3), none⟩]
abbrev r22_2 : List CO := [
  ⟨some 2, .mv (.c (.p (.s (.slice none 0 0)))), none⟩]
abbrev r22_3 : List CO := [
  ⟨some 5, .bslice 1 0 ([.s (.int .u8 0)]) [], none⟩,
  ⟨some 6, .mv (.t 0), none⟩,
  ⟨some 7, .append 1 1 ([.s (.int .u8 0)]) (.t 5) (.t 6), none⟩,
  ⟨some 2, .mv (.t 7), none⟩]
abbrev c22 : CC := .seq (.reg r22_0) (.seq (.seq (.reg r22_1) (.cond (.t 4) (.seq (.reg r22_2) (.ret)) (.skip))) (.seq (.reg r22_3) (.rest [2] (.ret))))
theorem F22 : Fun Try.prog 22 8 c22 [.tmp 2] 1 := ⟨⟨Try.f22, _, Try.func22, rfl, by kernel_rfl, Try.ntmps22, by kernel_rfl, by kernel_rfl⟩, by decide⟩

/-- bytes.Equal -/
abbrev r23_0 : List CO := [
  ⟨some 4, .mv (.c (.p (.s (.bool false)))), none⟩]
abbrev r23_1 : List CO := [
  ⟨some 5, .mv (.t 0), none⟩,
  ⟨some 6, .toStr (.t 5), none⟩,
  ⟨some 7, .mv (.t 1), none⟩,
  ⟨some 8, .toStr (.t 7), none⟩,
  ⟨some 9, .bin .eql (.t 6) (.t 8), none⟩,
  ⟨some 4, .mv (.t 9), none⟩]
abbrev c23 : CC := .seq (.reg r23_0) (.seq (.reg r23_1) (.rest [4] (.ret)))
theorem F23 : Fun Try.prog 23 10 c23 [.tmp 4] 2 := ⟨⟨Try.f23, _, Try.func23, rfl, by kernel_rfl, Try.ntmps23, by kernel_rfl, by kernel_rfl⟩, by decide⟩

end Go.Proofs.Ytnhkcalanpepoaa
