/- Code of functions of the given program in compact form, printed by a program of this repository (wip/tools/gen.py) out of what Lean prints of the loaded functions; each is checked by the kernel. -/
import Derived.Test.YtaopaggmhleeoaaDoorSdf
import Derived.Test.YtaopaggmhleeoaaDoorProg
import Derived.KernelRfl
namespace Go.Proofs.YtaopaggmhleeoaaDoor
open Go Go.Shade

/-- linnet/linnetlaw11.SuboptTells -/
abbrev r3_0 : List CO := [
  ⟨some 3, .box (.t 0), none⟩,
  ⟨some 4, .box (.t 1), none⟩,
  ⟨some 6, .mv (.c (.p (.s (.bool false)))), none⟩]
abbrev r3_1 : List CO := [
  ⟨some 13, .load true 36 (.t 3), none⟩,
  ⟨some 14, .call (.c (.fn (.func 7) [] [])) [.t 13], none⟩,
  ⟨some 15, .load true 36 (.t 4), none⟩,
  ⟨some 16, .call (.c (.fn (.func 7) [] [])) [.t 15], none⟩,
  ⟨some 17, .mv (.t 2), none⟩,
  ⟨some 18, .call (.c (.fn (.func 8) [] [])) [.t 17], none⟩,
  ⟨none, .store 36 (.t 3) (.t 14), none⟩,
  ⟨none, .store 36 (.t 4) (.t 16), none⟩,
  ⟨some 2, .mv (.t 18), none⟩]
abbrev b3_1 : List (List Nat) := [[], [0], [], [2, 1], [], [4, 3], [1, 5, 0, 1], [3, 6, 0, 1, 2, 3, 6], [5, 7, 0, 1, 2, 3, 4, 5, 6, 7]]
abbrev r3_2 : List CO := [
  ⟨some 20, .load true 36 (.t 3), none⟩,
  ⟨some 21, .call (.c (.fn (.func 9) [] [])) [.t 20], none⟩,
  ⟨some 19, .mv (.t 21), none⟩,
  ⟨some 22, .extract 0 (.t 19), none⟩,
  ⟨some 23, .extract 1 (.t 19), none⟩,
  ⟨some 7, .mv (.t 22), none⟩,
  ⟨some 8, .mv (.t 23), none⟩]
abbrev r3_3 : List CO := [
  ⟨some 25, .mv (.t 2), none⟩,
  ⟨some 26, .call (.c (.fn (.func 10) [] [])) [.t 25], none⟩,
  ⟨some 24, .mv (.t 26), none⟩,
  ⟨some 27, .extract 0 (.t 24), none⟩,
  ⟨some 28, .extract 1 (.t 24), none⟩,
  ⟨some 9, .alloc ([.s (.int .i64 0), .s (.int .i64 0), .s (.int .i64 0), .s (.int .u8 0), .s (.int .u8 0), .s (.int .u8 0), .s (.int .u8 0), .s (.int .u8 0), .s (.int .u8 0), .s (.int .u8 0), .s (.int .u8 0), .s (.int .u8 0), .s (.int .u8 0), .s (.int .u8 0), .s (.int .u8 0), .s (.int .u8 0), .s (.int .u8 0), .s (.int .u8 0), .s (.int .u8 0), .s (.int .u8 0), .s (.int .u8 0), .s (.int .u8 0), .s (.int .u8 0), .s (.int .u8 0), .s (.int .u8 0), .s (.int .u8 0), .s (.int .u8 0), .s (.int .u8 0), .s (.int .u8 0), .s (.int .u8 0), .s (.int .u8 0), .s (.int .u8 0), .s (.int .u8 0), .s (.int .u8 0), .s (.int .u8 0), .s (.slice none 0 0)]), none⟩,
  ⟨none, .store 36 (.t 9) (.t 27), none⟩,
  ⟨some 10, .mv (.t 28), none⟩]
abbrev r3_4 : List CO := [
  ⟨some 30, .mv (.t 2), none⟩,
  ⟨some 31, .call (.c (.fn (.func 11) [] [])) [.t 30], none⟩,
  ⟨some 29, .mv (.t 31), none⟩,
  ⟨some 32, .extract 0 (.t 29), none⟩,
  ⟨some 33, .extract 1 (.t 29), none⟩,
  ⟨some 11, .alloc ([.s (.int .i64 0), .s (.int .i64 0), .s (.int .i64 0), .s (.int .u8 0), .s (.int .u8 0), .s (.int .u8 0), .s (.int .u8 0), .s (.int .u8 0), .s (.int .u8 0), .s (.int .u8 0), .s (.int .u8 0), .s (.int .u8 0), .s (.int .u8 0), .s (.int .u8 0), .s (.int .u8 0), .s (.int .u8 0), .s (.int .u8 0), .s (.int .u8 0), .s (.int .u8 0), .s (.int .u8 0), .s (.int .u8 0), .s (.int .u8 0), .s (.int .u8 0), .s (.int .u8 0), .s (.int .u8 0), .s (.int .u8 0), .s (.int .u8 0), .s (.int .u8 0), .s (.int .u8 0), .s (.int .u8 0), .s (.int .u8 0), .s (.int .u8 0), .s (.int .u8 0), .s (.int .u8 0), .s (.int .u8 0), .s (.slice none 0 0)]), none⟩,
  ⟨none, .store 36 (.t 11) (.t 32), none⟩,
  ⟨some 12, .mv (.t 33), none⟩]
abbrev r3_5 : List CO := [
  ⟨some 34, .load true 36 (.t 3), none⟩,
  ⟨some 35, .call (.c (.fn (.func 12) [] [])) [.t 34], none⟩,
  ⟨some 36, .bin .eql (.t 35) (.c (.p (.s (.int .i64 0)))), none⟩,
  ⟨some 37, .load true 36 (.t 3), none⟩,
  ⟨some 38, .call (.c (.fn (.func 13) [] [])) [.t 37], none⟩,
  ⟨some 39, .beq true (.t 36) (.t 38), none⟩,
  ⟨some 40, .mv (.t 39), none⟩,
  ⟨some 41, .load true 36 (.t 3), some (40, false)⟩,
  ⟨some 42, .load true 36 (.t 4), some (40, false)⟩,
  ⟨some 43, .call (.c (.fn (.func 14) [] [])) [.t 41, .t 42], some (40, false)⟩,
  ⟨some 44, .load true 36 (.t 3), some (40, false)⟩,
  ⟨some 45, .load true 36 (.t 4), some (40, false)⟩,
  ⟨some 46, .call (.c (.fn (.func 15) [] [])) [.t 44, .t 45], some (40, false)⟩,
  ⟨some 47, .beq true (.t 43) (.t 46), some (40, false)⟩,
  ⟨some 48, .pick (.t 40) (.c (.p (.s (.bool true)))) (.t 47), none⟩,
  ⟨some 49, .mv (.t 48), none⟩,
  ⟨some 50, .load true 36 (.t 9), some (49, false)⟩,
  ⟨some 51, .load true 36 (.t 11), some (49, false)⟩,
  ⟨some 52, .call (.c (.fn (.func 15) [] [])) [.t 50, .t 51], some (49, false)⟩,
  ⟨some 53, .un .not (.t 52), some (49, false)⟩,
  ⟨some 54, .pick (.t 49) (.c (.p (.s (.bool true)))) (.t 53), none⟩,
  ⟨some 55, .mv (.t 54), none⟩,
  ⟨some 56, .mv (.t 10), some (55, false)⟩,
  ⟨some 57, .bin .eql (.t 56) (.c (.p (.s (.int .i64 0)))), some (55, false)⟩,
  ⟨some 58, .mv (.t 12), some (55, false)⟩,
  ⟨some 59, .beq true (.t 57) (.t 58), some (55, false)⟩,
  ⟨some 60, .pick (.t 55) (.c (.p (.s (.bool true)))) (.t 59), none⟩,
  ⟨some 61, .mv (.t 60), none⟩,
  ⟨some 62, .mv (.t 12), some (61, false)⟩,
  ⟨some 63, .un .not (.t 62), some (61, false)⟩,
  ⟨some 64, .mv (.t 63), some (61, false)⟩,
  ⟨some 65, .mv (.t 10), some (64, true)⟩,
  ⟨some 66, .bin .neq (.t 65) (.c (.p (.s (.int .i64 2)))), some (64, true)⟩,
  ⟨some 67, .pick (.t 64) (.t 66) (.c (.p (.s (.bool false)))), some (61, false)⟩,
  ⟨some 68, .pick (.t 61) (.c (.p (.s (.bool true)))) (.t 67), none⟩]
abbrev b3_5 : List (List Nat) := [[], [0], [1], [], [3, 1], [2, 4], [5, 4], [6], [6], [7, 8, 6, 6], [6], [6], [10, 11, 9, 6], [9, 12, 6], [6, 13], [14, 12], [15], [15], [16, 17, 15, 15], [18, 15], [15, 19], [20, 18], [21], [22, 21], [21], [23, 24, 21], [21, 25], [26, 21], [27], [28, 27], [29, 27, 27], [30], [31, 30], [30, 32, 27], [27, 33]]
abbrev r3_6 : List CO := [
  ⟨some 6, .mv (.c (.p (.s (.bool false)))), none⟩]
abbrev r3_7 : List CO := [
  ⟨some 69, .load true 36 (.t 3), none⟩,
  ⟨some 70, .call (.c (.fn (.func 13) [] [])) [.t 69], none⟩,
  ⟨some 71, .un .not (.t 70), none⟩]
abbrev r3_8 : List CO := [
  ⟨some 72, .mv (.t 7), none⟩,
  ⟨some 73, .len (.t 72), none⟩,
  ⟨some 74, .bin .eql (.t 73) (.c (.p (.s (.int .i64 0)))), none⟩,
  ⟨some 75, .mv (.t 74), none⟩,
  ⟨some 76, .mv (.t 8), some (75, true)⟩,
  ⟨some 77, .bin .eql (.t 76) (.c (.p (.s (.int .i64 1)))), some (75, true)⟩,
  ⟨some 78, .pick (.t 75) (.t 77) (.c (.p (.s (.bool false)))), none⟩,
  ⟨some 79, .mv (.t 78), none⟩,
  ⟨some 80, .call (.c (.fn (.func 16) [] [])) [], some (79, true)⟩,
  ⟨some 81, .pick (.t 79) (.t 80) (.c (.p (.s (.bool false)))), none⟩,
  ⟨some 6, .mv (.t 81), none⟩]
abbrev r3_9 : List CO := [
  ⟨some 82, .mv (.t 7), none⟩,
  ⟨some 83, .load true 36 (.t 3), none⟩,
  ⟨some 84, .call (.c (.fn (.func 18) [] [])) [.t 83], none⟩,
  ⟨some 85, .call (.c (.fn (.func 17) [] [])) [.t 82, .t 84], none⟩,
  ⟨some 86, .mv (.t 85), none⟩,
  ⟨some 87, .mv (.t 8), some (86, true)⟩,
  ⟨some 88, .bin .eql (.t 87) (.c (.p (.s (.int .i64 0)))), some (86, true)⟩,
  ⟨some 89, .pick (.t 86) (.t 88) (.c (.p (.s (.bool false)))), none⟩,
  ⟨some 90, .mv (.t 89), none⟩,
  ⟨some 91, .call (.c (.fn (.func 16) [] [])) [], some (90, true)⟩,
  ⟨some 92, .pick (.t 90) (.t 91) (.c (.p (.s (.bool false)))), none⟩,
  ⟨some 6, .mv (.t 92), none⟩]
abbrev c3 : CC := .seq (.reg r3_0) (.seq (.regd r3_1 b3_1) (.rest [2, 3, 4] (.seq (.reg r3_2) (.rest [2, 3, 4, 7, 8] (.seq (.reg r3_3) (.rest [2, 3, 4, 7, 8, 9, 10] (.seq (.reg r3_4) (.rest [3, 4, 7, 8, 9, 10, 11, 12] (.seq (.seq (.regd r3_5 b3_5) (.rest [3, 7, 8, 68] (.cond (.t 68) (.seq (.reg r3_6) (.ret)) (.skip)))) (.rest [3, 7, 8] (.seq (.seq (.reg r3_7) (.cond (.t 71) (.seq (.reg r3_8) (.rest [6] (.ret))) (.skip))) (.rest [3, 7, 8] (.seq (.reg r3_9) (.rest [6] (.ret)))))))))))))))
theorem F3 : Fun Tryd.prog 3 93 c3 [.tmp 6] 3 := ⟨⟨Tryd.f3, _, Tryd.func3, rfl, by kernel_rfl, Tryd.ntmps3, by kernel_rfl, by kernel_rfl⟩, by decide⟩

/-- linnet/linnetlaw11.SuboptBack -/
abbrev r4_0 : List CO := [
  ⟨some 2, .box (.t 0), none⟩,
  ⟨some 4, .mv (.c (.p (.s (.bool false)))), none⟩]
abbrev r4_1 : List CO := [
  ⟨some 14, .load true 36 (.t 2), none⟩,
  ⟨some 15, .call (.c (.fn (.func 7) [] [])) [.t 14], none⟩,
  ⟨some 16, .mv (.t 1), none⟩,
  ⟨some 17, .call (.c (.fn (.func 8) [] [])) [.t 16], none⟩,
  ⟨none, .store 36 (.t 2) (.t 15), none⟩,
  ⟨some 1, .mv (.t 17), none⟩]
abbrev r4_2 : List CO := [
  ⟨some 19, .load true 36 (.t 2), none⟩,
  ⟨some 20, .call (.c (.fn (.func 9) [] [])) [.t 19], none⟩,
  ⟨some 18, .mv (.t 20), none⟩,
  ⟨some 21, .extract 0 (.t 18), none⟩,
  ⟨some 22, .extract 1 (.t 18), none⟩,
  ⟨some 5, .mv (.t 21), none⟩,
  ⟨some 6, .mv (.t 22), none⟩]
abbrev r4_3 : List CO := [
  ⟨some 23, .mv (.t 6), none⟩,
  ⟨some 24, .bin .eql (.t 23) (.c (.p (.s (.int .i64 0)))), none⟩]
abbrev r4_4 : List CO := [
  ⟨some 26, .mv (.t 5), none⟩,
  ⟨some 27, .call (.c (.fn (.func 10) [] [])) [.t 26], none⟩,
  ⟨some 25, .mv (.t 27), none⟩,
  ⟨some 28, .extract 0 (.t 25), none⟩,
  ⟨some 29, .extract 1 (.t 25), none⟩,
  ⟨some 7, .alloc ([.s (.int .i64 0), .s (.int .i64 0), .s (.int .i64 0), .s (.int .u8 0), .s (.int .u8 0), .s (.int .u8 0), .s (.int .u8 0), .s (.int .u8 0), .s (.int .u8 0), .s (.int .u8 0), .s (.int .u8 0), .s (.int .u8 0), .s (.int .u8 0), .s (.int .u8 0), .s (.int .u8 0), .s (.int .u8 0), .s (.int .u8 0), .s (.int .u8 0), .s (.int .u8 0), .s (.int .u8 0), .s (.int .u8 0), .s (.int .u8 0), .s (.int .u8 0), .s (.int .u8 0), .s (.int .u8 0), .s (.int .u8 0), .s (.int .u8 0), .s (.int .u8 0), .s (.int .u8 0), .s (.int .u8 0), .s (.int .u8 0), .s (.int .u8 0), .s (.int .u8 0), .s (.int .u8 0), .s (.int .u8 0), .s (.slice none 0 0)]), none⟩,
  ⟨none, .store 36 (.t 7) (.t 28), none⟩,
  ⟨some 8, .mv (.t 29), none⟩]
abbrev r4_5 : List CO := [
  ⟨some 30, .mv (.t 8), none⟩,
  ⟨some 31, .bin .neq (.t 30) (.c (.p (.s (.int .i64 0)))), none⟩,
  ⟨some 32, .mv (.t 31), none⟩,
  ⟨some 33, .load true 36 (.t 7), some (32, false)⟩,
  ⟨some 34, .load true 36 (.t 2), some (32, false)⟩,
  ⟨some 35, .call (.c (.fn (.func 14) [] [])) [.t 33, .t 34], some (32, false)⟩,
  ⟨some 36, .un .not (.t 35), some (32, false)⟩,
  ⟨some 37, .pick (.t 32) (.c (.p (.s (.bool true)))) (.t 36), none⟩,
  ⟨some 38, .mv (.t 37), none⟩,
  ⟨some 39, .mv (.t 5), some (38, false)⟩,
  ⟨some 40, .len (.t 39), some (38, false)⟩,
  ⟨some 41, .bin .gtr (.t 40) (.c (.p (.s (.int .i64 512)))), some (38, false)⟩,
  ⟨some 42, .pick (.t 38) (.c (.p (.s (.bool true)))) (.t 41), none⟩]
abbrev r4_6 : List CO := [
  ⟨some 4, .mv (.c (.p (.s (.bool false)))), none⟩]
abbrev r4_7 : List CO := [
  ⟨some 44, .mv (.t 1), none⟩,
  ⟨some 45, .call (.c (.fn (.func 10) [] [])) [.t 44], none⟩,
  ⟨some 43, .mv (.t 45), none⟩,
  ⟨some 46, .extract 0 (.t 43), none⟩,
  ⟨some 47, .extract 1 (.t 43), none⟩,
  ⟨some 9, .alloc ([.s (.int .i64 0), .s (.int .i64 0), .s (.int .i64 0), .s (.int .u8 0), .s (.int .u8 0), .s (.int .u8 0), .s (.int .u8 0), .s (.int .u8 0), .s (.int .u8 0), .s (.int .u8 0), .s (.int .u8 0), .s (.int .u8 0), .s (.int .u8 0), .s (.int .u8 0), .s (.int .u8 0), .s (.int .u8 0), .s (.int .u8 0), .s (.int .u8 0), .s (.int .u8 0), .s (.int .u8 0), .s (.int .u8 0), .s (.int .u8 0), .s (.int .u8 0), .s (.int .u8 0), .s (.int .u8 0), .s (.int .u8 0), .s (.int .u8 0), .s (.int .u8 0), .s (.int .u8 0), .s (.int .u8 0), .s (.int .u8 0), .s (.int .u8 0), .s (.int .u8 0), .s (.int .u8 0), .s (.int .u8 0), .s (.slice none 0 0)]), none⟩,
  ⟨none, .store 36 (.t 9) (.t 46), none⟩,
  ⟨some 10, .mv (.t 47), none⟩]
abbrev r4_8 : List CO := [
  ⟨some 48, .mv (.t 10), none⟩,
  ⟨some 49, .bin .neq (.t 48) (.c (.p (.s (.int .i64 0)))), none⟩]
abbrev r4_9 : List CO := [
  ⟨some 50, .load true 36 (.t 9), none⟩,
  ⟨some 51, .build ([.s (.int .i64 0), .s (.int .i64 0), .s (.int .i64 0), .s (.int .u8 0), .s (.int .u8 0), .s (.int .u8 0), .s (.int .u8 0), .s (.int .u8 0), .s (.int .u8 0), .s (.int .u8 0), .s (.int .u8 0), .s (.int .u8 0), .s (.int .u8 0), .s (.int .u8 0), .s (.int .u8 0), .s (.int .u8 0), .s (.int .u8 0), .s (.int .u8 0), .s (.int .u8 0), .s (.int .u8 0), .s (.int .u8 0), .s (.int .u8 0), .s (.int .u8 0), .s (.int .u8 0), .s (.int .u8 0), .s (.int .u8 0), .s (.int .u8 0), .s (.int .u8 0), .s (.int .u8 0), .s (.int .u8 0), .s (.int .u8 0), .s (.int .u8 0), .s (.int .u8 0), .s (.int .u8 0), .s (.int .u8 0), .s (.slice none 0 0)]) [], none⟩,
  ⟨some 52, .call (.c (.fn (.func 14) [] [])) [.t 50, .t 51], none⟩,
  ⟨some 53, .mv (.t 52), none⟩,
  ⟨some 54, .call (.c (.fn (.func 16) [] [])) [], some (53, true)⟩,
  ⟨some 55, .pick (.t 53) (.t 54) (.c (.p (.s (.bool false)))), none⟩,
  ⟨some 4, .mv (.t 55), none⟩]
abbrev r4_10 : List CO := [
  ⟨some 57, .load true 36 (.t 9), none⟩,
  ⟨some 58, .call (.c (.fn (.func 9) [] [])) [.t 57], none⟩,
  ⟨some 56, .mv (.t 58), none⟩,
  ⟨some 59, .extract 0 (.t 56), none⟩,
  ⟨some 60, .extract 1 (.t 56), none⟩,
  ⟨some 11, .mv (.t 59), none⟩,
  ⟨some 12, .mv (.t 60), none⟩]
abbrev r4_11 : List CO := [
  ⟨some 61, .mv (.t 12), none⟩,
  ⟨some 62, .bin .neq (.t 61) (.c (.p (.s (.int .i64 0)))), none⟩,
  ⟨some 63, .mv (.t 62), none⟩,
  ⟨some 64, .mv (.t 11), some (63, false)⟩,
  ⟨some 65, .len (.t 64), some (63, false)⟩,
  ⟨some 66, .mv (.t 1), some (63, false)⟩,
  ⟨some 67, .len (.t 66), some (63, false)⟩,
  ⟨some 68, .bin .gtr (.t 65) (.t 67), some (63, false)⟩,
  ⟨some 69, .pick (.t 63) (.c (.p (.s (.bool true)))) (.t 68), none⟩,
  ⟨some 70, .mv (.t 69), none⟩,
  ⟨some 71, .mv (.t 11), some (70, false)⟩,
  ⟨some 72, .mv (.t 1), some (70, false)⟩,
  ⟨some 73, .mv (.t 11), some (70, false)⟩,
  ⟨some 74, .len (.t 73), some (70, false)⟩,
  ⟨some 75, .slice 1 (.t 72) none (some (.t 74)), some (70, false)⟩,
  ⟨some 76, .call (.c (.fn (.func 17) [] [])) [.t 71, .t 75], some (70, false)⟩,
  ⟨some 77, .un .not (.t 76), some (70, false)⟩,
  ⟨some 78, .pick (.t 70) (.c (.p (.s (.bool true)))) (.t 77), none⟩,
  ⟨some 79, .mv (.t 78), none⟩,
  ⟨some 80, .mv (.t 11), some (79, false)⟩,
  ⟨some 81, .len (.t 80), some (79, false)⟩,
  ⟨some 82, .mv (.t 1), some (79, false)⟩,
  ⟨some 83, .len (.t 82), some (79, false)⟩,
  ⟨some 84, .bin .lss (.t 81) (.t 83), some (79, false)⟩,
  ⟨some 85, .mv (.t 84), some (79, false)⟩,
  ⟨some 86, .faddr 0 (.t 9), some (85, true)⟩,
  ⟨some 87, .load false 1 (.t 86), some (85, true)⟩,
  ⟨some 88, .bin .neq (.t 87) (.c (.p (.s (.int .i64 2)))), some (85, true)⟩,
  ⟨some 89, .pick (.t 85) (.t 88) (.c (.p (.s (.bool false)))), some (79, false)⟩,
  ⟨some 90, .pick (.t 79) (.c (.p (.s (.bool true)))) (.t 89), none⟩]
abbrev r4_12 : List CO := [
  ⟨some 4, .mv (.c (.p (.s (.bool false)))), none⟩]
abbrev r4_13 : List CO := [
  ⟨some 91, .mv (.t 11), none⟩,
  ⟨some 92, .len (.t 91), none⟩,
  ⟨some 13, .mv (.t 92), none⟩]
abbrev r4_14 : List CO := [
  ⟨some 93, .mv (.t 13), none⟩,
  ⟨some 94, .mv (.t 1), none⟩,
  ⟨some 95, .len (.t 94), none⟩,
  ⟨some 96, .bin .lss (.t 93) (.t 95), none⟩]
abbrev r4_16 : List CO := [
  ⟨some 99, .mv (.t 1), none⟩,
  ⟨some 100, .mv (.t 13), none⟩,
  ⟨some 101, .iaddrS 1 (.t 99) (.t 100), none⟩,
  ⟨some 102, .load false 1 (.t 101), none⟩,
  ⟨some 103, .bin .neq (.t 102) (.c (.p (.s (.int .u8 0)))), none⟩]
abbrev r4_17 : List CO := [
  ⟨some 4, .mv (.c (.p (.s (.bool false)))), none⟩]
abbrev k4_1 : CC := .seq (.reg r4_16) (.rest [1, 13, 103] (.cond (.t 103) (.seq (.reg r4_17) (.ret)) (.skip)))
abbrev r4_15 : List CO := [
  ⟨some 97, .mv (.t 13), none⟩,
  ⟨some 98, .bin .add (.t 97) (.c (.p (.s (.int .i64 1)))), none⟩,
  ⟨some 13, .mv (.t 98), none⟩]
abbrev l4_19 : CC := .seq (.seq (.reg r4_14) (.rest [1, 13, 96] (.cond (.t 96) (.skip) (.exit 0)))) (.rest [1, 13] (.seq (.block 1 k4_1) (.rest [1, 13] (.reg r4_15))))
abbrev k4_0 : CC := .loop l4_19
abbrev r4_18 : List CO := [
  ⟨some 104, .call (.c (.fn (.func 16) [] [])) [], none⟩,
  ⟨some 4, .mv (.t 104), none⟩]
abbrev c4 : CC := .seq (.reg r4_0) (.seq (.reg r4_1) (.rest [1, 2] (.seq (.reg r4_2) (.rest [1, 2, 5, 6] (.seq (.seq (.reg r4_3) (.cond (.t 24) (.seq (.reg r4_4) (.rest [1, 2, 5, 7, 8] (.seq (.reg r4_5) (.rest [1, 42] (.cond (.t 42) (.seq (.reg r4_6) (.ret)) (.skip)))))) (.skip))) (.rest [1] (.seq (.reg r4_7) (.rest [1, 9, 10] (.seq (.seq (.reg r4_8) (.cond (.t 49) (.seq (.reg r4_9) (.rest [4] (.ret))) (.skip))) (.rest [1, 9] (.seq (.reg r4_10) (.rest [1, 9, 11, 12] (.seq (.seq (.reg r4_11) (.rest [1, 11, 90] (.cond (.t 90) (.seq (.reg r4_12) (.ret)) (.skip)))) (.rest [1, 11] (.seq (.seq (.reg r4_13) (.block 0 k4_0)) (.rest [] (.seq (.reg r4_18) (.ret))))))))))))))))))
theorem F4 : Fun Tryd.prog 4 105 c4 [.tmp 4] 2 := ⟨⟨Tryd.f4, _, Tryd.func4, rfl, by kernel_rfl, Tryd.ntmps4, by kernel_rfl, by kernel_rfl⟩, by decide⟩

/-- linnet/linnetlaw11.SuboptParts -/
abbrev r5_0 : List CO := [
  ⟨some 4, .box (.t 1), none⟩,
  ⟨some 6, .mv (.c (.p (.s (.bool false)))), none⟩]
abbrev r5_1 : List CO := [
  ⟨some 15, .mv (.t 0), none⟩,
  ⟨some 16, .len (.t 15), none⟩,
  ⟨some 17, .bin .gtr (.t 16) (.c (.p (.s (.int .i64 170)))), none⟩]
abbrev r5_2 : List CO := [
  ⟨some 18, .mv (.t 0), none⟩,
  ⟨some 19, .slice 6 (.t 18) none (some (.c (.p (.s (.int .i64 170))))), none⟩,
  ⟨some 0, .mv (.t 19), none⟩]
abbrev r5_3 : List CO := [
  ⟨some 21, .mv (.t 2), none⟩,
  ⟨some 22, .toInt .i64 (.t 21), none⟩,
  ⟨some 23, .build ([.s (.int .i64 0), .s (.int .i64 0), .s (.int .i64 0), .s (.int .u8 0), .s (.int .u8 0), .s (.int .u8 0), .s (.int .u8 0), .s (.int .u8 0), .s (.int .u8 0), .s (.int .u8 0), .s (.int .u8 0), .s (.int .u8 0), .s (.int .u8 0), .s (.int .u8 0), .s (.int .u8 0), .s (.int .u8 0), .s (.int .u8 0), .s (.int .u8 0), .s (.int .u8 0), .s (.int .u8 0), .s (.int .u8 0), .s (.int .u8 0), .s (.int .u8 0), .s (.int .u8 0), .s (.int .u8 0), .s (.int .u8 0), .s (.int .u8 0), .s (.int .u8 0), .s (.int .u8 0), .s (.int .u8 0), .s (.int .u8 0), .s (.int .u8 0), .s (.int .u8 0), .s (.int .u8 0), .s (.int .u8 0), .s (.slice none 0 0)]) [(0, 1, .c (.p (.s (.int .i64 1)))), (1, 1, .t 22)], none⟩,
  ⟨some 24, .call (.c (.fn (.func 9) [] [])) [.t 23], none⟩,
  ⟨some 20, .mv (.t 24), none⟩,
  ⟨some 25, .extract 0 (.t 20), none⟩,
  ⟨some 26, .extract 1 (.t 20), none⟩,
  ⟨some 7, .mv (.t 25), none⟩,
  ⟨some 8, .mv (.t 26), none⟩]
abbrev r5_4 : List CO := [
  ⟨some 28, .load true 32 (.t 4), none⟩,
  ⟨some 29, .build ([.s (.int .i64 0), .s (.int .i64 0), .s (.int .i64 0), .s (.int .u8 0), .s (.int .u8 0), .s (.int .u8 0), .s (.int .u8 0), .s (.int .u8 0), .s (.int .u8 0), .s (.int .u8 0), .s (.int .u8 0), .s (.int .u8 0), .s (.int .u8 0), .s (.int .u8 0), .s (.int .u8 0), .s (.int .u8 0), .s (.int .u8 0), .s (.int .u8 0), .s (.int .u8 0), .s (.int .u8 0), .s (.int .u8 0), .s (.int .u8 0), .s (.int .u8 0), .s (.int .u8 0), .s (.int .u8 0), .s (.int .u8 0), .s (.int .u8 0), .s (.int .u8 0), .s (.int .u8 0), .s (.int .u8 0), .s (.int .u8 0), .s (.int .u8 0), .s (.int .u8 0), .s (.int .u8 0), .s (.int .u8 0), .s (.slice none 0 0)]) [(0, 1, .c (.p (.s (.int .i64 2)))), (2, 1, .c (.p (.s (.int .i64 253)))), (3, 32, .t 28)], none⟩,
  ⟨some 30, .call (.c (.fn (.func 9) [] [])) [.t 29], none⟩,
  ⟨some 27, .mv (.t 30), none⟩,
  ⟨some 31, .extract 0 (.t 27), none⟩,
  ⟨some 32, .extract 1 (.t 27), none⟩,
  ⟨some 9, .mv (.t 31), none⟩,
  ⟨some 10, .mv (.t 32), none⟩]
abbrev r5_5 : List CO := [
  ⟨some 34, .mv (.t 0), none⟩,
  ⟨some 35, .build ([.s (.int .i64 0), .s (.int .i64 0), .s (.int .i64 0), .s (.int .u8 0), .s (.int .u8 0), .s (.int .u8 0), .s (.int .u8 0), .s (.int .u8 0), .s (.int .u8 0), .s (.int .u8 0), .s (.int .u8 0), .s (.int .u8 0), .s (.int .u8 0), .s (.int .u8 0), .s (.int .u8 0), .s (.int .u8 0), .s (.int .u8 0), .s (.int .u8 0), .s (.int .u8 0), .s (.int .u8 0), .s (.int .u8 0), .s (.int .u8 0), .s (.int .u8 0), .s (.int .u8 0), .s (.int .u8 0), .s (.int .u8 0), .s (.int .u8 0), .s (.int .u8 0), .s (.int .u8 0), .s (.int .u8 0), .s (.int .u8 0), .s (.int .u8 0), .s (.int .u8 0), .s (.int .u8 0), .s (.int .u8 0), .s (.slice none 0 0)]) [(0, 1, .c (.p (.s (.int .i64 3)))), (35, 1, .t 34)], none⟩,
  ⟨some 36, .call (.c (.fn (.func 9) [] [])) [.t 35], none⟩,
  ⟨some 33, .mv (.t 36), none⟩,
  ⟨some 37, .extract 0 (.t 33), none⟩,
  ⟨some 38, .extract 1 (.t 33), none⟩,
  ⟨some 11, .mv (.t 37), none⟩,
  ⟨some 12, .mv (.t 38), none⟩]
abbrev r5_6 : List CO := [
  ⟨some 40, .mv (.t 0), none⟩,
  ⟨some 41, .call (.c (.fn (.func 19) [] [])) [.t 40], none⟩,
  ⟨some 39, .mv (.t 41), none⟩,
  ⟨some 42, .extract 0 (.t 39), none⟩,
  ⟨some 43, .extract 1 (.t 39), none⟩,
  ⟨some 13, .mv (.t 42), none⟩,
  ⟨some 14, .mv (.t 43), none⟩]
abbrev r5_7 : List CO := [
  ⟨some 44, .mv (.t 8), none⟩,
  ⟨some 45, .bin .eql (.t 44) (.c (.p (.s (.int .i64 0)))), none⟩,
  ⟨some 46, .mv (.t 2), none⟩,
  ⟨some 47, .bin .leq (.t 46) (.c (.p (.s (.int .u8 31)))), none⟩,
  ⟨some 48, .beq true (.t 45) (.t 47), none⟩,
  ⟨some 49, .mv (.t 48), none⟩,
  ⟨some 50, .mv (.t 8), some (49, false)⟩,
  ⟨some 51, .bin .eql (.t 50) (.c (.p (.s (.int .i64 0)))), some (49, false)⟩,
  ⟨some 52, .mv (.t 51), some (49, false)⟩,
  ⟨some 53, .mv (.t 7), some (52, true)⟩,
  ⟨some 54, .toStr (.t 53), some (52, true)⟩,
  ⟨some 55, .mv (.t 2), some (52, true)⟩,
  ⟨some 56, .bslice 1 2 ([.s (.int .u8 0)]) [(0, .c (.p (.s (.int .u8 1)))), (1, .t 55)], some (52, true)⟩,
  ⟨some 57, .toStr (.t 56), some (52, true)⟩,
  ⟨some 58, .bin .neq (.t 54) (.t 57), some (52, true)⟩,
  ⟨some 59, .pick (.t 52) (.t 58) (.c (.p (.s (.bool false)))), some (49, false)⟩,
  ⟨some 60, .pick (.t 49) (.c (.p (.s (.bool true)))) (.t 59), none⟩]
abbrev r5_8 : List CO := [
  ⟨some 6, .mv (.c (.p (.s (.bool false)))), none⟩]
abbrev r5_9 : List CO := [
  ⟨some 61, .mv (.t 10), none⟩,
  ⟨some 62, .bin .neq (.t 61) (.c (.p (.s (.int .i64 0)))), none⟩,
  ⟨some 63, .mv (.t 62), none⟩,
  ⟨some 64, .mv (.t 9), some (63, false)⟩,
  ⟨some 65, .bslice 1 2 ([.s (.int .u8 0)]) [(0, .c (.p (.s (.int .u8 253)))), (1, .c (.p (.s (.int .u8 2))))], some (63, false)⟩,
  ⟨some 66, .load true 32 (.t 4), some (63, false)⟩,
  ⟨some 67, .call (.c (.fn (.func 20) [] [])) [.t 66], some (63, false)⟩,
  ⟨some 68, .append 1 1 ([.s (.int .u8 0)]) (.t 65) (.t 67), some (63, false)⟩,
  ⟨some 69, .call (.c (.fn (.func 17) [] [])) [.t 64, .t 68], some (63, false)⟩,
  ⟨some 70, .un .not (.t 69), some (63, false)⟩,
  ⟨some 71, .pick (.t 63) (.c (.p (.s (.bool true)))) (.t 70), none⟩,
  ⟨some 72, .mv (.t 71), none⟩,
  ⟨some 73, .mv (.t 12), some (72, false)⟩,
  ⟨some 74, .bin .eql (.t 73) (.c (.p (.s (.int .i64 0)))), some (72, false)⟩,
  ⟨some 75, .mv (.t 14), some (72, false)⟩,
  ⟨some 76, .bin .eql (.t 75) (.c (.p (.s (.int .i64 0)))), some (72, false)⟩,
  ⟨some 77, .beq true (.t 74) (.t 76), some (72, false)⟩,
  ⟨some 78, .pick (.t 72) (.c (.p (.s (.bool true)))) (.t 77), none⟩]
abbrev r5_10 : List CO := [
  ⟨some 6, .mv (.c (.p (.s (.bool false)))), none⟩]
abbrev r5_11 : List CO := [
  ⟨some 79, .mv (.t 12), none⟩,
  ⟨some 80, .bin .neq (.t 79) (.c (.p (.s (.int .i64 0)))), none⟩,
  ⟨some 81, .mv (.t 80), none⟩,
  ⟨some 82, .mv (.t 11), some (81, false)⟩,
  ⟨some 83, .bslice 1 1 ([.s (.int .u8 0)]) [(0, .c (.p (.s (.int .u8 3))))], some (81, false)⟩,
  ⟨some 84, .mv (.t 13), some (81, false)⟩,
  ⟨some 85, .append 1 1 ([.s (.int .u8 0)]) (.t 83) (.t 84), some (81, false)⟩,
  ⟨some 86, .call (.c (.fn (.func 17) [] [])) [.t 82, .t 85], some (81, false)⟩,
  ⟨some 87, .pick (.t 81) (.c (.p (.s (.bool true)))) (.t 86), none⟩,
  ⟨some 88, .mv (.t 87), none⟩,
  ⟨some 89, .call (.c (.fn (.func 16) [] [])) [], some (88, true)⟩,
  ⟨some 90, .pick (.t 88) (.t 89) (.c (.p (.s (.bool false)))), none⟩,
  ⟨some 6, .mv (.t 90), none⟩]
abbrev c5 : CC := .seq (.reg r5_0) (.seq (.seq (.reg r5_1) (.cond (.t 17) (.reg r5_2) (.skip))) (.rest [0, 2, 4] (.seq (.reg r5_3) (.rest [0, 2, 4, 7, 8] (.seq (.reg r5_4) (.rest [0, 2, 4, 7, 8, 9, 10] (.seq (.reg r5_5) (.rest [0, 2, 4, 7, 8, 9, 10, 11, 12] (.seq (.reg r5_6) (.rest [2, 4, 7, 8, 9, 10, 11, 12, 13, 14] (.seq (.seq (.reg r5_7) (.rest [4, 9, 10, 11, 12, 13, 14, 60] (.cond (.t 60) (.seq (.reg r5_8) (.ret)) (.skip)))) (.rest [4, 9, 10, 11, 12, 13, 14] (.seq (.seq (.reg r5_9) (.rest [11, 12, 13, 78] (.cond (.t 78) (.seq (.reg r5_10) (.ret)) (.skip)))) (.rest [11, 12, 13] (.seq (.reg r5_11) (.rest [6] (.ret)))))))))))))))))
theorem F5 : Fun Tryd.prog 5 91 c5 [.tmp 6] 3 := ⟨⟨Tryd.f5, _, Tryd.func5, rfl, by kernel_rfl, Tryd.ntmps5, by kernel_rfl, by kernel_rfl⟩, by decide⟩

/-- linnet/linnetlaw11.SuboptAck -/
abbrev r6_0 : List CO := [
  ⟨some 2, .mv (.c (.p (.s (.bool false)))), none⟩]
abbrev r6_1 : List CO := [
  ⟨some 10, .mv (.t 0), none⟩,
  ⟨some 11, .toInt .i64 (.t 10), none⟩,
  ⟨some 12, .bin .and (.t 11) (.c (.p (.s (.int .i64 27)))), none⟩,
  ⟨some 3, .mv (.t 12), none⟩]
abbrev r6_2 : List CO := [
  ⟨some 14, .mv (.t 3), none⟩,
  ⟨some 15, .build ([.s (.int .i64 0), .s (.int .i64 0), .s (.int .i64 0), .s (.int .u8 0), .s (.int .u8 0), .s (.int .u8 0), .s (.int .u8 0), .s (.int .u8 0), .s (.int .u8 0), .s (.int .u8 0), .s (.int .u8 0), .s (.int .u8 0), .s (.int .u8 0), .s (.int .u8 0), .s (.int .u8 0), .s (.int .u8 0), .s (.int .u8 0), .s (.int .u8 0), .s (.int .u8 0), .s (.int .u8 0), .s (.int .u8 0), .s (.int .u8 0), .s (.int .u8 0), .s (.int .u8 0), .s (.int .u8 0), .s (.int .u8 0), .s (.int .u8 0), .s (.int .u8 0), .s (.int .u8 0), .s (.int .u8 0), .s (.int .u8 0), .s (.int .u8 0), .s (.int .u8 0), .s (.int .u8 0), .s (.int .u8 0), .s (.slice none 0 0)]) [(0, 1, .c (.p (.s (.int .i64 1)))), (1, 1, .t 14)], none⟩,
  ⟨some 16, .call (.c (.fn (.func 9) [] [])) [.t 15], none⟩,
  ⟨some 13, .mv (.t 16), none⟩,
  ⟨some 17, .extract 0 (.t 13), none⟩,
  ⟨some 18, .extract 1 (.t 13), none⟩,
  ⟨some 4, .mv (.t 17), none⟩,
  ⟨some 5, .mv (.t 18), none⟩]
abbrev r6_3 : List CO := [
  ⟨some 20, .mv (.t 3), none⟩,
  ⟨some 21, .bin .or (.t 20) (.c (.p (.s (.int .i64 4)))), none⟩,
  ⟨some 22, .build ([.s (.int .i64 0), .s (.int .i64 0), .s (.int .i64 0), .s (.int .u8 0), .s (.int .u8 0), .s (.int .u8 0), .s (.int .u8 0), .s (.int .u8 0), .s (.int .u8 0), .s (.int .u8 0), .s (.int .u8 0), .s (.int .u8 0), .s (.int .u8 0), .s (.int .u8 0), .s (.int .u8 0), .s (.int .u8 0), .s (.int .u8 0), .s (.int .u8 0), .s (.int .u8 0), .s (.int .u8 0), .s (.int .u8 0), .s (.int .u8 0), .s (.int .u8 0), .s (.int .u8 0), .s (.int .u8 0), .s (.int .u8 0), .s (.int .u8 0), .s (.int .u8 0), .s (.int .u8 0), .s (.int .u8 0), .s (.int .u8 0), .s (.int .u8 0), .s (.int .u8 0), .s (.int .u8 0), .s (.int .u8 0), .s (.slice none 0 0)]) [(0, 1, .c (.p (.s (.int .i64 1)))), (1, 1, .t 21)], none⟩,
  ⟨some 23, .call (.c (.fn (.func 9) [] [])) [.t 22], none⟩,
  ⟨some 19, .mv (.t 23), none⟩,
  ⟨some 24, .extract 0 (.t 19), none⟩,
  ⟨some 25, .extract 1 (.t 19), none⟩,
  ⟨some 6, .mv (.t 24), none⟩,
  ⟨some 7, .mv (.t 25), none⟩]
abbrev r6_4 : List CO := [
  ⟨some 27, .mv (.t 0), none⟩,
  ⟨some 28, .bslice 1 2 ([.s (.int .u8 0)]) [(0, .c (.p (.s (.int .u8 1)))), (1, .t 27)], none⟩,
  ⟨some 29, .call (.c (.fn (.func 10) [] [])) [.t 28], none⟩,
  ⟨some 26, .mv (.t 29), none⟩,
  ⟨some 30, .extract 0 (.t 26), none⟩,
  ⟨some 31, .extract 1 (.t 26), none⟩,
  ⟨some 8, .alloc ([.s (.int .i64 0), .s (.int .i64 0), .s (.int .i64 0), .s (.int .u8 0), .s (.int .u8 0), .s (.int .u8 0), .s (.int .u8 0), .s (.int .u8 0), .s (.int .u8 0), .s (.int .u8 0), .s (.int .u8 0), .s (.int .u8 0), .s (.int .u8 0), .s (.int .u8 0), .s (.int .u8 0), .s (.int .u8 0), .s (.int .u8 0), .s (.int .u8 0), .s (.int .u8 0), .s (.int .u8 0), .s (.int .u8 0), .s (.int .u8 0), .s (.int .u8 0), .s (.int .u8 0), .s (.int .u8 0), .s (.int .u8 0), .s (.int .u8 0), .s (.int .u8 0), .s (.int .u8 0), .s (.int .u8 0), .s (.int .u8 0), .s (.int .u8 0), .s (.int .u8 0), .s (.int .u8 0), .s (.int .u8 0), .s (.slice none 0 0)]), none⟩,
  ⟨none, .store 36 (.t 8) (.t 30), none⟩,
  ⟨some 9, .mv (.t 31), none⟩]
abbrev r6_5 : List CO := [
  ⟨some 32, .mv (.t 5), none⟩,
  ⟨some 33, .bin .neq (.t 32) (.c (.p (.s (.int .i64 0)))), none⟩,
  ⟨some 34, .mv (.t 33), none⟩,
  ⟨some 35, .mv (.t 7), some (34, false)⟩,
  ⟨some 36, .bin .neq (.t 35) (.c (.p (.s (.int .i64 0)))), some (34, false)⟩,
  ⟨some 37, .pick (.t 34) (.c (.p (.s (.bool true)))) (.t 36), none⟩,
  ⟨some 38, .mv (.t 37), none⟩,
  ⟨some 39, .mv (.t 4), some (38, false)⟩,
  ⟨some 40, .len (.t 39), some (38, false)⟩,
  ⟨some 41, .bin .neq (.t 40) (.c (.p (.s (.int .i64 2)))), some (38, false)⟩,
  ⟨some 42, .pick (.t 38) (.c (.p (.s (.bool true)))) (.t 41), none⟩,
  ⟨some 43, .mv (.t 42), none⟩,
  ⟨some 44, .mv (.t 6), some (43, false)⟩,
  ⟨some 45, .len (.t 44), some (43, false)⟩,
  ⟨some 46, .bin .neq (.t 45) (.c (.p (.s (.int .i64 2)))), some (43, false)⟩,
  ⟨some 47, .pick (.t 43) (.c (.p (.s (.bool true)))) (.t 46), none⟩,
  ⟨some 48, .mv (.t 47), none⟩,
  ⟨some 49, .mv (.t 4), some (48, false)⟩,
  ⟨some 50, .iaddrS 1 (.t 49) (.c (.p (.s (.int .i64 0)))), some (48, false)⟩,
  ⟨some 51, .load false 1 (.t 50), some (48, false)⟩,
  ⟨some 52, .mv (.t 6), some (48, false)⟩,
  ⟨some 53, .iaddrS 1 (.t 52) (.c (.p (.s (.int .i64 0)))), some (48, false)⟩,
  ⟨some 54, .load false 1 (.t 53), some (48, false)⟩,
  ⟨some 55, .bin .neq (.t 51) (.t 54), some (48, false)⟩,
  ⟨some 56, .pick (.t 48) (.c (.p (.s (.bool true)))) (.t 55), none⟩,
  ⟨some 57, .mv (.t 56), none⟩,
  ⟨some 58, .mv (.t 4), some (57, false)⟩,
  ⟨some 59, .iaddrS 1 (.t 58) (.c (.p (.s (.int .i64 1)))), some (57, false)⟩,
  ⟨some 60, .load false 1 (.t 59), some (57, false)⟩,
  ⟨some 61, .mv (.t 6), some (57, false)⟩,
  ⟨some 62, .iaddrS 1 (.t 61) (.c (.p (.s (.int .i64 1)))), some (57, false)⟩,
  ⟨some 63, .load false 1 (.t 62), some (57, false)⟩,
  ⟨some 64, .bin .xor (.t 60) (.t 63), some (57, false)⟩,
  ⟨some 65, .bin .neq (.t 64) (.c (.p (.s (.int .u8 4)))), some (57, false)⟩,
  ⟨some 66, .pick (.t 57) (.c (.p (.s (.bool true)))) (.t 65), none⟩]
abbrev b6_5 : List (List Nat) := [[], [0], [1], [2], [3, 2], [2, 4], [5, 2], [6], [7, 6], [8, 6], [6, 9], [10, 6], [11], [12, 11], [13, 11], [11, 14], [15, 11], [16], [17, 16], [18, 16], [16], [20, 16], [21, 16], [19, 22, 16], [16, 23], [24, 16], [25], [26, 25], [27, 25], [25], [29, 25], [30, 25], [28, 31, 25], [32, 25], [25, 33]]
abbrev r6_6 : List CO := [
  ⟨some 2, .mv (.c (.p (.s (.bool false)))), none⟩]
abbrev r6_7 : List CO := [
  ⟨some 67, .mv (.t 9), none⟩,
  ⟨some 68, .bin .eql (.t 67) (.c (.p (.s (.int .i64 0)))), none⟩,
  ⟨some 69, .mv (.t 0), none⟩,
  ⟨some 70, .bin .leq (.t 69) (.c (.p (.s (.int .u8 31)))), none⟩,
  ⟨some 71, .beq false (.t 68) (.t 70), none⟩,
  ⟨some 72, .mv (.t 71), none⟩,
  ⟨some 73, .mv (.t 9), some (72, true)⟩,
  ⟨some 74, .bin .neq (.t 73) (.c (.p (.s (.int .i64 0)))), some (72, true)⟩,
  ⟨some 75, .mv (.t 74), some (72, true)⟩,
  ⟨some 76, .faddr 1 (.t 8), some (75, false)⟩,
  ⟨some 77, .load false 1 (.t 76), some (75, false)⟩,
  ⟨some 78, .mv (.t 0), some (75, false)⟩,
  ⟨some 79, .toInt .i64 (.t 78), some (75, false)⟩,
  ⟨some 80, .bin .eql (.t 77) (.t 79), some (75, false)⟩,
  ⟨some 81, .pick (.t 75) (.c (.p (.s (.bool true)))) (.t 80), some (72, true)⟩,
  ⟨some 82, .pick (.t 72) (.t 81) (.c (.p (.s (.bool false)))), none⟩,
  ⟨some 83, .mv (.t 82), none⟩,
  ⟨some 84, .call (.c (.fn (.func 16) [] [])) [], some (83, true)⟩,
  ⟨some 85, .pick (.t 83) (.t 84) (.c (.p (.s (.bool false)))), none⟩,
  ⟨some 2, .mv (.t 85), none⟩]
abbrev c6 : CC := .seq (.reg r6_0) (.seq (.reg r6_1) (.rest [0, 3] (.seq (.reg r6_2) (.rest [0, 3, 4, 5] (.seq (.reg r6_3) (.rest [0, 4, 5, 6, 7] (.seq (.reg r6_4) (.rest [0, 4, 5, 6, 7, 8, 9] (.seq (.seq (.regd r6_5 b6_5) (.rest [0, 8, 9, 66] (.cond (.t 66) (.seq (.reg r6_6) (.ret)) (.skip)))) (.rest [0, 8, 9] (.seq (.reg r6_7) (.rest [2] (.ret)))))))))))))
theorem F6 : Fun Tryd.prog 6 86 c6 [.tmp 2] 1 := ⟨⟨Tryd.f6, _, Tryd.func6, rfl, by kernel_rfl, Tryd.ntmps6, by kernel_rfl, by kernel_rfl⟩, by decide⟩

/-- linnet/linnetlaw11.One -/
abbrev r7_0 : List CO := [
  ⟨some 1, .box (.t 0), none⟩,
  ⟨some 2, .alloc ([.s (.int .i64 0), .s (.int .i64 0), .s (.int .i64 0), .s (.int .u8 0), .s (.int .u8 0), .s (.int .u8 0), .s (.int .u8 0), .s (.int .u8 0), .s (.int .u8 0), .s (.int .u8 0), .s (.int .u8 0), .s (.int .u8 0), .s (.int .u8 0), .s (.int .u8 0), .s (.int .u8 0), .s (.int .u8 0), .s (.int .u8 0), .s (.int .u8 0), .s (.int .u8 0), .s (.int .u8 0), .s (.int .u8 0), .s (.int .u8 0), .s (.int .u8 0), .s (.int .u8 0), .s (.int .u8 0), .s (.int .u8 0), .s (.int .u8 0), .s (.int .u8 0), .s (.int .u8 0), .s (.int .u8 0), .s (.int .u8 0), .s (.int .u8 0), .s (.int .u8 0), .s (.int .u8 0), .s (.int .u8 0), .s (.slice none 0 0)]), none⟩]
abbrev r7_1 : List CO := [
  ⟨some 3, .faddr 35 (.t 1), none⟩,
  ⟨some 4, .load false 1 (.t 3), none⟩,
  ⟨some 5, .len (.t 4), none⟩,
  ⟨some 6, .bin .gtr (.t 5) (.c (.p (.s (.int .i64 180)))), none⟩]
abbrev r7_2 : List CO := [
  ⟨some 7, .faddr 35 (.t 1), none⟩,
  ⟨some 8, .load false 1 (.t 7), none⟩,
  ⟨some 9, .slice 6 (.t 8) none (some (.c (.p (.s (.int .i64 180))))), none⟩,
  ⟨some 10, .faddr 35 (.t 1), none⟩,
  ⟨none, .store 1 (.t 10) (.t 9), none⟩]
abbrev r7_3 : List CO := [
  ⟨some 11, .load true 36 (.t 1), none⟩,
  ⟨none, .store 36 (.t 2) (.t 11), none⟩]
abbrev c7 : CC := .seq (.reg r7_0) (.seq (.seq (.reg r7_1) (.rest [1, 2, 6] (.cond (.t 6) (.reg r7_2) (.skip)))) (.rest [1, 2] (.seq (.reg r7_3) (.ret))))
theorem F7 : Fun Tryd.prog 7 12 c7 [.cell 2 true 36] 1 := ⟨⟨Tryd.f7, _, Tryd.func7, rfl, by kernel_rfl, Tryd.ntmps7, by kernel_rfl, by kernel_rfl⟩, by decide⟩

/-- linnet/linnetlaw11.few -/
abbrev r8_0 : List CO := [
  ⟨some 2, .mv (.c (.p (.s (.slice none 0 0)))), none⟩]
abbrev r8_1 : List CO := [
  ⟨some 3, .mv (.t 0), none⟩,
  ⟨some 4, .len (.t 3), none⟩,
  ⟨some 5, .bin .gtr (.t 4) (.c (.p (.s (.int .i64 600)))), none⟩]
abbrev r8_2 : List CO := [
  ⟨some 6, .mv (.t 0), none⟩,
  ⟨some 7, .slice 1 (.t 6) none (some (.c (.p (.s (.int .i64 600))))), none⟩,
  ⟨some 2, .mv (.t 7), none⟩]
abbrev r8_3 : List CO := [
  ⟨some 8, .mv (.t 0), none⟩,
  ⟨some 2, .mv (.t 8), none⟩]
abbrev c8 : CC := .seq (.reg r8_0) (.seq (.seq (.reg r8_1) (.cond (.t 5) (.seq (.reg r8_2) (.ret)) (.skip))) (.rest [0] (.seq (.reg r8_3) (.ret))))
theorem F8 : Fun Tryd.prog 8 9 c8 [.tmp 2] 1 := ⟨⟨Tryd.f8, _, Tryd.func8, rfl, by kernel_rfl, Tryd.ntmps8, by kernel_rfl, by kernel_rfl⟩, by decide⟩

/-- linnet/subopt.Put -/
abbrev r9_0 : List CO := [
  ⟨some 1, .box (.t 0), none⟩,
  ⟨some 2, .mv (.c (.p (.s (.slice none 0 0)))), none⟩,
  ⟨some 3, .mv (.c (.p (.s (.int .i64 0)))), none⟩]
abbrev r9_1 : List CO := [
  ⟨some 7, .load true 36 (.t 1), none⟩,
  ⟨some 8, .call (.c (.fn (.func 12) [] [])) [.t 7], none⟩,
  ⟨some 4, .mv (.t 8), none⟩]
abbrev r9_2 : List CO := [
  ⟨some 9, .mv (.t 4), none⟩,
  ⟨some 10, .bin .neq (.t 9) (.c (.p (.s (.int .i64 0)))), none⟩]
abbrev r9_3 : List CO := [
  ⟨some 11, .mv (.t 4), none⟩,
  ⟨some 2, .mv (.c (.p (.s (.slice none 0 0)))), none⟩,
  ⟨some 3, .mv (.t 11), none⟩]
abbrev r9_4 : List CO := [
  ⟨some 12, .faddr 0 (.t 1), none⟩,
  ⟨some 13, .load false 1 (.t 12), none⟩]
abbrev r9_5 : List CO := [
  ⟨some 15, .bin .eql (.t 13) (.c (.p (.s (.int .i64 1)))), none⟩,
  ⟨some 14, .mv (.t 15), none⟩]
abbrev r9_6 : List CO := [
  ⟨some 16, .faddr 1 (.t 1), none⟩,
  ⟨some 17, .load false 1 (.t 16), none⟩,
  ⟨some 18, .toInt .u8 (.t 17), none⟩,
  ⟨some 19, .bslice 1 2 ([.s (.int .u8 0)]) [(0, .c (.p (.s (.int .u8 1)))), (1, .t 18)], none⟩,
  ⟨some 2, .mv (.t 19), none⟩,
  ⟨some 3, .mv (.c (.p (.s (.int .i64 0)))), none⟩]
abbrev r9_7 : List CO := [
  ⟨some 21, .bin .eql (.t 13) (.c (.p (.s (.int .i64 2)))), none⟩,
  ⟨some 20, .mv (.t 21), none⟩]
abbrev r9_8 : List CO := [
  ⟨some 22, .faddr 2 (.t 1), none⟩,
  ⟨some 23, .load false 1 (.t 22), none⟩,
  ⟨some 24, .toInt .u8 (.t 23), none⟩,
  ⟨some 25, .bslice 1 2 ([.s (.int .u8 0)]) [(0, .t 24), (1, .c (.p (.s (.int .u8 2))))], none⟩,
  ⟨some 26, .faddr 3 (.t 1), none⟩,
  ⟨some 27, .load true 32 (.t 26), none⟩,
  ⟨some 28, .call (.c (.fn (.func 20) [] [])) [.t 27], none⟩,
  ⟨some 29, .append 1 1 ([.s (.int .u8 0)]) (.t 25) (.t 28), none⟩,
  ⟨some 2, .mv (.t 29), none⟩,
  ⟨some 3, .mv (.c (.p (.s (.int .i64 0)))), none⟩]
abbrev b9_8 : List (List Nat) := [[], [0], [1], [2], [], [4], [5], [3, 6, 6], [7, 7, 0, 1, 2, 3, 4, 5, 6, 7], [8, 0, 1, 2, 3, 4, 5, 6, 7, 8]]
abbrev k9_0 : CC := .seq (.reg r9_5) (.cond (.t 14) (.seq (.reg r9_6) (.rest [2, 3] (.ret))) (.seq (.reg r9_7) (.cond (.t 20) (.seq (.regd r9_8 b9_8) (.rest [2, 3] (.ret))) (.skip))))
abbrev r9_9 : List CO := [
  ⟨some 31, .faddr 35 (.t 1), none⟩,
  ⟨some 32, .load false 1 (.t 31), none⟩,
  ⟨some 33, .call (.c (.fn (.func 19) [] [])) [.t 32], none⟩,
  ⟨some 30, .mv (.t 33), none⟩,
  ⟨some 34, .extract 0 (.t 30), none⟩,
  ⟨some 35, .extract 1 (.t 30), none⟩,
  ⟨some 5, .mv (.t 34), none⟩,
  ⟨some 6, .mv (.t 35), none⟩]
abbrev r9_10 : List CO := [
  ⟨some 36, .bslice 1 1 ([.s (.int .u8 0)]) [(0, .c (.p (.s (.int .u8 3))))], none⟩,
  ⟨some 37, .mv (.t 5), none⟩,
  ⟨some 38, .append 1 1 ([.s (.int .u8 0)]) (.t 36) (.t 37), none⟩,
  ⟨some 39, .mv (.t 6), none⟩,
  ⟨some 2, .mv (.t 38), none⟩,
  ⟨some 3, .mv (.t 39), none⟩]
abbrev c9 : CC := .seq (.reg r9_0) (.seq (.seq (.reg r9_1) (.seq (.reg r9_2) (.cond (.t 10) (.seq (.reg r9_3) (.ret)) (.skip)))) (.rest [1] (.seq (.seq (.reg r9_4) (.block 0 k9_0)) (.rest [1] (.seq (.reg r9_9) (.rest [5, 6] (.seq (.reg r9_10) (.rest [2, 3] (.ret)))))))))
theorem F9 : Fun Tryd.prog 9 40 c9 [.tmp 2, .tmp 3] 1 := ⟨⟨Tryd.f9, _, Tryd.func9, rfl, by kernel_rfl, Tryd.ntmps9, by kernel_rfl, by kernel_rfl⟩, by decide⟩

/-- linnet/subopt.Get (defers) -/
abbrev r10_0 : List CO := [
  ⟨some 2, .alloc ([.s (.int .i64 0), .s (.int .i64 0), .s (.int .i64 0), .s (.int .u8 0), .s (.int .u8 0), .s (.int .u8 0), .s (.int .u8 0), .s (.int .u8 0), .s (.int .u8 0), .s (.int .u8 0), .s (.int .u8 0), .s (.int .u8 0), .s (.int .u8 0), .s (.int .u8 0), .s (.int .u8 0), .s (.int .u8 0), .s (.int .u8 0), .s (.int .u8 0), .s (.int .u8 0), .s (.int .u8 0), .s (.int .u8 0), .s (.int .u8 0), .s (.int .u8 0), .s (.int .u8 0), .s (.int .u8 0), .s (.int .u8 0), .s (.int .u8 0), .s (.int .u8 0), .s (.int .u8 0), .s (.int .u8 0), .s (.int .u8 0), .s (.int .u8 0), .s (.int .u8 0), .s (.int .u8 0), .s (.int .u8 0), .s (.slice none 0 0)]), none⟩,
  ⟨some 3, .alloc ([.s (.int .i64 0)]), none⟩]
abbrev q10 : List CO := [
  ⟨some 4, .mkfn (.func 21) [] [.t 2, .t 3], none⟩]
abbrev r10_2 : List CO := [
  ⟨some 5, .mv (.t 0), none⟩,
  ⟨some 6, .call (.c (.fn (.func 22) [] [])) [.t 5], none⟩,
  ⟨none, .store 36 (.t 2) (.t 6), none⟩,
  ⟨none, .store 1 (.t 3) (.c (.p (.s (.int .i64 0)))), none⟩]
abbrev ca10 : CC := .reg r10_0
abbrev cb10 : CC := .seq (.reg r10_2) (.rest [2, 3] (.ret))
theorem G10 : GFun Tryd.prog 10 7 ca10 q10 4 cb10 [.cell 2 true 36, .cell 3 false 1] 1 := ⟨⟨Tryd.f10, _, _, _, _, [_], _, Tryd.func10, rfl, by kernel_rfl, Tryd.ntmps10, by kernel_rfl, rfl, by kernel_rfl, rfl, rfl, rfl, by kernel_rfl, by kernel_rfl⟩, by decide, by decide⟩

/-- linnet/linnetref11.Get -/
abbrev r11_0 : List CO := [
  ⟨some 2, .alloc ([.s (.int .i64 0), .s (.int .i64 0), .s (.int .i64 0), .s (.int .u8 0), .s (.int .u8 0), .s (.int .u8 0), .s (.int .u8 0), .s (.int .u8 0), .s (.int .u8 0), .s (.int .u8 0), .s (.int .u8 0), .s (.int .u8 0), .s (.int .u8 0), .s (.int .u8 0), .s (.int .u8 0), .s (.int .u8 0), .s (.int .u8 0), .s (.int .u8 0), .s (.int .u8 0), .s (.int .u8 0), .s (.int .u8 0), .s (.int .u8 0), .s (.int .u8 0), .s (.int .u8 0), .s (.int .u8 0), .s (.int .u8 0), .s (.int .u8 0), .s (.int .u8 0), .s (.int .u8 0), .s (.int .u8 0), .s (.int .u8 0), .s (.int .u8 0), .s (.int .u8 0), .s (.int .u8 0), .s (.int .u8 0), .s (.slice none 0 0)]), none⟩,
  ⟨some 3, .mv (.c (.p (.s (.bool false)))), none⟩]
abbrev r11_1 : List CO := [
  ⟨some 8, .mv (.t 0), none⟩,
  ⟨some 9, .len (.t 8), none⟩,
  ⟨some 10, .bin .eql (.t 9) (.c (.p (.s (.int .i64 2)))), none⟩,
  ⟨some 11, .mv (.t 10), none⟩,
  ⟨some 12, .mv (.t 0), some (11, true)⟩,
  ⟨some 13, .iaddrS 1 (.t 12) (.c (.p (.s (.int .i64 0)))), some (11, true)⟩,
  ⟨some 14, .load false 1 (.t 13), some (11, true)⟩,
  ⟨some 15, .bin .eql (.t 14) (.c (.p (.s (.int .u8 1)))), some (11, true)⟩,
  ⟨some 16, .pick (.t 11) (.t 15) (.c (.p (.s (.bool false)))), none⟩,
  ⟨some 17, .mv (.t 16), none⟩,
  ⟨some 18, .mv (.t 0), some (17, true)⟩,
  ⟨some 19, .iaddrS 1 (.t 18) (.c (.p (.s (.int .i64 1)))), some (17, true)⟩,
  ⟨some 20, .load false 1 (.t 19), some (17, true)⟩,
  ⟨some 21, .bin .leq (.t 20) (.c (.p (.s (.int .u8 31)))), some (17, true)⟩,
  ⟨some 22, .pick (.t 17) (.t 21) (.c (.p (.s (.bool false)))), none⟩]
abbrev r11_2 : List CO := [
  ⟨some 23, .mv (.t 0), none⟩,
  ⟨some 24, .iaddrS 1 (.t 23) (.c (.p (.s (.int .i64 1)))), none⟩,
  ⟨some 25, .load false 1 (.t 24), none⟩,
  ⟨some 26, .toInt .i64 (.t 25), none⟩,
  ⟨some 27, .build ([.s (.int .i64 0), .s (.int .i64 0), .s (.int .i64 0), .s (.int .u8 0), .s (.int .u8 0), .s (.int .u8 0), .s (.int .u8 0), .s (.int .u8 0), .s (.int .u8 0), .s (.int .u8 0), .s (.int .u8 0), .s (.int .u8 0), .s (.int .u8 0), .s (.int .u8 0), .s (.int .u8 0), .s (.int .u8 0), .s (.int .u8 0), .s (.int .u8 0), .s (.int .u8 0), .s (.int .u8 0), .s (.int .u8 0), .s (.int .u8 0), .s (.int .u8 0), .s (.int .u8 0), .s (.int .u8 0), .s (.int .u8 0), .s (.int .u8 0), .s (.int .u8 0), .s (.int .u8 0), .s (.int .u8 0), .s (.int .u8 0), .s (.int .u8 0), .s (.int .u8 0), .s (.int .u8 0), .s (.int .u8 0), .s (.slice none 0 0)]) [(0, 1, .c (.p (.s (.int .i64 1)))), (1, 1, .t 26)], none⟩,
  ⟨none, .store 36 (.t 2) (.t 27), none⟩,
  ⟨some 3, .mv (.c (.p (.s (.bool true)))), none⟩]
abbrev r11_3 : List CO := [
  ⟨some 28, .mv (.t 0), none⟩,
  ⟨some 29, .len (.t 28), none⟩,
  ⟨some 30, .bin .eql (.t 29) (.c (.p (.s (.int .i64 2)))), none⟩,
  ⟨some 31, .mv (.t 30), none⟩,
  ⟨some 32, .mv (.t 0), some (31, true)⟩,
  ⟨some 33, .iaddrS 1 (.t 32) (.c (.p (.s (.int .i64 0)))), some (31, true)⟩,
  ⟨some 34, .load false 1 (.t 33), some (31, true)⟩,
  ⟨some 35, .bin .eql (.t 34) (.c (.p (.s (.int .u8 251)))), some (31, true)⟩,
  ⟨some 36, .mv (.t 35), some (31, true)⟩,
  ⟨some 37, .mv (.t 0), some (36, false)⟩,
  ⟨some 38, .iaddrS 1 (.t 37) (.c (.p (.s (.int .i64 0)))), some (36, false)⟩,
  ⟨some 39, .load false 1 (.t 38), some (36, false)⟩,
  ⟨some 40, .bin .eql (.t 39) (.c (.p (.s (.int .u8 252)))), some (36, false)⟩,
  ⟨some 41, .pick (.t 36) (.c (.p (.s (.bool true)))) (.t 40), some (31, true)⟩,
  ⟨some 42, .mv (.t 41), some (31, true)⟩,
  ⟨some 43, .mv (.t 0), some (42, false)⟩,
  ⟨some 44, .iaddrS 1 (.t 43) (.c (.p (.s (.int .i64 0)))), some (42, false)⟩,
  ⟨some 45, .load false 1 (.t 44), some (42, false)⟩,
  ⟨some 46, .bin .eql (.t 45) (.c (.p (.s (.int .u8 254)))), some (42, false)⟩,
  ⟨some 47, .pick (.t 42) (.c (.p (.s (.bool true)))) (.t 46), some (31, true)⟩,
  ⟨some 48, .pick (.t 31) (.t 47) (.c (.p (.s (.bool false)))), none⟩,
  ⟨some 49, .mv (.t 48), none⟩,
  ⟨some 50, .mv (.t 0), some (49, true)⟩,
  ⟨some 51, .iaddrS 1 (.t 50) (.c (.p (.s (.int .i64 1)))), some (49, true)⟩,
  ⟨some 52, .load false 1 (.t 51), some (49, true)⟩,
  ⟨some 53, .bin .eql (.t 52) (.c (.p (.s (.int .u8 2)))), some (49, true)⟩,
  ⟨some 54, .pick (.t 49) (.t 53) (.c (.p (.s (.bool false)))), none⟩]
abbrev r11_4 : List CO := [
  ⟨some 55, .mv (.t 0), none⟩,
  ⟨some 56, .iaddrS 1 (.t 55) (.c (.p (.s (.int .i64 0)))), none⟩,
  ⟨some 57, .load false 1 (.t 56), none⟩,
  ⟨some 58, .toInt .i64 (.t 57), none⟩,
  ⟨some 59, .build ([.s (.int .i64 0), .s (.int .i64 0), .s (.int .i64 0), .s (.int .u8 0), .s (.int .u8 0), .s (.int .u8 0), .s (.int .u8 0), .s (.int .u8 0), .s (.int .u8 0), .s (.int .u8 0), .s (.int .u8 0), .s (.int .u8 0), .s (.int .u8 0), .s (.int .u8 0), .s (.int .u8 0), .s (.int .u8 0), .s (.int .u8 0), .s (.int .u8 0), .s (.int .u8 0), .s (.int .u8 0), .s (.int .u8 0), .s (.int .u8 0), .s (.int .u8 0), .s (.int .u8 0), .s (.int .u8 0), .s (.int .u8 0), .s (.int .u8 0), .s (.int .u8 0), .s (.int .u8 0), .s (.int .u8 0), .s (.int .u8 0), .s (.int .u8 0), .s (.int .u8 0), .s (.int .u8 0), .s (.int .u8 0), .s (.slice none 0 0)]) [(0, 1, .c (.p (.s (.int .i64 2)))), (2, 1, .t 58)], none⟩,
  ⟨none, .store 36 (.t 2) (.t 59), none⟩,
  ⟨some 3, .mv (.c (.p (.s (.bool true)))), none⟩]
abbrev r11_5 : List CO := [
  ⟨some 60, .mv (.t 0), none⟩,
  ⟨some 61, .len (.t 60), none⟩,
  ⟨some 62, .bin .geq (.t 61) (.c (.p (.s (.int .i64 2)))), none⟩,
  ⟨some 63, .mv (.t 62), none⟩,
  ⟨some 64, .mv (.t 0), some (63, true)⟩,
  ⟨some 65, .iaddrS 1 (.t 64) (.c (.p (.s (.int .i64 0)))), some (63, true)⟩,
  ⟨some 66, .load false 1 (.t 65), some (63, true)⟩,
  ⟨some 67, .bin .eql (.t 66) (.c (.p (.s (.int .u8 253)))), some (63, true)⟩,
  ⟨some 68, .pick (.t 63) (.t 67) (.c (.p (.s (.bool false)))), none⟩,
  ⟨some 69, .mv (.t 68), none⟩,
  ⟨some 70, .mv (.t 0), some (69, true)⟩,
  ⟨some 71, .iaddrS 1 (.t 70) (.c (.p (.s (.int .i64 1)))), some (69, true)⟩,
  ⟨some 72, .load false 1 (.t 71), some (69, true)⟩,
  ⟨some 73, .bin .eql (.t 72) (.c (.p (.s (.int .u8 2)))), some (69, true)⟩,
  ⟨some 74, .pick (.t 69) (.t 73) (.c (.p (.s (.bool false)))), none⟩]
abbrev r11_6 : List CO := [
  ⟨some 76, .mv (.t 0), none⟩,
  ⟨some 77, .slice 1 (.t 76) (some (.c (.p (.s (.int .i64 2))))) none, none⟩,
  ⟨some 78, .call (.c (.fn (.func 23) [] [])) [.t 77], none⟩,
  ⟨some 75, .mv (.t 78), none⟩,
  ⟨some 79, .extract 0 (.t 75), none⟩,
  ⟨some 80, .extract 1 (.t 75), none⟩,
  ⟨some 4, .alloc (List.replicate 32 (.s (.int .u8 0))), none⟩,
  ⟨none, .store 32 (.t 4) (.t 79), none⟩,
  ⟨some 5, .mv (.t 80), none⟩]
abbrev r11_7 : List CO := [
  ⟨some 81, .mv (.t 5), none⟩,
  ⟨some 82, .un .not (.t 81), none⟩]
abbrev r11_8 : List CO := [
  ⟨some 83, .build ([.s (.int .i64 0), .s (.int .i64 0), .s (.int .i64 0), .s (.int .u8 0), .s (.int .u8 0), .s (.int .u8 0), .s (.int .u8 0), .s (.int .u8 0), .s (.int .u8 0), .s (.int .u8 0), .s (.int .u8 0), .s (.int .u8 0), .s (.int .u8 0), .s (.int .u8 0), .s (.int .u8 0), .s (.int .u8 0), .s (.int .u8 0), .s (.int .u8 0), .s (.int .u8 0), .s (.int .u8 0), .s (.int .u8 0), .s (.int .u8 0), .s (.int .u8 0), .s (.int .u8 0), .s (.int .u8 0), .s (.int .u8 0), .s (.int .u8 0), .s (.int .u8 0), .s (.int .u8 0), .s (.int .u8 0), .s (.int .u8 0), .s (.int .u8 0), .s (.int .u8 0), .s (.int .u8 0), .s (.int .u8 0), .s (.slice none 0 0)]) [], none⟩,
  ⟨none, .store 36 (.t 2) (.t 83), none⟩,
  ⟨some 3, .mv (.c (.p (.s (.bool false)))), none⟩]
abbrev r11_9 : List CO := [
  ⟨some 84, .load true 32 (.t 4), none⟩,
  ⟨some 85, .build ([.s (.int .i64 0), .s (.int .i64 0), .s (.int .i64 0), .s (.int .u8 0), .s (.int .u8 0), .s (.int .u8 0), .s (.int .u8 0), .s (.int .u8 0), .s (.int .u8 0), .s (.int .u8 0), .s (.int .u8 0), .s (.int .u8 0), .s (.int .u8 0), .s (.int .u8 0), .s (.int .u8 0), .s (.int .u8 0), .s (.int .u8 0), .s (.int .u8 0), .s (.int .u8 0), .s (.int .u8 0), .s (.int .u8 0), .s (.int .u8 0), .s (.int .u8 0), .s (.int .u8 0), .s (.int .u8 0), .s (.int .u8 0), .s (.int .u8 0), .s (.int .u8 0), .s (.int .u8 0), .s (.int .u8 0), .s (.int .u8 0), .s (.int .u8 0), .s (.int .u8 0), .s (.int .u8 0), .s (.int .u8 0), .s (.slice none 0 0)]) [(0, 1, .c (.p (.s (.int .i64 2)))), (2, 1, .c (.p (.s (.int .i64 253)))), (3, 32, .t 84)], none⟩,
  ⟨none, .store 36 (.t 2) (.t 85), none⟩,
  ⟨some 3, .mv (.c (.p (.s (.bool true)))), none⟩]
abbrev r11_10 : List CO := [
  ⟨some 86, .mv (.t 0), none⟩,
  ⟨some 87, .len (.t 86), none⟩,
  ⟨some 88, .bin .geq (.t 87) (.c (.p (.s (.int .i64 1)))), none⟩,
  ⟨some 89, .mv (.t 88), none⟩,
  ⟨some 90, .mv (.t 0), some (89, true)⟩,
  ⟨some 91, .iaddrS 1 (.t 90) (.c (.p (.s (.int .i64 0)))), some (89, true)⟩,
  ⟨some 92, .load false 1 (.t 91), some (89, true)⟩,
  ⟨some 93, .bin .eql (.t 92) (.c (.p (.s (.int .u8 3)))), some (89, true)⟩,
  ⟨some 94, .pick (.t 89) (.t 93) (.c (.p (.s (.bool false)))), none⟩,
  ⟨some 95, .mv (.t 94), none⟩,
  ⟨some 96, .mv (.t 0), some (95, true)⟩,
  ⟨some 97, .len (.t 96), some (95, true)⟩,
  ⟨some 98, .bin .leq (.t 97) (.c (.p (.s (.int .i64 511)))), some (95, true)⟩,
  ⟨some 99, .pick (.t 95) (.t 98) (.c (.p (.s (.bool false)))), none⟩]
abbrev r11_11 : List CO := [
  ⟨some 101, .mv (.t 0), none⟩,
  ⟨some 102, .slice 1 (.t 101) (some (.c (.p (.s (.int .i64 1))))) none, none⟩,
  ⟨some 103, .call (.c (.fn (.func 24) [] [])) [.t 102], none⟩,
  ⟨some 100, .mv (.t 103), none⟩,
  ⟨some 104, .extract 0 (.t 100), none⟩,
  ⟨some 105, .extract 1 (.t 100), none⟩,
  ⟨some 6, .mv (.t 104), none⟩,
  ⟨some 7, .mv (.t 105), none⟩]
abbrev r11_12 : List CO := [
  ⟨some 106, .mv (.t 7), none⟩,
  ⟨some 107, .un .not (.t 106), none⟩]
abbrev r11_13 : List CO := [
  ⟨some 108, .build ([.s (.int .i64 0), .s (.int .i64 0), .s (.int .i64 0), .s (.int .u8 0), .s (.int .u8 0), .s (.int .u8 0), .s (.int .u8 0), .s (.int .u8 0), .s (.int .u8 0), .s (.int .u8 0), .s (.int .u8 0), .s (.int .u8 0), .s (.int .u8 0), .s (.int .u8 0), .s (.int .u8 0), .s (.int .u8 0), .s (.int .u8 0), .s (.int .u8 0), .s (.int .u8 0), .s (.int .u8 0), .s (.int .u8 0), .s (.int .u8 0), .s (.int .u8 0), .s (.int .u8 0), .s (.int .u8 0), .s (.int .u8 0), .s (.int .u8 0), .s (.int .u8 0), .s (.int .u8 0), .s (.int .u8 0), .s (.int .u8 0), .s (.int .u8 0), .s (.int .u8 0), .s (.int .u8 0), .s (.int .u8 0), .s (.slice none 0 0)]) [], none⟩,
  ⟨none, .store 36 (.t 2) (.t 108), none⟩,
  ⟨some 3, .mv (.c (.p (.s (.bool false)))), none⟩]
abbrev r11_14 : List CO := [
  ⟨some 109, .mv (.t 6), none⟩,
  ⟨some 110, .build ([.s (.int .i64 0), .s (.int .i64 0), .s (.int .i64 0), .s (.int .u8 0), .s (.int .u8 0), .s (.int .u8 0), .s (.int .u8 0), .s (.int .u8 0), .s (.int .u8 0), .s (.int .u8 0), .s (.int .u8 0), .s (.int .u8 0), .s (.int .u8 0), .s (.int .u8 0), .s (.int .u8 0), .s (.int .u8 0), .s (.int .u8 0), .s (.int .u8 0), .s (.int .u8 0), .s (.int .u8 0), .s (.int .u8 0), .s (.int .u8 0), .s (.int .u8 0), .s (.int .u8 0), .s (.int .u8 0), .s (.int .u8 0), .s (.int .u8 0), .s (.int .u8 0), .s (.int .u8 0), .s (.int .u8 0), .s (.int .u8 0), .s (.int .u8 0), .s (.int .u8 0), .s (.int .u8 0), .s (.int .u8 0), .s (.slice none 0 0)]) [(0, 1, .c (.p (.s (.int .i64 3)))), (35, 1, .t 109)], none⟩,
  ⟨none, .store 36 (.t 2) (.t 110), none⟩,
  ⟨some 3, .mv (.c (.p (.s (.bool true)))), none⟩]
abbrev r11_15 : List CO := [
  ⟨some 111, .build ([.s (.int .i64 0), .s (.int .i64 0), .s (.int .i64 0), .s (.int .u8 0), .s (.int .u8 0), .s (.int .u8 0), .s (.int .u8 0), .s (.int .u8 0), .s (.int .u8 0), .s (.int .u8 0), .s (.int .u8 0), .s (.int .u8 0), .s (.int .u8 0), .s (.int .u8 0), .s (.int .u8 0), .s (.int .u8 0), .s (.int .u8 0), .s (.int .u8 0), .s (.int .u8 0), .s (.int .u8 0), .s (.int .u8 0), .s (.int .u8 0), .s (.int .u8 0), .s (.int .u8 0), .s (.int .u8 0), .s (.int .u8 0), .s (.int .u8 0), .s (.int .u8 0), .s (.int .u8 0), .s (.int .u8 0), .s (.int .u8 0), .s (.int .u8 0), .s (.int .u8 0), .s (.int .u8 0), .s (.int .u8 0), .s (.slice none 0 0)]) [], none⟩,
  ⟨none, .store 36 (.t 2) (.t 111), none⟩,
  ⟨some 3, .mv (.c (.p (.s (.bool false)))), none⟩]
abbrev c11 : CC := .seq (.reg r11_0) (.seq (.seq (.reg r11_1) (.rest [0, 2, 22] (.cond (.t 22) (.seq (.reg r11_2) (.rest [2, 3] (.ret))) (.skip)))) (.rest [0, 2] (.seq (.seq (.reg r11_3) (.rest [0, 2, 54] (.cond (.t 54) (.seq (.reg r11_4) (.rest [2, 3] (.ret))) (.skip)))) (.rest [0, 2] (.seq (.seq (.reg r11_5) (.rest [0, 2, 74] (.cond (.t 74) (.seq (.reg r11_6) (.rest [2, 4, 5] (.seq (.seq (.reg r11_7) (.cond (.t 82) (.seq (.reg r11_8) (.ret)) (.skip))) (.rest [2, 4] (.seq (.reg r11_9) (.rest [2, 3] (.ret))))))) (.skip)))) (.rest [0, 2] (.seq (.seq (.reg r11_10) (.rest [0, 2, 99] (.cond (.t 99) (.seq (.reg r11_11) (.rest [2, 6, 7] (.seq (.seq (.reg r11_12) (.cond (.t 107) (.seq (.reg r11_13) (.ret)) (.skip))) (.rest [2, 6] (.seq (.reg r11_14) (.rest [2, 3] (.ret))))))) (.skip)))) (.rest [2] (.seq (.reg r11_15) (.ret))))))))))
theorem F11 : Fun Tryd.prog 11 112 c11 [.cell 2 true 36, .tmp 3] 1 := ⟨⟨Tryd.f11, _, Tryd.func11, rfl, by kernel_rfl, Tryd.ntmps11, by kernel_rfl, by kernel_rfl⟩, by decide⟩

/-- linnet/subopt.Check -/
abbrev r12_0 : List CO := [
  ⟨some 1, .box (.t 0), none⟩,
  ⟨some 2, .mv (.c (.p (.s (.int .i64 0)))), none⟩]
abbrev r12_1 : List CO := [
  ⟨some 6, .load true 36 (.t 1), none⟩,
  ⟨some 7, .load true 36 (.t 1), none⟩,
  ⟨some 8, .call (.c (.fn (.func 25) [] [])) [.t 7], none⟩,
  ⟨some 9, .call (.c (.fn (.func 14) [] [])) [.t 6, .t 8], none⟩,
  ⟨some 3, .mv (.t 9), none⟩]
abbrev b12_1 : List (List Nat) := [[], [], [1], [0, 2, 2], [3, 3, 0, 1, 2, 3]]
abbrev r12_2 : List CO := [
  ⟨some 10, .faddr 0 (.t 1), none⟩,
  ⟨some 11, .load false 1 (.t 10), none⟩]
abbrev r12_4 : List CO := [
  ⟨some 13, .bin .eql (.t 11) (.c (.p (.s (.int .i64 1)))), none⟩,
  ⟨some 12, .mv (.t 13), none⟩]
abbrev r12_5 : List CO := [
  ⟨some 14, .mv (.t 3), none⟩,
  ⟨some 15, .mv (.t 14), none⟩,
  ⟨some 16, .faddr 1 (.t 1), some (15, true)⟩,
  ⟨some 17, .load false 1 (.t 16), some (15, true)⟩,
  ⟨some 18, .bin .geq (.t 17) (.c (.p (.s (.int .i64 0)))), some (15, true)⟩,
  ⟨some 19, .pick (.t 15) (.t 18) (.c (.p (.s (.bool false)))), none⟩,
  ⟨some 20, .mv (.t 19), none⟩,
  ⟨some 21, .faddr 1 (.t 1), some (20, true)⟩,
  ⟨some 22, .load false 1 (.t 21), some (20, true)⟩,
  ⟨some 23, .bin .leq (.t 22) (.c (.p (.s (.int .i64 31)))), some (20, true)⟩,
  ⟨some 24, .pick (.t 20) (.t 23) (.c (.p (.s (.bool false)))), none⟩,
  ⟨some 3, .mv (.t 24), none⟩]
abbrev r12_6 : List CO := [
  ⟨some 26, .bin .eql (.t 11) (.c (.p (.s (.int .i64 2)))), none⟩,
  ⟨some 25, .mv (.t 26), none⟩]
abbrev r12_7 : List CO := [
  ⟨some 27, .mv (.t 3), none⟩,
  ⟨some 28, .mv (.t 27), none⟩,
  ⟨some 29, .faddr 2 (.t 1), some (28, true)⟩,
  ⟨some 30, .load false 1 (.t 29), some (28, true)⟩,
  ⟨some 31, .bin .geq (.t 30) (.c (.p (.s (.int .i64 251)))), some (28, true)⟩,
  ⟨some 32, .pick (.t 28) (.t 31) (.c (.p (.s (.bool false)))), none⟩,
  ⟨some 33, .mv (.t 32), none⟩,
  ⟨some 34, .faddr 2 (.t 1), some (33, true)⟩,
  ⟨some 35, .load false 1 (.t 34), some (33, true)⟩,
  ⟨some 36, .bin .leq (.t 35) (.c (.p (.s (.int .i64 254)))), some (33, true)⟩,
  ⟨some 37, .pick (.t 33) (.t 36) (.c (.p (.s (.bool false)))), none⟩,
  ⟨some 3, .mv (.t 37), none⟩]
abbrev r12_8 : List CO := [
  ⟨some 39, .bin .eql (.t 11) (.c (.p (.s (.int .i64 3)))), none⟩,
  ⟨some 38, .mv (.t 39), none⟩]
abbrev r12_9 : List CO := [
  ⟨some 41, .faddr 35 (.t 1), none⟩,
  ⟨some 42, .load false 1 (.t 41), none⟩,
  ⟨some 43, .call (.c (.fn (.func 19) [] [])) [.t 42], none⟩,
  ⟨some 40, .mv (.t 43), none⟩,
  ⟨some 44, .extract 0 (.t 40), none⟩,
  ⟨some 45, .extract 1 (.t 40), none⟩,
  ⟨some 4, .mv (.t 44), none⟩,
  ⟨some 5, .mv (.t 45), none⟩]
abbrev r12_10 : List CO := [
  ⟨some 46, .mv (.t 3), none⟩,
  ⟨some 47, .mv (.t 46), none⟩,
  ⟨some 48, .mv (.t 5), some (47, true)⟩,
  ⟨some 49, .bin .eql (.t 48) (.c (.p (.s (.int .i64 0)))), some (47, true)⟩,
  ⟨some 50, .pick (.t 47) (.t 49) (.c (.p (.s (.bool false)))), none⟩,
  ⟨some 51, .mv (.t 50), none⟩,
  ⟨some 52, .faddr 35 (.t 1), some (51, true)⟩,
  ⟨some 53, .load false 1 (.t 52), some (51, true)⟩,
  ⟨some 54, .len (.t 53), some (51, true)⟩,
  ⟨some 55, .bin .leq (.t 54) (.c (.p (.s (.int .i64 170)))), some (51, true)⟩,
  ⟨some 56, .pick (.t 51) (.t 55) (.c (.p (.s (.bool false)))), none⟩,
  ⟨some 3, .mv (.t 56), none⟩]
abbrev r12_3 : List CO := [
  ⟨some 3, .mv (.c (.p (.s (.bool false)))), none⟩]
abbrev k12_0 : CC := .seq (.reg r12_4) (.cond (.t 12) (.reg r12_5) (.seq (.reg r12_6) (.cond (.t 25) (.reg r12_7) (.seq (.reg r12_8) (.cond (.t 38) (.seq (.reg r12_9) (.rest [1, 3, 5] (.reg r12_10))) (.reg r12_3))))))
abbrev r12_11 : List CO := [
  ⟨some 57, .mv (.t 3), none⟩,
  ⟨some 58, .un .not (.t 57), none⟩]
abbrev r12_12 : List CO := [
  ⟨some 2, .mv (.c (.p (.s (.int .i64 1)))), none⟩]
abbrev r12_13 : List CO := [
  ⟨some 2, .mv (.c (.p (.s (.int .i64 0)))), none⟩]
abbrev c12 : CC := .seq (.reg r12_0) (.seq (.regd r12_1 b12_1) (.rest [1, 3] (.seq (.seq (.reg r12_2) (.block 0 k12_0)) (.rest [3] (.seq (.seq (.reg r12_11) (.cond (.t 58) (.seq (.reg r12_12) (.ret)) (.skip))) (.seq (.reg r12_13) (.ret)))))))
theorem F12 : Fun Tryd.prog 12 59 c12 [.tmp 2] 1 := ⟨⟨Tryd.f12, _, Tryd.func12, rfl, by kernel_rfl, Tryd.ntmps12, by kernel_rfl, by kernel_rfl⟩, by decide⟩

/-- linnet/linnetref11.May -/
abbrev r13_0 : List CO := [
  ⟨some 1, .box (.t 0), none⟩,
  ⟨some 2, .mv (.c (.p (.s (.bool false)))), none⟩]
abbrev r13_1 : List CO := [
  ⟨some 6, .build (List.replicate 32 (.s (.int .u8 0))) [], none⟩,
  ⟨some 3, .alloc (List.replicate 32 (.s (.int .u8 0))), none⟩,
  ⟨none, .store 32 (.t 3) (.t 6), none⟩]
abbrev r13_2 : List CO := [
  ⟨some 7, .faddr 0 (.t 1), none⟩,
  ⟨some 8, .load false 1 (.t 7), none⟩,
  ⟨some 9, .bin .eql (.t 8) (.c (.p (.s (.int .i64 1)))), none⟩]
abbrev r13_3 : List CO := [
  ⟨some 10, .faddr 1 (.t 1), none⟩,
  ⟨some 11, .load false 1 (.t 10), none⟩,
  ⟨some 12, .bin .geq (.t 11) (.c (.p (.s (.int .i64 0)))), none⟩,
  ⟨some 13, .mv (.t 12), none⟩,
  ⟨some 14, .faddr 1 (.t 1), some (13, true)⟩,
  ⟨some 15, .load false 1 (.t 14), some (13, true)⟩,
  ⟨some 16, .bin .leq (.t 15) (.c (.p (.s (.int .i64 31)))), some (13, true)⟩,
  ⟨some 17, .pick (.t 13) (.t 16) (.c (.p (.s (.bool false)))), none⟩,
  ⟨some 18, .mv (.t 17), none⟩,
  ⟨some 19, .faddr 2 (.t 1), some (18, true)⟩,
  ⟨some 20, .load false 1 (.t 19), some (18, true)⟩,
  ⟨some 21, .bin .eql (.t 20) (.c (.p (.s (.int .i64 0)))), some (18, true)⟩,
  ⟨some 22, .pick (.t 18) (.t 21) (.c (.p (.s (.bool false)))), none⟩,
  ⟨some 23, .mv (.t 22), none⟩,
  ⟨some 24, .faddr 3 (.t 1), some (23, true)⟩,
  ⟨some 25, .load true 32 (.t 24), some (23, true)⟩,
  ⟨some 26, .load true 32 (.t 3), some (23, true)⟩,
  ⟨some 27, .eqs false (List.replicate 32 0) (.t 25) (.t 26), some (23, true)⟩,
  ⟨some 28, .pick (.t 23) (.t 27) (.c (.p (.s (.bool false)))), none⟩,
  ⟨some 29, .mv (.t 28), none⟩,
  ⟨some 30, .faddr 35 (.t 1), some (29, true)⟩,
  ⟨some 31, .load false 1 (.t 30), some (29, true)⟩,
  ⟨some 32, .len (.t 31), some (29, true)⟩,
  ⟨some 33, .bin .eql (.t 32) (.c (.p (.s (.int .i64 0)))), some (29, true)⟩,
  ⟨some 34, .pick (.t 29) (.t 33) (.c (.p (.s (.bool false)))), none⟩,
  ⟨some 2, .mv (.t 34), none⟩]
abbrev r13_4 : List CO := [
  ⟨some 35, .faddr 0 (.t 1), none⟩,
  ⟨some 36, .load false 1 (.t 35), none⟩,
  ⟨some 37, .bin .eql (.t 36) (.c (.p (.s (.int .i64 2)))), none⟩]
abbrev r13_5 : List CO := [
  ⟨some 38, .faddr 1 (.t 1), none⟩,
  ⟨some 39, .load false 1 (.t 38), none⟩,
  ⟨some 40, .bin .eql (.t 39) (.c (.p (.s (.int .i64 0)))), none⟩,
  ⟨some 41, .mv (.t 40), none⟩,
  ⟨some 42, .faddr 2 (.t 1), some (41, true)⟩,
  ⟨some 43, .load false 1 (.t 42), some (41, true)⟩,
  ⟨some 44, .bin .geq (.t 43) (.c (.p (.s (.int .i64 251)))), some (41, true)⟩,
  ⟨some 45, .pick (.t 41) (.t 44) (.c (.p (.s (.bool false)))), none⟩,
  ⟨some 46, .mv (.t 45), none⟩,
  ⟨some 47, .faddr 2 (.t 1), some (46, true)⟩,
  ⟨some 48, .load false 1 (.t 47), some (46, true)⟩,
  ⟨some 49, .bin .leq (.t 48) (.c (.p (.s (.int .i64 254)))), some (46, true)⟩,
  ⟨some 50, .pick (.t 46) (.t 49) (.c (.p (.s (.bool false)))), none⟩,
  ⟨some 51, .mv (.t 50), none⟩,
  ⟨some 52, .faddr 2 (.t 1), some (51, true)⟩,
  ⟨some 53, .load false 1 (.t 52), some (51, true)⟩,
  ⟨some 54, .bin .eql (.t 53) (.c (.p (.s (.int .i64 253)))), some (51, true)⟩,
  ⟨some 55, .mv (.t 54), some (51, true)⟩,
  ⟨some 56, .faddr 3 (.t 1), some (55, false)⟩,
  ⟨some 57, .load true 32 (.t 56), some (55, false)⟩,
  ⟨some 58, .load true 32 (.t 3), some (55, false)⟩,
  ⟨some 59, .eqs false (List.replicate 32 0) (.t 57) (.t 58), some (55, false)⟩,
  ⟨some 60, .pick (.t 55) (.c (.p (.s (.bool true)))) (.t 59), some (51, true)⟩,
  ⟨some 61, .pick (.t 51) (.t 60) (.c (.p (.s (.bool false)))), none⟩,
  ⟨some 62, .mv (.t 61), none⟩,
  ⟨some 63, .faddr 35 (.t 1), some (62, true)⟩,
  ⟨some 64, .load false 1 (.t 63), some (62, true)⟩,
  ⟨some 65, .len (.t 64), some (62, true)⟩,
  ⟨some 66, .bin .eql (.t 65) (.c (.p (.s (.int .i64 0)))), some (62, true)⟩,
  ⟨some 67, .pick (.t 62) (.t 66) (.c (.p (.s (.bool false)))), none⟩,
  ⟨some 2, .mv (.t 67), none⟩]
abbrev r13_6 : List CO := [
  ⟨some 68, .faddr 0 (.t 1), none⟩,
  ⟨some 69, .load false 1 (.t 68), none⟩,
  ⟨some 70, .bin .neq (.t 69) (.c (.p (.s (.int .i64 3)))), none⟩,
  ⟨some 71, .mv (.t 70), none⟩,
  ⟨some 72, .faddr 1 (.t 1), some (71, false)⟩,
  ⟨some 73, .load false 1 (.t 72), some (71, false)⟩,
  ⟨some 74, .bin .neq (.t 73) (.c (.p (.s (.int .i64 0)))), some (71, false)⟩,
  ⟨some 75, .pick (.t 71) (.c (.p (.s (.bool true)))) (.t 74), none⟩,
  ⟨some 76, .mv (.t 75), none⟩,
  ⟨some 77, .faddr 2 (.t 1), some (76, false)⟩,
  ⟨some 78, .load false 1 (.t 77), some (76, false)⟩,
  ⟨some 79, .bin .neq (.t 78) (.c (.p (.s (.int .i64 0)))), some (76, false)⟩,
  ⟨some 80, .pick (.t 76) (.c (.p (.s (.bool true)))) (.t 79), none⟩,
  ⟨some 81, .mv (.t 80), none⟩,
  ⟨some 82, .faddr 3 (.t 1), some (81, false)⟩,
  ⟨some 83, .load true 32 (.t 82), some (81, false)⟩,
  ⟨some 84, .load true 32 (.t 3), some (81, false)⟩,
  ⟨some 85, .eqs true (List.replicate 32 0) (.t 83) (.t 84), some (81, false)⟩,
  ⟨some 86, .pick (.t 81) (.c (.p (.s (.bool true)))) (.t 85), none⟩,
  ⟨some 87, .mv (.t 86), none⟩,
  ⟨some 88, .faddr 35 (.t 1), some (87, false)⟩,
  ⟨some 89, .load false 1 (.t 88), some (87, false)⟩,
  ⟨some 90, .len (.t 89), some (87, false)⟩,
  ⟨some 91, .bin .gtr (.t 90) (.c (.p (.s (.int .i64 170)))), some (87, false)⟩,
  ⟨some 92, .pick (.t 87) (.c (.p (.s (.bool true)))) (.t 91), none⟩]
abbrev r13_7 : List CO := [
  ⟨some 2, .mv (.c (.p (.s (.bool false)))), none⟩]
abbrev r13_8 : List CO := [
  ⟨some 94, .faddr 35 (.t 1), none⟩,
  ⟨some 95, .load false 1 (.t 94), none⟩,
  ⟨some 96, .call (.c (.fn (.func 26) [] [])) [.t 95], none⟩,
  ⟨some 93, .mv (.t 96), none⟩,
  ⟨some 97, .extract 0 (.t 93), none⟩,
  ⟨some 98, .extract 1 (.t 93), none⟩,
  ⟨some 4, .mv (.t 97), none⟩,
  ⟨some 5, .mv (.t 98), none⟩]
abbrev r13_9 : List CO := [
  ⟨some 99, .mv (.t 5), none⟩,
  ⟨some 2, .mv (.t 99), none⟩]
abbrev c13 : CC := .seq (.reg r13_0) (.seq (.reg r13_1) (.seq (.seq (.reg r13_2) (.cond (.t 9) (.seq (.reg r13_3) (.rest [2] (.ret))) (.skip))) (.rest [1, 3] (.seq (.seq (.reg r13_4) (.cond (.t 37) (.seq (.reg r13_5) (.rest [2] (.ret))) (.skip))) (.rest [1, 3] (.seq (.seq (.reg r13_6) (.rest [1, 92] (.cond (.t 92) (.seq (.reg r13_7) (.ret)) (.skip)))) (.rest [1] (.seq (.reg r13_8) (.rest [5] (.seq (.reg r13_9) (.ret)))))))))))
theorem F13 : Fun Tryd.prog 13 100 c13 [.tmp 2] 1 := ⟨⟨Tryd.f13, _, Tryd.func13, rfl, by kernel_rfl, Tryd.ntmps13, by kernel_rfl, by kernel_rfl⟩, by decide⟩

/-- linnet/subopt.Same -/
abbrev r14_0 : List CO := [
  ⟨some 2, .box (.t 0), none⟩,
  ⟨some 3, .box (.t 1), none⟩,
  ⟨some 4, .mv (.c (.p (.s (.bool false)))), none⟩]
abbrev r14_1 : List CO := [
  ⟨some 5, .faddr 0 (.t 2), none⟩,
  ⟨some 6, .load false 1 (.t 5), none⟩,
  ⟨some 7, .faddr 0 (.t 3), none⟩,
  ⟨some 8, .load false 1 (.t 7), none⟩,
  ⟨some 9, .bin .eql (.t 6) (.t 8), none⟩,
  ⟨some 10, .mv (.t 9), none⟩,
  ⟨some 11, .faddr 1 (.t 2), some (10, true)⟩,
  ⟨some 12, .load false 1 (.t 11), some (10, true)⟩,
  ⟨some 13, .faddr 1 (.t 3), some (10, true)⟩,
  ⟨some 14, .load false 1 (.t 13), some (10, true)⟩,
  ⟨some 15, .bin .eql (.t 12) (.t 14), some (10, true)⟩,
  ⟨some 16, .pick (.t 10) (.t 15) (.c (.p (.s (.bool false)))), none⟩,
  ⟨some 17, .mv (.t 16), none⟩,
  ⟨some 18, .faddr 2 (.t 2), some (17, true)⟩,
  ⟨some 19, .load false 1 (.t 18), some (17, true)⟩,
  ⟨some 20, .faddr 2 (.t 3), some (17, true)⟩,
  ⟨some 21, .load false 1 (.t 20), some (17, true)⟩,
  ⟨some 22, .bin .eql (.t 19) (.t 21), some (17, true)⟩,
  ⟨some 23, .pick (.t 17) (.t 22) (.c (.p (.s (.bool false)))), none⟩,
  ⟨some 24, .mv (.t 23), none⟩,
  ⟨some 25, .faddr 3 (.t 2), some (24, true)⟩,
  ⟨some 26, .load true 32 (.t 25), some (24, true)⟩,
  ⟨some 27, .faddr 3 (.t 3), some (24, true)⟩,
  ⟨some 28, .load true 32 (.t 27), some (24, true)⟩,
  ⟨some 29, .eqs false (List.replicate 32 0) (.t 26) (.t 28), some (24, true)⟩,
  ⟨some 30, .pick (.t 24) (.t 29) (.c (.p (.s (.bool false)))), none⟩,
  ⟨some 31, .mv (.t 30), none⟩,
  ⟨some 32, .faddr 35 (.t 2), some (31, true)⟩,
  ⟨some 33, .load false 1 (.t 32), some (31, true)⟩,
  ⟨some 34, .faddr 35 (.t 3), some (31, true)⟩,
  ⟨some 35, .load false 1 (.t 34), some (31, true)⟩,
  ⟨some 36, .call (.c (.fn (.func 27) [] [])) [.t 33, .t 35], some (31, true)⟩,
  ⟨some 37, .pick (.t 31) (.t 36) (.c (.p (.s (.bool false)))), none⟩,
  ⟨some 4, .mv (.t 37), none⟩]
abbrev c14 : CC := .seq (.reg r14_0) (.seq (.reg r14_1) (.rest [4] (.ret)))
theorem F14 : Fun Tryd.prog 14 38 c14 [.tmp 4] 2 := ⟨⟨Tryd.f14, _, Tryd.func14, rfl, by kernel_rfl, Tryd.ntmps14, by kernel_rfl, by kernel_rfl⟩, by decide⟩

/-- linnet/linnetref11.Same -/
abbrev r15_0 : List CO := [
  ⟨some 2, .box (.t 0), none⟩,
  ⟨some 3, .box (.t 1), none⟩,
  ⟨some 4, .mv (.c (.p (.s (.bool false)))), none⟩]
abbrev r15_1 : List CO := [
  ⟨some 5, .faddr 0 (.t 2), none⟩,
  ⟨some 6, .load false 1 (.t 5), none⟩,
  ⟨some 7, .faddr 0 (.t 3), none⟩,
  ⟨some 8, .load false 1 (.t 7), none⟩,
  ⟨some 9, .bin .eql (.t 6) (.t 8), none⟩,
  ⟨some 10, .mv (.t 9), none⟩,
  ⟨some 11, .faddr 1 (.t 2), some (10, true)⟩,
  ⟨some 12, .load false 1 (.t 11), some (10, true)⟩,
  ⟨some 13, .faddr 1 (.t 3), some (10, true)⟩,
  ⟨some 14, .load false 1 (.t 13), some (10, true)⟩,
  ⟨some 15, .bin .eql (.t 12) (.t 14), some (10, true)⟩,
  ⟨some 16, .pick (.t 10) (.t 15) (.c (.p (.s (.bool false)))), none⟩,
  ⟨some 17, .mv (.t 16), none⟩,
  ⟨some 18, .faddr 2 (.t 2), some (17, true)⟩,
  ⟨some 19, .load false 1 (.t 18), some (17, true)⟩,
  ⟨some 20, .faddr 2 (.t 3), some (17, true)⟩,
  ⟨some 21, .load false 1 (.t 20), some (17, true)⟩,
  ⟨some 22, .bin .eql (.t 19) (.t 21), some (17, true)⟩,
  ⟨some 23, .pick (.t 17) (.t 22) (.c (.p (.s (.bool false)))), none⟩,
  ⟨some 24, .mv (.t 23), none⟩,
  ⟨some 25, .faddr 3 (.t 2), some (24, true)⟩,
  ⟨some 26, .load true 32 (.t 25), some (24, true)⟩,
  ⟨some 27, .faddr 3 (.t 3), some (24, true)⟩,
  ⟨some 28, .load true 32 (.t 27), some (24, true)⟩,
  ⟨some 29, .eqs false (List.replicate 32 0) (.t 26) (.t 28), some (24, true)⟩,
  ⟨some 30, .pick (.t 24) (.t 29) (.c (.p (.s (.bool false)))), none⟩,
  ⟨some 31, .mv (.t 30), none⟩,
  ⟨some 32, .faddr 35 (.t 2), some (31, true)⟩,
  ⟨some 33, .load false 1 (.t 32), some (31, true)⟩,
  ⟨some 34, .faddr 35 (.t 3), some (31, true)⟩,
  ⟨some 35, .load false 1 (.t 34), some (31, true)⟩,
  ⟨some 36, .call (.c (.fn (.func 28) [] [])) [.t 33, .t 35], some (31, true)⟩,
  ⟨some 37, .pick (.t 31) (.t 36) (.c (.p (.s (.bool false)))), none⟩,
  ⟨some 4, .mv (.t 37), none⟩]
abbrev c15 : CC := .seq (.reg r15_0) (.seq (.reg r15_1) (.rest [4] (.ret)))
theorem F15 : Fun Tryd.prog 15 38 c15 [.tmp 4] 2 := ⟨⟨Tryd.f15, _, Tryd.func15, rfl, by kernel_rfl, Tryd.ntmps15, by kernel_rfl, by kernel_rfl⟩, by decide⟩

/-- linnet/linnetlaw11.awake -/
abbrev r16_0 : List CO := [
  ⟨some 0, .mv (.c (.p (.s (.bool false)))), none⟩]
abbrev r16_1 : List CO := [
  ⟨some 10, .bslice 1 2 ([.s (.int .u8 0)]) [(0, .c (.p (.s (.int .u8 1)))), (1, .c (.p (.s (.int .u8 3))))], none⟩,
  ⟨some 11, .call (.c (.fn (.func 10) [] [])) [.t 10], none⟩,
  ⟨some 9, .mv (.t 11), none⟩,
  ⟨some 12, .extract 0 (.t 9), none⟩,
  ⟨some 13, .extract 1 (.t 9), none⟩,
  ⟨some 1, .alloc ([.s (.int .i64 0), .s (.int .i64 0), .s (.int .i64 0), .s (.int .u8 0), .s (.int .u8 0), .s (.int .u8 0), .s (.int .u8 0), .s (.int .u8 0), .s (.int .u8 0), .s (.int .u8 0), .s (.int .u8 0), .s (.int .u8 0), .s (.int .u8 0), .s (.int .u8 0), .s (.int .u8 0), .s (.int .u8 0), .s (.int .u8 0), .s (.int .u8 0), .s (.int .u8 0), .s (.int .u8 0), .s (.int .u8 0), .s (.int .u8 0), .s (.int .u8 0), .s (.int .u8 0), .s (.int .u8 0), .s (.int .u8 0), .s (.int .u8 0), .s (.int .u8 0), .s (.int .u8 0), .s (.int .u8 0), .s (.int .u8 0), .s (.int .u8 0), .s (.int .u8 0), .s (.int .u8 0), .s (.int .u8 0), .s (.slice none 0 0)]), none⟩,
  ⟨none, .store 36 (.t 1) (.t 12), none⟩,
  ⟨some 2, .mv (.t 13), none⟩]
abbrev r16_2 : List CO := [
  ⟨some 15, .bslice 1 3 ([.s (.int .u8 0)]) [(0, .c (.p (.s (.int .u8 253)))), (1, .c (.p (.s (.int .u8 2)))), (2, .c (.p (.s (.int .u8 128))))], none⟩,
  ⟨some 16, .call (.c (.fn (.func 10) [] [])) [.t 15], none⟩,
  ⟨some 14, .mv (.t 16), none⟩,
  ⟨some 17, .extract 0 (.t 14), none⟩,
  ⟨some 18, .extract 1 (.t 14), none⟩,
  ⟨some 3, .alloc ([.s (.int .i64 0), .s (.int .i64 0), .s (.int .i64 0), .s (.int .u8 0), .s (.int .u8 0), .s (.int .u8 0), .s (.int .u8 0), .s (.int .u8 0), .s (.int .u8 0), .s (.int .u8 0), .s (.int .u8 0), .s (.int .u8 0), .s (.int .u8 0), .s (.int .u8 0), .s (.int .u8 0), .s (.int .u8 0), .s (.int .u8 0), .s (.int .u8 0), .s (.int .u8 0), .s (.int .u8 0), .s (.int .u8 0), .s (.int .u8 0), .s (.int .u8 0), .s (.int .u8 0), .s (.int .u8 0), .s (.int .u8 0), .s (.int .u8 0), .s (.int .u8 0), .s (.int .u8 0), .s (.int .u8 0), .s (.int .u8 0), .s (.int .u8 0), .s (.int .u8 0), .s (.int .u8 0), .s (.int .u8 0), .s (.slice none 0 0)]), none⟩,
  ⟨none, .store 36 (.t 3) (.t 17), none⟩,
  ⟨some 4, .mv (.t 18), none⟩]
abbrev r16_3 : List CO := [
  ⟨some 20, .bslice 1 3 ([.s (.int .u8 0)]) [(0, .c (.p (.s (.int .u8 251)))), (1, .c (.p (.s (.int .u8 2)))), (2, .c (.p (.s (.int .u8 0))))], none⟩,
  ⟨some 21, .call (.c (.fn (.func 10) [] [])) [.t 20], none⟩,
  ⟨some 19, .mv (.t 21), none⟩,
  ⟨some 22, .extract 0 (.t 19), none⟩,
  ⟨some 23, .extract 1 (.t 19), none⟩,
  ⟨some 5, .alloc ([.s (.int .i64 0), .s (.int .i64 0), .s (.int .i64 0), .s (.int .u8 0), .s (.int .u8 0), .s (.int .u8 0), .s (.int .u8 0), .s (.int .u8 0), .s (.int .u8 0), .s (.int .u8 0), .s (.int .u8 0), .s (.int .u8 0), .s (.int .u8 0), .s (.int .u8 0), .s (.int .u8 0), .s (.int .u8 0), .s (.int .u8 0), .s (.int .u8 0), .s (.int .u8 0), .s (.int .u8 0), .s (.int .u8 0), .s (.int .u8 0), .s (.int .u8 0), .s (.int .u8 0), .s (.int .u8 0), .s (.int .u8 0), .s (.int .u8 0), .s (.int .u8 0), .s (.int .u8 0), .s (.int .u8 0), .s (.int .u8 0), .s (.int .u8 0), .s (.int .u8 0), .s (.int .u8 0), .s (.int .u8 0), .s (.slice none 0 0)]), none⟩,
  ⟨none, .store 36 (.t 5) (.t 22), none⟩,
  ⟨some 6, .mv (.t 23), none⟩]
abbrev r16_4 : List CO := [
  ⟨some 25, .call (.c (.fn (.func 10) [] [])) [.c (.p (.s (.slice none 0 0)))], none⟩,
  ⟨some 24, .mv (.t 25), none⟩,
  ⟨some 26, .extract 0 (.t 24), none⟩,
  ⟨some 27, .extract 1 (.t 24), none⟩,
  ⟨some 7, .alloc ([.s (.int .i64 0), .s (.int .i64 0), .s (.int .i64 0), .s (.int .u8 0), .s (.int .u8 0), .s (.int .u8 0), .s (.int .u8 0), .s (.int .u8 0), .s (.int .u8 0), .s (.int .u8 0), .s (.int .u8 0), .s (.int .u8 0), .s (.int .u8 0), .s (.int .u8 0), .s (.int .u8 0), .s (.int .u8 0), .s (.int .u8 0), .s (.int .u8 0), .s (.int .u8 0), .s (.int .u8 0), .s (.int .u8 0), .s (.int .u8 0), .s (.int .u8 0), .s (.int .u8 0), .s (.int .u8 0), .s (.int .u8 0), .s (.int .u8 0), .s (.int .u8 0), .s (.int .u8 0), .s (.int .u8 0), .s (.int .u8 0), .s (.int .u8 0), .s (.int .u8 0), .s (.int .u8 0), .s (.int .u8 0), .s (.slice none 0 0)]), none⟩,
  ⟨none, .store 36 (.t 7) (.t 26), none⟩,
  ⟨some 8, .mv (.t 27), none⟩]
abbrev r16_5 : List CO := [
  ⟨some 28, .mv (.t 2), none⟩,
  ⟨some 29, .bin .eql (.t 28) (.c (.p (.s (.int .i64 0)))), none⟩,
  ⟨some 30, .mv (.t 29), none⟩,
  ⟨some 31, .mv (.t 4), some (30, true)⟩,
  ⟨some 32, .bin .eql (.t 31) (.c (.p (.s (.int .i64 0)))), some (30, true)⟩,
  ⟨some 33, .pick (.t 30) (.t 32) (.c (.p (.s (.bool false)))), none⟩,
  ⟨some 34, .mv (.t 33), none⟩,
  ⟨some 35, .mv (.t 6), some (34, true)⟩,
  ⟨some 36, .bin .eql (.t 35) (.c (.p (.s (.int .i64 2)))), some (34, true)⟩,
  ⟨some 37, .pick (.t 34) (.t 36) (.c (.p (.s (.bool false)))), none⟩,
  ⟨some 38, .mv (.t 37), none⟩,
  ⟨some 39, .mv (.t 8), some (38, true)⟩,
  ⟨some 40, .bin .eql (.t 39) (.c (.p (.s (.int .i64 2)))), some (38, true)⟩,
  ⟨some 41, .pick (.t 38) (.t 40) (.c (.p (.s (.bool false)))), none⟩,
  ⟨some 42, .mv (.t 41), none⟩,
  ⟨some 43, .faddr 0 (.t 1), some (42, true)⟩,
  ⟨some 44, .load false 1 (.t 43), some (42, true)⟩,
  ⟨some 45, .bin .eql (.t 44) (.c (.p (.s (.int .i64 1)))), some (42, true)⟩,
  ⟨some 46, .pick (.t 42) (.t 45) (.c (.p (.s (.bool false)))), none⟩,
  ⟨some 47, .mv (.t 46), none⟩,
  ⟨some 48, .faddr 1 (.t 1), some (47, true)⟩,
  ⟨some 49, .load false 1 (.t 48), some (47, true)⟩,
  ⟨some 50, .bin .eql (.t 49) (.c (.p (.s (.int .i64 3)))), some (47, true)⟩,
  ⟨some 51, .pick (.t 47) (.t 50) (.c (.p (.s (.bool false)))), none⟩,
  ⟨some 52, .mv (.t 51), none⟩,
  ⟨some 53, .faddr 2 (.t 3), some (52, true)⟩,
  ⟨some 54, .load false 1 (.t 53), some (52, true)⟩,
  ⟨some 55, .bin .eql (.t 54) (.c (.p (.s (.int .i64 253)))), some (52, true)⟩,
  ⟨some 56, .pick (.t 52) (.t 55) (.c (.p (.s (.bool false)))), none⟩,
  ⟨some 57, .mv (.t 56), none⟩,
  ⟨some 58, .faddr 3 (.t 3), some (57, true)⟩,
  ⟨some 59, .load true 32 (.t 58), some (57, true)⟩,
  ⟨some 60, .call (.c (.fn (.func 29) [] [])) [.t 59, .c (.p (.s (.int .u8 0)))], some (57, true)⟩,
  ⟨some 61, .pick (.t 57) (.t 60) (.c (.p (.s (.bool false)))), none⟩,
  ⟨some 62, .mv (.t 61), none⟩,
  ⟨some 63, .pick (.t 62) (.c (.p (.s (.bool true)))) (.c (.p (.s (.bool false)))), none⟩,
  ⟨some 64, .mv (.t 63), none⟩,
  ⟨some 65, .pick (.t 64) (.c (.p (.s (.bool true)))) (.c (.p (.s (.bool false)))), none⟩,
  ⟨some 66, .mv (.t 65), none⟩,
  ⟨some 67, .pick (.t 66) (.c (.p (.s (.bool true)))) (.c (.p (.s (.bool false)))), none⟩,
  ⟨some 68, .mv (.t 67), none⟩,
  ⟨some 69, .pick (.t 68) (.c (.p (.s (.bool true)))) (.c (.p (.s (.bool false)))), none⟩,
  ⟨some 70, .mv (.t 69), none⟩,
  ⟨some 71, .pick (.t 70) (.c (.p (.s (.bool true)))) (.c (.p (.s (.bool false)))), none⟩,
  ⟨some 72, .mv (.t 71), none⟩,
  ⟨some 73, .pick (.t 72) (.c (.p (.s (.bool true)))) (.c (.p (.s (.bool false)))), none⟩,
  ⟨some 74, .mv (.t 73), none⟩,
  ⟨some 75, .pick (.t 74) (.c (.p (.s (.bool true)))) (.c (.p (.s (.bool false)))), none⟩,
  ⟨some 76, .mv (.t 75), none⟩,
  ⟨some 77, .pick (.t 76) (.c (.p (.s (.bool true)))) (.c (.p (.s (.bool false)))), none⟩,
  ⟨some 0, .mv (.t 77), none⟩]
abbrev c16 : CC := .seq (.reg r16_0) (.seq (.reg r16_1) (.rest [1, 2] (.seq (.reg r16_2) (.rest [1, 2, 3, 4] (.seq (.reg r16_3) (.rest [1, 2, 3, 4, 6] (.seq (.reg r16_4) (.rest [1, 2, 3, 4, 6, 8] (.seq (.reg r16_5) (.rest [0] (.ret)))))))))))
theorem F16 : Fun Tryd.prog 16 78 c16 [.tmp 0] 0 := ⟨⟨Tryd.f16, _, Tryd.func16, rfl, by kernel_rfl, Tryd.ntmps16, by kernel_rfl, by kernel_rfl⟩, by decide⟩

/-- linnet/linnetref01.Octets -/
abbrev r17_0 : List CO := [
  ⟨some 4, .mv (.c (.p (.s (.bool false)))), none⟩]
abbrev r17_1 : List CO := [
  ⟨some 5, .mv (.t 0), none⟩,
  ⟨some 6, .toStr (.t 5), none⟩,
  ⟨some 7, .mv (.t 1), none⟩,
  ⟨some 8, .toStr (.t 7), none⟩,
  ⟨some 9, .bin .eql (.t 6) (.t 8), none⟩,
  ⟨some 4, .mv (.t 9), none⟩]
abbrev c17 : CC := .seq (.reg r17_0) (.seq (.reg r17_1) (.rest [4] (.ret)))
theorem F17 : Fun Tryd.prog 17 10 c17 [.tmp 4] 2 := ⟨⟨Tryd.f17, _, Tryd.func17, rfl, by kernel_rfl, Tryd.ntmps17, by kernel_rfl, by kernel_rfl⟩, by decide⟩

/-- linnet/linnetref11.Put -/
abbrev r18_0 : List CO := [
  ⟨some 1, .box (.t 0), none⟩,
  ⟨some 2, .mv (.c (.p (.s (.slice none 0 0)))), none⟩]
abbrev r18_1 : List CO := [
  ⟨some 5, .faddr 0 (.t 1), none⟩,
  ⟨some 6, .load false 1 (.t 5), none⟩,
  ⟨some 7, .bin .eql (.t 6) (.c (.p (.s (.int .i64 1)))), none⟩]
abbrev r18_2 : List CO := [
  ⟨some 8, .faddr 1 (.t 1), none⟩,
  ⟨some 9, .load false 1 (.t 8), none⟩,
  ⟨some 10, .toInt .u8 (.t 9), none⟩,
  ⟨some 11, .bslice 1 2 ([.s (.int .u8 0)]) [(0, .c (.p (.s (.int .u8 1)))), (1, .t 10)], none⟩,
  ⟨some 2, .mv (.t 11), none⟩]
abbrev r18_3 : List CO := [
  ⟨some 12, .faddr 0 (.t 1), none⟩,
  ⟨some 13, .load false 1 (.t 12), none⟩,
  ⟨some 14, .bin .eql (.t 13) (.c (.p (.s (.int .i64 2)))), none⟩]
abbrev r18_4 : List CO := [
  ⟨some 15, .faddr 2 (.t 1), none⟩,
  ⟨some 16, .load false 1 (.t 15), none⟩,
  ⟨some 17, .toInt .u8 (.t 16), none⟩,
  ⟨some 18, .bslice 1 2 ([.s (.int .u8 0)]) [(0, .t 17), (1, .c (.p (.s (.int .u8 2))))], none⟩,
  ⟨some 19, .faddr 3 (.t 1), none⟩,
  ⟨some 20, .load true 32 (.t 19), none⟩,
  ⟨some 21, .call (.c (.fn (.func 30) [] [])) [.t 20], none⟩,
  ⟨some 22, .append 1 1 ([.s (.int .u8 0)]) (.t 18) (.t 21), none⟩,
  ⟨some 2, .mv (.t 22), none⟩]
abbrev b18_4 : List (List Nat) := [[], [0], [1], [2], [], [4], [5], [3, 6, 6], [7, 7, 0, 1, 2, 3, 4, 5, 6, 7]]
abbrev r18_5 : List CO := [
  ⟨some 24, .faddr 35 (.t 1), none⟩,
  ⟨some 25, .load false 1 (.t 24), none⟩,
  ⟨some 26, .call (.c (.fn (.func 26) [] [])) [.t 25], none⟩,
  ⟨some 23, .mv (.t 26), none⟩,
  ⟨some 27, .extract 0 (.t 23), none⟩,
  ⟨some 28, .extract 1 (.t 23), none⟩,
  ⟨some 3, .mv (.t 27), none⟩,
  ⟨some 4, .mv (.t 28), none⟩]
abbrev r18_6 : List CO := [
  ⟨some 29, .bslice 1 1 ([.s (.int .u8 0)]) [(0, .c (.p (.s (.int .u8 3))))], none⟩,
  ⟨some 30, .mv (.t 3), none⟩,
  ⟨some 31, .append 1 1 ([.s (.int .u8 0)]) (.t 29) (.t 30), none⟩,
  ⟨some 2, .mv (.t 31), none⟩]
abbrev c18 : CC := .seq (.reg r18_0) (.seq (.seq (.reg r18_1) (.cond (.t 7) (.seq (.reg r18_2) (.rest [2] (.ret))) (.skip))) (.rest [1] (.seq (.seq (.reg r18_3) (.cond (.t 14) (.seq (.regd r18_4 b18_4) (.rest [2] (.ret))) (.skip))) (.rest [1] (.seq (.reg r18_5) (.rest [3] (.seq (.reg r18_6) (.rest [2] (.ret)))))))))
theorem F18 : Fun Tryd.prog 18 32 c18 [.tmp 2] 1 := ⟨⟨Tryd.f18, _, Tryd.func18, rfl, by kernel_rfl, Tryd.ntmps18, by kernel_rfl, by kernel_rfl⟩, by decide⟩

/-- linnet/slc.Put -/
abbrev r19_0 : List CO := [
  ⟨some 2, .mv (.c (.p (.s (.slice none 0 0)))), none⟩,
  ⟨some 3, .mv (.c (.p (.s (.int .i64 0)))), none⟩]
abbrev r19_1 : List CO := [
  ⟨some 4, .mv (.c (.p (.s (.slice none 0 0)))), none⟩]
abbrev r19_2 : List CO := [
  ⟨some 8, .mv (.t 0), none⟩,
  ⟨some 9, .len (.t 8), none⟩,
  ⟨some 10, .mv (.c (.p (.s (.int .i64 0)))), none⟩]
abbrev r19_3 : List CO := [
  ⟨some 11, .bin .lss (.t 10) (.t 9), none⟩]
abbrev r19_4 : List CO := [
  ⟨some 12, .iaddrS 6 (.t 8) (.t 10), none⟩,
  ⟨some 13, .load true 6 (.t 12), none⟩,
  ⟨some 6, .alloc ([.s (.int .i64 0), .s (.int .i64 0), .s (.bool false), .s (.bool false), .s (.bool false), .s (.int .u8 0)]), none⟩,
  ⟨none, .store 6 (.t 6) (.t 13), none⟩]
abbrev r19_5 : List CO := [
  ⟨some 14, .load true 6 (.t 6), none⟩,
  ⟨some 15, .call (.c (.fn (.func 31) [] [])) [.t 14], none⟩,
  ⟨some 7, .mv (.t 15), none⟩]
abbrev r19_6 : List CO := [
  ⟨some 16, .mv (.t 7), none⟩,
  ⟨some 17, .bin .neq (.t 16) (.c (.p (.s (.int .i64 0)))), none⟩]
abbrev r19_7 : List CO := [
  ⟨some 18, .mv (.t 7), none⟩,
  ⟨some 2, .mv (.c (.p (.s (.slice none 0 0)))), none⟩,
  ⟨some 3, .mv (.t 18), none⟩]
abbrev r19_8 : List CO := [
  ⟨some 19, .mv (.t 4), none⟩,
  ⟨some 20, .faddr 0 (.t 6), none⟩,
  ⟨some 21, .load false 1 (.t 20), none⟩,
  ⟨some 22, .toInt .u8 (.t 21), none⟩,
  ⟨some 23, .faddr 1 (.t 6), none⟩,
  ⟨some 24, .load false 1 (.t 23), none⟩,
  ⟨some 25, .toInt .u8 (.t 24), none⟩,
  ⟨some 26, .faddr 2 (.t 6), none⟩,
  ⟨some 27, .load false 1 (.t 26), none⟩,
  ⟨some 28, .call (.c (.fn (.func 32) [] [])) [.t 27, .c (.p (.s (.int .u8 128)))], none⟩,
  ⟨some 29, .bin .or (.t 25) (.t 28), none⟩,
  ⟨some 30, .faddr 3 (.t 6), none⟩,
  ⟨some 31, .load false 1 (.t 30), none⟩,
  ⟨some 32, .call (.c (.fn (.func 32) [] [])) [.t 31, .c (.p (.s (.int .u8 64)))], none⟩,
  ⟨some 33, .bin .or (.t 29) (.t 32), none⟩,
  ⟨some 34, .faddr 4 (.t 6), none⟩,
  ⟨some 35, .load false 1 (.t 34), none⟩,
  ⟨some 36, .call (.c (.fn (.func 32) [] [])) [.t 35, .c (.p (.s (.int .u8 32)))], none⟩,
  ⟨some 37, .bin .or (.t 33) (.t 36), none⟩,
  ⟨some 38, .faddr 5 (.t 6), none⟩,
  ⟨some 39, .load false 1 (.t 38), none⟩,
  ⟨some 40, .bslice 1 3 ([.s (.int .u8 0)]) [(0, .t 22), (1, .t 37), (2, .t 39)], none⟩,
  ⟨some 41, .append 1 1 ([.s (.int .u8 0)]) (.t 19) (.t 40), none⟩,
  ⟨some 4, .mv (.t 41), none⟩]
abbrev b19_8 : List (List Nat) := [[], [], [1], [2], [], [4], [5], [], [7], [8], [6, 9], [], [11], [12, 9], [10, 13], [], [15], [16, 13], [14, 17], [], [19], [3, 18, 20], [0, 21, 17], [22, 22, 0, 1, 2, 3, 4, 5, 6, 7, 8, 9, 10, 11, 12, 13, 14, 15, 16, 17, 18, 19, 20, 21, 22]]
abbrev k19_1 : CC := .seq (.reg r19_4) (.rest [4, 6, 8, 9, 10] (.seq (.seq (.reg r19_5) (.seq (.reg r19_6) (.cond (.t 17) (.seq (.reg r19_7) (.ret)) (.skip)))) (.rest [4, 6, 8, 9, 10] (.regd r19_8 b19_8))))
abbrev r19_9 : List CO := [
  ⟨some 42, .bin .add (.t 10) (.c (.p (.s (.int .i64 1)))), none⟩,
  ⟨some 10, .mv (.t 42), none⟩]
abbrev l19_12 : CC := .seq (.reg r19_3) (.seq (.cond (.t 11) (.skip) (.exit 0)) (.seq (.block 1 k19_1) (.rest [4, 8, 9, 10] (.reg r19_9))))
abbrev k19_0 : CC := .loop l19_12
abbrev r19_10 : List CO := [
  ⟨some 43, .mv (.t 4), none⟩,
  ⟨some 2, .mv (.t 43), none⟩,
  ⟨some 3, .mv (.c (.p (.s (.int .i64 0)))), none⟩]
abbrev c19 : CC := .seq (.reg r19_0) (.seq (.reg r19_1) (.seq (.seq (.reg r19_2) (.block 0 k19_0)) (.rest [4] (.seq (.reg r19_10) (.ret)))))
theorem F19 : Fun Tryd.prog 19 44 c19 [.tmp 2, .tmp 3] 1 := ⟨⟨Tryd.f19, _, Tryd.func19, rfl, by kernel_rfl, Tryd.ntmps19, by kernel_rfl, by kernel_rfl⟩, by decide⟩

/-- linnet/mask.Put -/
abbrev r20_0 : List CO := [
  ⟨some 1, .box (.t 0), none⟩,
  ⟨some 2, .mv (.c (.p (.s (.slice none 0 0)))), none⟩]
abbrev r20_1 : List CO := [
  ⟨some 3, .aslice 1 32 (.t 1) none none, none⟩,
  ⟨some 4, .call (.c (.fn (.func 34) [] [])) [.t 3], none⟩,
  ⟨some 5, .call (.c (.fn (.func 33) [] [])) [.t 4, .c (.p (.s (.string { data := #[0] })))], none⟩,
  ⟨some 2, .mv (.t 5), none⟩]
abbrev c20 : CC := .seq (.reg r20_0) (.seq (.reg r20_1) (.rest [2] (.ret)))
theorem F20 : Fun Tryd.prog 20 6 c20 [.tmp 2] 1 := ⟨⟨Tryd.f20, _, Tryd.func20, rfl, by kernel_rfl, Tryd.ntmps20, by kernel_rfl, by kernel_rfl⟩, by decide⟩

/-- linnet/subopt.Get$1 (recovers) -/
abbrev q21 : List CO := [
  ⟨some 6, .ext (.tassert 50 ([])) [.t 5], none⟩,
  ⟨some 4, .mv (.t 6), none⟩,
  ⟨some 7, .extract 0 (.t 4), none⟩,
  ⟨some 8, .extract 1 (.t 4), none⟩,
  ⟨some 2, .alloc ([]), none⟩,
  ⟨none, .store 0 (.t 2) (.t 7), none⟩,
  ⟨some 3, .mv (.t 8), none⟩]
abbrev r21_1 : List CO := [
  ⟨some 9, .mv (.t 3), none⟩]
abbrev r21_2 : List CO := [
  ⟨some 10, .build ([.s (.int .i64 0), .s (.int .i64 0), .s (.int .i64 0), .s (.int .u8 0), .s (.int .u8 0), .s (.int .u8 0), .s (.int .u8 0), .s (.int .u8 0), .s (.int .u8 0), .s (.int .u8 0), .s (.int .u8 0), .s (.int .u8 0), .s (.int .u8 0), .s (.int .u8 0), .s (.int .u8 0), .s (.int .u8 0), .s (.int .u8 0), .s (.int .u8 0), .s (.int .u8 0), .s (.int .u8 0), .s (.int .u8 0), .s (.int .u8 0), .s (.int .u8 0), .s (.int .u8 0), .s (.int .u8 0), .s (.int .u8 0), .s (.int .u8 0), .s (.int .u8 0), .s (.int .u8 0), .s (.int .u8 0), .s (.int .u8 0), .s (.int .u8 0), .s (.int .u8 0), .s (.int .u8 0), .s (.int .u8 0), .s (.slice none 0 0)]) [], none⟩,
  ⟨none, .store 36 (.t 0) (.t 10), none⟩,
  ⟨none, .store 1 (.t 1) (.c (.p (.s (.int .i64 2)))), none⟩]
abbrev cb21 : CC := .seq (.reg r21_1) (.cond (.t 9) (.reg r21_2) (.skip))
theorem D21 : DFun Tryd.prog 21 11 5 q21 cb21 := ⟨Tryd.f21, _, _, _, _, _, Tryd.func21, rfl, by kernel_rfl, Tryd.ntmps21, rfl, rfl, rfl, rfl, rfl, by kernel_rfl, by kernel_rfl⟩

/-- linnet/subopt.take -/
abbrev r22_0 : List CO := [
  ⟨some 2, .alloc ([.s (.int .i64 0), .s (.int .i64 0), .s (.int .i64 0), .s (.int .u8 0), .s (.int .u8 0), .s (.int .u8 0), .s (.int .u8 0), .s (.int .u8 0), .s (.int .u8 0), .s (.int .u8 0), .s (.int .u8 0), .s (.int .u8 0), .s (.int .u8 0), .s (.int .u8 0), .s (.int .u8 0), .s (.int .u8 0), .s (.int .u8 0), .s (.int .u8 0), .s (.int .u8 0), .s (.int .u8 0), .s (.int .u8 0), .s (.int .u8 0), .s (.int .u8 0), .s (.int .u8 0), .s (.int .u8 0), .s (.int .u8 0), .s (.int .u8 0), .s (.int .u8 0), .s (.int .u8 0), .s (.int .u8 0), .s (.int .u8 0), .s (.int .u8 0), .s (.int .u8 0), .s (.int .u8 0), .s (.int .u8 0), .s (.slice none 0 0)]), none⟩]
abbrev r22_1 : List CO := [
  ⟨some 9, .mv (.t 0), none⟩,
  ⟨some 10, .len (.t 9), none⟩,
  ⟨some 11, .bin .gtr (.t 10) (.c (.p (.s (.int .i64 0)))), none⟩,
  ⟨some 12, .call (.c (.fn (.func 35) [] [])) [.t 11], none⟩]
abbrev r22_2 : List CO := [
  ⟨some 13, .mv (.t 0), none⟩,
  ⟨some 14, .iaddrS 1 (.t 13) (.c (.p (.s (.int .i64 0)))), none⟩,
  ⟨some 15, .load false 1 (.t 14), none⟩,
  ⟨some 16, .toInt .i64 (.t 15), none⟩,
  ⟨some 17, .mv (.t 0), none⟩,
  ⟨some 18, .slice 1 (.t 17) (some (.c (.p (.s (.int .i64 1))))) none, none⟩,
  ⟨some 3, .mv (.t 16), none⟩,
  ⟨some 4, .mv (.t 18), none⟩]
abbrev b22_2 : List (List Nat) := [[], [0], [1], [2], [], [4], [3, 0, 1, 2, 3], [5, 6, 0, 1, 2, 3, 4, 5, 6]]
abbrev r22_3 : List CO := [
  ⟨some 20, .mv (.t 3), none⟩,
  ⟨some 21, .bin .eql (.t 20) (.c (.p (.s (.int .i64 1)))), none⟩,
  ⟨some 19, .mv (.t 21), none⟩]
abbrev r22_4 : List CO := [
  ⟨some 22, .mv (.t 4), none⟩,
  ⟨some 23, .len (.t 22), none⟩,
  ⟨some 24, .bin .eql (.t 23) (.c (.p (.s (.int .i64 1)))), none⟩,
  ⟨some 25, .mv (.t 24), none⟩,
  ⟨some 26, .mv (.t 4), some (25, true)⟩,
  ⟨some 27, .iaddrS 1 (.t 26) (.c (.p (.s (.int .i64 0)))), some (25, true)⟩,
  ⟨some 28, .load false 1 (.t 27), some (25, true)⟩,
  ⟨some 29, .bin .leq (.t 28) (.c (.p (.s (.int .u8 31)))), some (25, true)⟩,
  ⟨some 30, .pick (.t 25) (.t 29) (.c (.p (.s (.bool false)))), none⟩,
  ⟨some 31, .call (.c (.fn (.func 35) [] [])) [.t 30], none⟩]
abbrev r22_5 : List CO := [
  ⟨some 32, .mv (.t 4), none⟩,
  ⟨some 33, .iaddrS 1 (.t 32) (.c (.p (.s (.int .i64 0)))), none⟩,
  ⟨some 34, .load false 1 (.t 33), none⟩,
  ⟨some 35, .toInt .i64 (.t 34), none⟩,
  ⟨some 36, .build ([.s (.int .i64 0), .s (.int .i64 0), .s (.int .i64 0), .s (.int .u8 0), .s (.int .u8 0), .s (.int .u8 0), .s (.int .u8 0), .s (.int .u8 0), .s (.int .u8 0), .s (.int .u8 0), .s (.int .u8 0), .s (.int .u8 0), .s (.int .u8 0), .s (.int .u8 0), .s (.int .u8 0), .s (.int .u8 0), .s (.int .u8 0), .s (.int .u8 0), .s (.int .u8 0), .s (.int .u8 0), .s (.int .u8 0), .s (.int .u8 0), .s (.int .u8 0), .s (.int .u8 0), .s (.int .u8 0), .s (.int .u8 0), .s (.int .u8 0), .s (.int .u8 0), .s (.int .u8 0), .s (.int .u8 0), .s (.int .u8 0), .s (.int .u8 0), .s (.int .u8 0), .s (.int .u8 0), .s (.int .u8 0), .s (.slice none 0 0)]) [(0, 1, .c (.p (.s (.int .i64 1)))), (1, 1, .t 35)], none⟩,
  ⟨none, .store 36 (.t 2) (.t 36), none⟩]
abbrev r22_6 : List CO := [
  ⟨some 38, .mv (.t 3), none⟩,
  ⟨some 39, .bin .eql (.t 38) (.c (.p (.s (.int .i64 3)))), none⟩,
  ⟨some 37, .mv (.t 39), none⟩]
abbrev r22_7 : List CO := [
  ⟨some 41, .mv (.t 4), none⟩,
  ⟨some 42, .call (.c (.fn (.func 36) [] [])) [.t 41], none⟩,
  ⟨some 40, .mv (.t 42), none⟩,
  ⟨some 43, .extract 0 (.t 40), none⟩,
  ⟨some 44, .extract 1 (.t 40), none⟩,
  ⟨some 5, .mv (.t 43), none⟩,
  ⟨some 6, .mv (.t 44), none⟩]
abbrev r22_8 : List CO := [
  ⟨some 45, .mv (.t 6), none⟩,
  ⟨some 46, .bin .eql (.t 45) (.c (.p (.s (.int .i64 0)))), none⟩,
  ⟨some 47, .mv (.t 46), none⟩,
  ⟨some 48, .mv (.t 5), some (47, true)⟩,
  ⟨some 49, .len (.t 48), some (47, true)⟩,
  ⟨some 50, .bin .leq (.t 49) (.c (.p (.s (.int .i64 170)))), some (47, true)⟩,
  ⟨some 51, .pick (.t 47) (.t 50) (.c (.p (.s (.bool false)))), none⟩,
  ⟨some 52, .call (.c (.fn (.func 35) [] [])) [.t 51], none⟩]
abbrev r22_9 : List CO := [
  ⟨some 53, .mv (.t 5), none⟩,
  ⟨some 54, .build ([.s (.int .i64 0), .s (.int .i64 0), .s (.int .i64 0), .s (.int .u8 0), .s (.int .u8 0), .s (.int .u8 0), .s (.int .u8 0), .s (.int .u8 0), .s (.int .u8 0), .s (.int .u8 0), .s (.int .u8 0), .s (.int .u8 0), .s (.int .u8 0), .s (.int .u8 0), .s (.int .u8 0), .s (.int .u8 0), .s (.int .u8 0), .s (.int .u8 0), .s (.int .u8 0), .s (.int .u8 0), .s (.int .u8 0), .s (.int .u8 0), .s (.int .u8 0), .s (.int .u8 0), .s (.int .u8 0), .s (.int .u8 0), .s (.int .u8 0), .s (.int .u8 0), .s (.int .u8 0), .s (.int .u8 0), .s (.int .u8 0), .s (.int .u8 0), .s (.int .u8 0), .s (.int .u8 0), .s (.int .u8 0), .s (.slice none 0 0)]) [(0, 1, .c (.p (.s (.int .i64 3)))), (35, 1, .t 53)], none⟩,
  ⟨none, .store 36 (.t 2) (.t 54), none⟩]
abbrev k22_0 : CC := .seq (.reg r22_3) (.cond (.t 19) (.seq (.reg r22_4) (.rest [2, 4] (.seq (.reg r22_5) (.rest [2] (.ret))))) (.seq (.reg r22_6) (.cond (.t 37) (.seq (.reg r22_7) (.rest [2, 5, 6] (.seq (.reg r22_8) (.rest [2, 5] (.seq (.reg r22_9) (.ret)))))) (.skip))))
abbrev r22_10 : List CO := [
  ⟨some 55, .mv (.t 3), none⟩,
  ⟨some 56, .bin .geq (.t 55) (.c (.p (.s (.int .i64 251)))), none⟩,
  ⟨some 57, .mv (.t 56), none⟩,
  ⟨some 58, .mv (.t 3), some (57, true)⟩,
  ⟨some 59, .bin .leq (.t 58) (.c (.p (.s (.int .i64 254)))), some (57, true)⟩,
  ⟨some 60, .pick (.t 57) (.t 59) (.c (.p (.s (.bool false)))), none⟩,
  ⟨some 61, .mv (.t 60), none⟩,
  ⟨some 62, .mv (.t 4), some (61, true)⟩,
  ⟨some 63, .len (.t 62), some (61, true)⟩,
  ⟨some 64, .bin .gtr (.t 63) (.c (.p (.s (.int .i64 0)))), some (61, true)⟩,
  ⟨some 65, .pick (.t 61) (.t 64) (.c (.p (.s (.bool false)))), none⟩,
  ⟨some 66, .mv (.t 65), none⟩,
  ⟨some 67, .mv (.t 4), some (66, true)⟩,
  ⟨some 68, .iaddrS 1 (.t 67) (.c (.p (.s (.int .i64 0)))), some (66, true)⟩,
  ⟨some 69, .load false 1 (.t 68), some (66, true)⟩,
  ⟨some 70, .bin .eql (.t 69) (.c (.p (.s (.int .u8 2)))), some (66, true)⟩,
  ⟨some 71, .pick (.t 66) (.t 70) (.c (.p (.s (.bool false)))), none⟩,
  ⟨some 72, .call (.c (.fn (.func 35) [] [])) [.t 71], none⟩]
abbrev r22_11 : List CO := [
  ⟨some 74, .mv (.t 4), none⟩,
  ⟨some 75, .slice 1 (.t 74) (some (.c (.p (.s (.int .i64 1))))) none, none⟩,
  ⟨some 76, .call (.c (.fn (.func 37) [] [])) [.t 75], none⟩,
  ⟨some 73, .mv (.t 76), none⟩,
  ⟨some 77, .extract 0 (.t 73), none⟩,
  ⟨some 78, .extract 1 (.t 73), none⟩,
  ⟨some 7, .alloc (List.replicate 32 (.s (.int .u8 0))), none⟩,
  ⟨none, .store 32 (.t 7) (.t 77), none⟩,
  ⟨some 8, .mv (.t 78), none⟩]
abbrev r22_12 : List CO := [
  ⟨some 79, .mv (.t 8), none⟩,
  ⟨some 80, .bin .eql (.t 79) (.c (.p (.s (.int .i64 0)))), none⟩,
  ⟨some 81, .mv (.t 80), none⟩,
  ⟨some 82, .mv (.t 3), some (81, true)⟩,
  ⟨some 83, .bin .eql (.t 82) (.c (.p (.s (.int .i64 253)))), some (81, true)⟩,
  ⟨some 84, .mv (.t 83), some (81, true)⟩,
  ⟨some 85, .mv (.t 4), some (84, false)⟩,
  ⟨some 86, .len (.t 85), some (84, false)⟩,
  ⟨some 87, .bin .eql (.t 86) (.c (.p (.s (.int .i64 1)))), some (84, false)⟩,
  ⟨some 88, .pick (.t 84) (.c (.p (.s (.bool true)))) (.t 87), some (81, true)⟩,
  ⟨some 89, .pick (.t 81) (.t 88) (.c (.p (.s (.bool false)))), none⟩,
  ⟨some 90, .call (.c (.fn (.func 35) [] [])) [.t 89], none⟩]
abbrev r22_13 : List CO := [
  ⟨some 91, .mv (.t 3), none⟩,
  ⟨some 92, .load true 32 (.t 7), none⟩,
  ⟨some 93, .build ([.s (.int .i64 0), .s (.int .i64 0), .s (.int .i64 0), .s (.int .u8 0), .s (.int .u8 0), .s (.int .u8 0), .s (.int .u8 0), .s (.int .u8 0), .s (.int .u8 0), .s (.int .u8 0), .s (.int .u8 0), .s (.int .u8 0), .s (.int .u8 0), .s (.int .u8 0), .s (.int .u8 0), .s (.int .u8 0), .s (.int .u8 0), .s (.int .u8 0), .s (.int .u8 0), .s (.int .u8 0), .s (.int .u8 0), .s (.int .u8 0), .s (.int .u8 0), .s (.int .u8 0), .s (.int .u8 0), .s (.int .u8 0), .s (.int .u8 0), .s (.int .u8 0), .s (.int .u8 0), .s (.int .u8 0), .s (.int .u8 0), .s (.int .u8 0), .s (.int .u8 0), .s (.int .u8 0), .s (.int .u8 0), .s (.slice none 0 0)]) [(0, 1, .c (.p (.s (.int .i64 2)))), (2, 1, .t 91), (3, 32, .t 92)], none⟩,
  ⟨none, .store 36 (.t 2) (.t 93), none⟩]
abbrev c22 : CC := .seq (.reg r22_0) (.seq (.reg r22_1) (.rest [0, 2] (.seq (.regd r22_2 b22_2) (.rest [2, 3, 4] (.seq (.block 0 k22_0) (.rest [2, 3, 4] (.seq (.reg r22_10) (.rest [2, 3, 4] (.seq (.reg r22_11) (.rest [2, 3, 4, 7, 8] (.seq (.reg r22_12) (.rest [2, 3, 7] (.seq (.reg r22_13) (.rest [2] (.ret)))))))))))))))
theorem F22 : Fun Tryd.prog 22 94 c22 [.cell 2 true 36] 1 := ⟨⟨Tryd.f22, _, Tryd.func22, rfl, by kernel_rfl, Tryd.ntmps22, by kernel_rfl, by kernel_rfl⟩, by decide⟩

/-- linnet/linnetref10.Get -/
abbrev r23_0 : List CO := [
  ⟨some 2, .alloc (List.replicate 32 (.s (.int .u8 0))), none⟩,
  ⟨some 3, .mv (.c (.p (.s (.bool false)))), none⟩]
abbrev r23_1 : List CO := [
  ⟨some 6, .build (List.replicate 32 (.s (.int .u8 0))) [], none⟩,
  ⟨some 4, .alloc (List.replicate 32 (.s (.int .u8 0))), none⟩,
  ⟨none, .store 32 (.t 4) (.t 6), none⟩]
abbrev r23_2 : List CO := [
  ⟨some 7, .mv (.t 0), none⟩,
  ⟨some 8, .len (.t 7), none⟩,
  ⟨some 9, .bin .gtr (.t 8) (.c (.p (.s (.int .i64 32)))), none⟩]
abbrev r23_3 : List CO := [
  ⟨some 10, .load true 32 (.t 4), none⟩,
  ⟨none, .store 32 (.t 2) (.t 10), none⟩,
  ⟨some 3, .mv (.c (.p (.s (.bool false)))), none⟩]
abbrev r23_4 : List CO := [
  ⟨some 5, .mv (.c (.p (.s (.int .i64 0)))), none⟩]
abbrev r23_5 : List CO := [
  ⟨some 11, .mv (.t 5), none⟩,
  ⟨some 12, .mv (.t 0), none⟩,
  ⟨some 13, .len (.t 12), none⟩,
  ⟨some 14, .bin .lss (.t 11) (.t 13), none⟩]
abbrev r23_7 : List CO := [
  ⟨some 17, .mv (.t 5), none⟩,
  ⟨some 18, .mv (.t 0), none⟩,
  ⟨some 19, .mv (.t 5), none⟩,
  ⟨some 20, .iaddrS 1 (.t 18) (.t 19), none⟩,
  ⟨some 21, .load false 1 (.t 20), none⟩,
  ⟨some 22, .iaddrA 1 32 (.t 4) (.t 17), none⟩,
  ⟨none, .store 1 (.t 22) (.t 21), none⟩]
abbrev k23_1 : CC := .reg r23_7
abbrev r23_6 : List CO := [
  ⟨some 15, .mv (.t 5), none⟩,
  ⟨some 16, .bin .add (.t 15) (.c (.p (.s (.int .i64 1)))), none⟩,
  ⟨some 5, .mv (.t 16), none⟩]
abbrev l23_9 : CC := .seq (.seq (.reg r23_5) (.rest [0, 2, 4, 5, 14] (.cond (.t 14) (.skip) (.exit 0)))) (.rest [0, 2, 4, 5] (.seq (.block 1 k23_1) (.rest [0, 2, 4, 5] (.reg r23_6))))
abbrev k23_0 : CC := .loop l23_9
abbrev r23_8 : List CO := [
  ⟨some 23, .load true 32 (.t 4), none⟩,
  ⟨none, .store 32 (.t 2) (.t 23), none⟩,
  ⟨some 3, .mv (.c (.p (.s (.bool true)))), none⟩]
abbrev c23 : CC := .seq (.reg r23_0) (.seq (.reg r23_1) (.seq (.seq (.reg r23_2) (.cond (.t 9) (.seq (.reg r23_3) (.ret)) (.skip))) (.rest [0, 2, 4] (.seq (.seq (.reg r23_4) (.block 0 k23_0)) (.rest [2, 4] (.seq (.reg r23_8) (.ret)))))))
theorem F23 : Fun Tryd.prog 23 24 c23 [.cell 2 true 32, .tmp 3] 1 := ⟨⟨Tryd.f23, _, Tryd.func23, rfl, by kernel_rfl, Tryd.ntmps23, by kernel_rfl, by kernel_rfl⟩, by decide⟩

/-- linnet/linnetref07.Get -/
abbrev r24_0 : List CO := [
  ⟨some 2, .mv (.c (.p (.s (.slice none 0 0)))), none⟩,
  ⟨some 3, .mv (.c (.p (.s (.bool false)))), none⟩]
abbrev r24_1 : List CO := [
  ⟨some 4, .mv (.c (.p (.s (.slice none 0 0)))), none⟩]
abbrev r24_2 : List CO := [
  ⟨some 5, .mv (.c (.p (.s (.int .i64 0)))), none⟩]
abbrev r24_3 : List CO := [
  ⟨some 7, .mv (.t 5), none⟩,
  ⟨some 8, .mv (.t 0), none⟩,
  ⟨some 9, .len (.t 8), none⟩,
  ⟨some 10, .bin .lss (.t 7) (.t 9), none⟩]
abbrev r24_5 : List CO := [
  ⟨some 13, .mv (.t 5), none⟩,
  ⟨some 14, .bin .add (.t 13) (.c (.p (.s (.int .i64 3)))), none⟩,
  ⟨some 15, .mv (.t 0), none⟩,
  ⟨some 16, .len (.t 15), none⟩,
  ⟨some 17, .bin .gtr (.t 14) (.t 16), none⟩]
abbrev r24_6 : List CO := [
  ⟨some 2, .mv (.c (.p (.s (.slice none 0 0)))), none⟩,
  ⟨some 3, .mv (.c (.p (.s (.bool false)))), none⟩]
abbrev r24_7 : List CO := [
  ⟨some 18, .mv (.t 0), none⟩,
  ⟨some 19, .mv (.t 5), none⟩,
  ⟨some 20, .bin .add (.t 19) (.c (.p (.s (.int .i64 1)))), none⟩,
  ⟨some 21, .iaddrS 1 (.t 18) (.t 20), none⟩,
  ⟨some 22, .load false 1 (.t 21), none⟩,
  ⟨some 23, .toInt .i64 (.t 22), none⟩,
  ⟨some 6, .mv (.t 23), none⟩]
abbrev r24_8 : List CO := [
  ⟨some 24, .mv (.t 6), none⟩,
  ⟨some 25, .bin .quo (.t 24) (.c (.p (.s (.int .i64 4)))), none⟩,
  ⟨some 26, .bin .rem (.t 25) (.c (.p (.s (.int .i64 8)))), none⟩,
  ⟨some 27, .bin .neq (.t 26) (.c (.p (.s (.int .i64 0)))), none⟩]
abbrev r24_9 : List CO := [
  ⟨some 2, .mv (.c (.p (.s (.slice none 0 0)))), none⟩,
  ⟨some 3, .mv (.c (.p (.s (.bool false)))), none⟩]
abbrev r24_10 : List CO := [
  ⟨some 28, .mv (.t 4), none⟩,
  ⟨some 29, .mv (.t 0), none⟩,
  ⟨some 30, .mv (.t 5), none⟩,
  ⟨some 31, .iaddrS 1 (.t 29) (.t 30), none⟩,
  ⟨some 32, .load false 1 (.t 31), none⟩,
  ⟨some 33, .toInt .i64 (.t 32), none⟩,
  ⟨some 34, .mv (.t 6), none⟩,
  ⟨some 35, .bin .rem (.t 34) (.c (.p (.s (.int .i64 4)))), none⟩,
  ⟨some 36, .mv (.t 6), none⟩,
  ⟨some 37, .bin .quo (.t 36) (.c (.p (.s (.int .i64 128)))), none⟩,
  ⟨some 38, .bin .eql (.t 37) (.c (.p (.s (.int .i64 1)))), none⟩,
  ⟨some 39, .mv (.t 6), none⟩,
  ⟨some 40, .bin .quo (.t 39) (.c (.p (.s (.int .i64 64)))), none⟩,
  ⟨some 41, .bin .rem (.t 40) (.c (.p (.s (.int .i64 2)))), none⟩,
  ⟨some 42, .bin .eql (.t 41) (.c (.p (.s (.int .i64 1)))), none⟩,
  ⟨some 43, .mv (.t 6), none⟩,
  ⟨some 44, .bin .quo (.t 43) (.c (.p (.s (.int .i64 32)))), none⟩,
  ⟨some 45, .bin .rem (.t 44) (.c (.p (.s (.int .i64 2)))), none⟩,
  ⟨some 46, .bin .eql (.t 45) (.c (.p (.s (.int .i64 1)))), none⟩,
  ⟨some 47, .mv (.t 0), none⟩,
  ⟨some 48, .mv (.t 5), none⟩,
  ⟨some 49, .bin .add (.t 48) (.c (.p (.s (.int .i64 2)))), none⟩,
  ⟨some 50, .iaddrS 1 (.t 47) (.t 49), none⟩,
  ⟨some 51, .load false 1 (.t 50), none⟩,
  ⟨some 52, .build ([.s (.int .i64 0), .s (.int .i64 0), .s (.bool false), .s (.bool false), .s (.bool false), .s (.int .u8 0)]) [(0, 1, .t 33), (1, 1, .t 35), (2, 1, .t 38), (3, 1, .t 42), (4, 1, .t 46), (5, 1, .t 51)], none⟩,
  ⟨some 53, .bslice 6 1 ([.s (.int .i64 0), .s (.int .i64 0), .s (.bool false), .s (.bool false), .s (.bool false), .s (.int .u8 0)]) [(0, .t 52)], none⟩,
  ⟨some 54, .append 6 24 ([.s (.int .i64 0), .s (.int .i64 0), .s (.bool false), .s (.bool false), .s (.bool false), .s (.int .u8 0)]) (.t 28) (.t 53), none⟩,
  ⟨some 4, .mv (.t 54), none⟩]
abbrev b24_10 : List (List Nat) := [[], [], [], [1, 2], [3], [4], [], [6], [], [8], [9], [], [11], [12], [13], [], [15], [16], [17], [], [], [20], [19, 21], [22], [5, 7, 10, 14, 18, 23], [24], [0, 25], [26, 26, 0, 1, 2, 3, 4, 5, 6, 7, 8, 9, 10, 11, 12, 13, 14, 15, 16, 17, 18, 19, 20, 21, 22, 23, 24, 25, 26]]
abbrev k24_1 : CC := .seq (.seq (.reg r24_5) (.rest [0, 4, 5, 17] (.cond (.t 17) (.seq (.reg r24_6) (.ret)) (.skip)))) (.rest [0, 4, 5] (.seq (.reg r24_7) (.rest [0, 4, 5, 6] (.seq (.seq (.reg r24_8) (.rest [0, 4, 5, 6, 27] (.cond (.t 27) (.seq (.reg r24_9) (.ret)) (.skip)))) (.rest [0, 4, 5, 6] (.regd r24_10 b24_10))))))
abbrev r24_4 : List CO := [
  ⟨some 11, .mv (.t 5), none⟩,
  ⟨some 12, .bin .add (.t 11) (.c (.p (.s (.int .i64 3)))), none⟩,
  ⟨some 5, .mv (.t 12), none⟩]
abbrev l24_13 : CC := .seq (.seq (.reg r24_3) (.rest [0, 4, 5, 10] (.cond (.t 10) (.skip) (.exit 0)))) (.rest [0, 4, 5] (.seq (.block 1 k24_1) (.rest [0, 4, 5] (.reg r24_4))))
abbrev k24_0 : CC := .loop l24_13
abbrev r24_11 : List CO := [
  ⟨some 55, .mv (.t 4), none⟩,
  ⟨some 2, .mv (.t 55), none⟩,
  ⟨some 3, .mv (.c (.p (.s (.bool true)))), none⟩]
abbrev c24 : CC := .seq (.reg r24_0) (.seq (.reg r24_1) (.seq (.seq (.reg r24_2) (.block 0 k24_0)) (.rest [4] (.seq (.reg r24_11) (.ret)))))
theorem F24 : Fun Tryd.prog 24 56 c24 [.tmp 2, .tmp 3] 1 := ⟨⟨Tryd.f24, _, Tryd.func24, rfl, by kernel_rfl, Tryd.ntmps24, by kernel_rfl, by kernel_rfl⟩, by decide⟩

/-- linnet/subopt.parts -/
abbrev r25_0 : List CO := [
  ⟨some 1, .box (.t 0), none⟩,
  ⟨some 2, .alloc ([.s (.int .i64 0), .s (.int .i64 0), .s (.int .i64 0), .s (.int .u8 0), .s (.int .u8 0), .s (.int .u8 0), .s (.int .u8 0), .s (.int .u8 0), .s (.int .u8 0), .s (.int .u8 0), .s (.int .u8 0), .s (.int .u8 0), .s (.int .u8 0), .s (.int .u8 0), .s (.int .u8 0), .s (.int .u8 0), .s (.int .u8 0), .s (.int .u8 0), .s (.int .u8 0), .s (.int .u8 0), .s (.int .u8 0), .s (.int .u8 0), .s (.int .u8 0), .s (.int .u8 0), .s (.int .u8 0), .s (.int .u8 0), .s (.int .u8 0), .s (.int .u8 0), .s (.int .u8 0), .s (.int .u8 0), .s (.int .u8 0), .s (.int .u8 0), .s (.int .u8 0), .s (.int .u8 0), .s (.int .u8 0), .s (.slice none 0 0)]), none⟩]
abbrev r25_1 : List CO := [
  ⟨some 4, .faddr 0 (.t 1), none⟩,
  ⟨some 5, .load false 1 (.t 4), none⟩,
  ⟨some 6, .build ([.s (.int .i64 0), .s (.int .i64 0), .s (.int .i64 0), .s (.int .u8 0), .s (.int .u8 0), .s (.int .u8 0), .s (.int .u8 0), .s (.int .u8 0), .s (.int .u8 0), .s (.int .u8 0), .s (.int .u8 0), .s (.int .u8 0), .s (.int .u8 0), .s (.int .u8 0), .s (.int .u8 0), .s (.int .u8 0), .s (.int .u8 0), .s (.int .u8 0), .s (.int .u8 0), .s (.int .u8 0), .s (.int .u8 0), .s (.int .u8 0), .s (.int .u8 0), .s (.int .u8 0), .s (.int .u8 0), .s (.int .u8 0), .s (.int .u8 0), .s (.int .u8 0), .s (.int .u8 0), .s (.int .u8 0), .s (.int .u8 0), .s (.int .u8 0), .s (.int .u8 0), .s (.int .u8 0), .s (.int .u8 0), .s (.slice none 0 0)]) [(0, 1, .t 5)], none⟩,
  ⟨some 3, .alloc ([.s (.int .i64 0), .s (.int .i64 0), .s (.int .i64 0), .s (.int .u8 0), .s (.int .u8 0), .s (.int .u8 0), .s (.int .u8 0), .s (.int .u8 0), .s (.int .u8 0), .s (.int .u8 0), .s (.int .u8 0), .s (.int .u8 0), .s (.int .u8 0), .s (.int .u8 0), .s (.int .u8 0), .s (.int .u8 0), .s (.int .u8 0), .s (.int .u8 0), .s (.int .u8 0), .s (.int .u8 0), .s (.int .u8 0), .s (.int .u8 0), .s (.int .u8 0), .s (.int .u8 0), .s (.int .u8 0), .s (.int .u8 0), .s (.int .u8 0), .s (.int .u8 0), .s (.int .u8 0), .s (.int .u8 0), .s (.int .u8 0), .s (.int .u8 0), .s (.int .u8 0), .s (.int .u8 0), .s (.int .u8 0), .s (.slice none 0 0)]), none⟩,
  ⟨none, .store 36 (.t 3) (.t 6), none⟩]
abbrev r25_2 : List CO := [
  ⟨some 7, .faddr 0 (.t 1), none⟩,
  ⟨some 8, .load false 1 (.t 7), none⟩]
abbrev r25_3 : List CO := [
  ⟨some 10, .bin .eql (.t 8) (.c (.p (.s (.int .i64 1)))), none⟩,
  ⟨some 9, .mv (.t 10), none⟩]
abbrev r25_4 : List CO := [
  ⟨some 11, .faddr 1 (.t 1), none⟩,
  ⟨some 12, .load false 1 (.t 11), none⟩,
  ⟨some 13, .faddr 1 (.t 3), none⟩,
  ⟨none, .store 1 (.t 13) (.t 12), none⟩]
abbrev r25_5 : List CO := [
  ⟨some 15, .bin .eql (.t 8) (.c (.p (.s (.int .i64 2)))), none⟩,
  ⟨some 14, .mv (.t 15), none⟩]
abbrev r25_6 : List CO := [
  ⟨some 16, .faddr 2 (.t 1), none⟩,
  ⟨some 17, .load false 1 (.t 16), none⟩,
  ⟨some 18, .faddr 2 (.t 3), none⟩,
  ⟨none, .store 1 (.t 18) (.t 17), none⟩]
abbrev r25_7 : List CO := [
  ⟨some 19, .faddr 2 (.t 1), none⟩,
  ⟨some 20, .load false 1 (.t 19), none⟩,
  ⟨some 21, .bin .eql (.t 20) (.c (.p (.s (.int .i64 253)))), none⟩]
abbrev r25_8 : List CO := [
  ⟨some 22, .faddr 3 (.t 1), none⟩,
  ⟨some 23, .load true 32 (.t 22), none⟩,
  ⟨some 24, .faddr 3 (.t 3), none⟩,
  ⟨none, .store 32 (.t 24) (.t 23), none⟩]
abbrev r25_9 : List CO := [
  ⟨some 26, .bin .eql (.t 8) (.c (.p (.s (.int .i64 3)))), none⟩,
  ⟨some 25, .mv (.t 26), none⟩]
abbrev r25_10 : List CO := [
  ⟨some 27, .faddr 35 (.t 1), none⟩,
  ⟨some 28, .load false 1 (.t 27), none⟩,
  ⟨some 29, .faddr 35 (.t 3), none⟩,
  ⟨none, .store 1 (.t 29) (.t 28), none⟩]
abbrev k25_0 : CC := .seq (.reg r25_3) (.cond (.t 9) (.reg r25_4) (.seq (.reg r25_5) (.cond (.t 14) (.seq (.reg r25_6) (.rest [1, 2, 3] (.seq (.reg r25_7) (.cond (.t 21) (.reg r25_8) (.skip))))) (.seq (.reg r25_9) (.cond (.t 25) (.reg r25_10) (.skip))))))
abbrev r25_11 : List CO := [
  ⟨some 30, .load true 36 (.t 3), none⟩,
  ⟨none, .store 36 (.t 2) (.t 30), none⟩]
abbrev c25 : CC := .seq (.reg r25_0) (.seq (.reg r25_1) (.rest [1, 2, 3] (.seq (.seq (.reg r25_2) (.block 0 k25_0)) (.rest [2, 3] (.seq (.reg r25_11) (.ret))))))
theorem F25 : Fun Tryd.prog 25 31 c25 [.cell 2 true 36] 1 := ⟨⟨Tryd.f25, _, Tryd.func25, rfl, by kernel_rfl, Tryd.ntmps25, by kernel_rfl, by kernel_rfl⟩, by decide⟩

/-- linnet/linnetref07.Put -/
abbrev r26_0 : List CO := [
  ⟨some 2, .mv (.c (.p (.s (.slice none 0 0)))), none⟩,
  ⟨some 3, .mv (.c (.p (.s (.bool false)))), none⟩]
abbrev r26_1 : List CO := [
  ⟨some 4, .mv (.c (.p (.s (.slice none 0 0)))), none⟩]
abbrev r26_2 : List CO := [
  ⟨some 5, .mv (.c (.p (.s (.int .i64 0)))), none⟩]
abbrev r26_3 : List CO := [
  ⟨some 8, .mv (.t 5), none⟩,
  ⟨some 9, .mv (.t 0), none⟩,
  ⟨some 10, .len (.t 9), none⟩,
  ⟨some 11, .bin .lss (.t 8) (.t 10), none⟩]
abbrev r26_5 : List CO := [
  ⟨some 14, .mv (.t 0), none⟩,
  ⟨some 15, .mv (.t 5), none⟩,
  ⟨some 16, .iaddrS 6 (.t 14) (.t 15), none⟩,
  ⟨some 17, .load true 6 (.t 16), none⟩,
  ⟨some 6, .alloc ([.s (.int .i64 0), .s (.int .i64 0), .s (.bool false), .s (.bool false), .s (.bool false), .s (.int .u8 0)]), none⟩,
  ⟨none, .store 6 (.t 6) (.t 17), none⟩]
abbrev r26_6 : List CO := [
  ⟨some 18, .load true 6 (.t 6), none⟩,
  ⟨some 19, .call (.c (.fn (.func 38) [] [])) [.t 18], none⟩,
  ⟨some 20, .un .not (.t 19), none⟩]
abbrev r26_7 : List CO := [
  ⟨some 2, .mv (.c (.p (.s (.slice none 0 0)))), none⟩,
  ⟨some 3, .mv (.c (.p (.s (.bool false)))), none⟩]
abbrev r26_8 : List CO := [
  ⟨some 21, .faddr 1 (.t 6), none⟩,
  ⟨some 22, .load false 1 (.t 21), none⟩,
  ⟨some 7, .mv (.t 22), none⟩]
abbrev r26_9 : List CO := [
  ⟨some 23, .faddr 2 (.t 6), none⟩,
  ⟨some 24, .load false 1 (.t 23), none⟩]
abbrev r26_10 : List CO := [
  ⟨some 25, .mv (.t 7), none⟩,
  ⟨some 26, .bin .add (.t 25) (.c (.p (.s (.int .i64 128)))), none⟩,
  ⟨some 7, .mv (.t 26), none⟩]
abbrev r26_11 : List CO := [
  ⟨some 27, .faddr 3 (.t 6), none⟩,
  ⟨some 28, .load false 1 (.t 27), none⟩]
abbrev r26_12 : List CO := [
  ⟨some 29, .mv (.t 7), none⟩,
  ⟨some 30, .bin .add (.t 29) (.c (.p (.s (.int .i64 64)))), none⟩,
  ⟨some 7, .mv (.t 30), none⟩]
abbrev r26_13 : List CO := [
  ⟨some 31, .faddr 4 (.t 6), none⟩,
  ⟨some 32, .load false 1 (.t 31), none⟩]
abbrev r26_14 : List CO := [
  ⟨some 33, .mv (.t 7), none⟩,
  ⟨some 34, .bin .add (.t 33) (.c (.p (.s (.int .i64 32)))), none⟩,
  ⟨some 7, .mv (.t 34), none⟩]
abbrev r26_15 : List CO := [
  ⟨some 35, .mv (.t 4), none⟩,
  ⟨some 36, .faddr 0 (.t 6), none⟩,
  ⟨some 37, .load false 1 (.t 36), none⟩,
  ⟨some 38, .toInt .u8 (.t 37), none⟩,
  ⟨some 39, .mv (.t 7), none⟩,
  ⟨some 40, .toInt .u8 (.t 39), none⟩,
  ⟨some 41, .faddr 5 (.t 6), none⟩,
  ⟨some 42, .load false 1 (.t 41), none⟩,
  ⟨some 43, .bslice 1 3 ([.s (.int .u8 0)]) [(0, .t 38), (1, .t 40), (2, .t 42)], none⟩,
  ⟨some 44, .append 1 1 ([.s (.int .u8 0)]) (.t 35) (.t 43), none⟩,
  ⟨some 4, .mv (.t 44), none⟩]
abbrev k26_1 : CC := .seq (.reg r26_5) (.rest [0, 4, 5, 6] (.seq (.seq (.reg r26_6) (.cond (.t 20) (.seq (.reg r26_7) (.ret)) (.skip))) (.rest [0, 4, 5, 6] (.seq (.reg r26_8) (.seq (.seq (.reg r26_9) (.cond (.t 24) (.reg r26_10) (.skip))) (.rest [0, 4, 5, 6, 7] (.seq (.seq (.reg r26_11) (.cond (.t 28) (.reg r26_12) (.skip))) (.rest [0, 4, 5, 6, 7] (.seq (.seq (.reg r26_13) (.cond (.t 32) (.reg r26_14) (.skip))) (.rest [0, 4, 5, 6, 7] (.reg r26_15)))))))))))
abbrev r26_4 : List CO := [
  ⟨some 12, .mv (.t 5), none⟩,
  ⟨some 13, .bin .add (.t 12) (.c (.p (.s (.int .i64 1)))), none⟩,
  ⟨some 5, .mv (.t 13), none⟩]
abbrev l26_17 : CC := .seq (.seq (.reg r26_3) (.rest [0, 4, 5, 11] (.cond (.t 11) (.skip) (.exit 0)))) (.rest [0, 4, 5] (.seq (.block 1 k26_1) (.rest [0, 4, 5] (.reg r26_4))))
abbrev k26_0 : CC := .loop l26_17
abbrev r26_16 : List CO := [
  ⟨some 45, .mv (.t 4), none⟩,
  ⟨some 2, .mv (.t 45), none⟩,
  ⟨some 3, .mv (.c (.p (.s (.bool true)))), none⟩]
abbrev c26 : CC := .seq (.reg r26_0) (.seq (.reg r26_1) (.seq (.seq (.reg r26_2) (.block 0 k26_0)) (.rest [4] (.seq (.reg r26_16) (.ret)))))
theorem F26 : Fun Tryd.prog 26 46 c26 [.tmp 2, .tmp 3] 1 := ⟨⟨Tryd.f26, _, Tryd.func26, rfl, by kernel_rfl, Tryd.ntmps26, by kernel_rfl, by kernel_rfl⟩, by decide⟩

/-- slices.Equal[[]linnet/api.Triple,linnet/api.Triple] -/
abbrev r27_0 : List CO := [
  ⟨some 4, .mv (.c (.p (.s (.bool false)))), none⟩]
abbrev r27_1 : List CO := [
  ⟨some 6, .mv (.t 0), none⟩,
  ⟨some 7, .len (.t 6), none⟩,
  ⟨some 8, .mv (.t 1), none⟩,
  ⟨some 9, .len (.t 8), none⟩,
  ⟨some 10, .bin .neq (.t 7) (.t 9), none⟩]
abbrev r27_2 : List CO := [
  ⟨some 4, .mv (.c (.p (.s (.bool false)))), none⟩]
abbrev r27_3 : List CO := [
  ⟨some 11, .mv (.t 0), none⟩,
  ⟨some 12, .len (.t 11), none⟩,
  ⟨some 13, .mv (.c (.p (.s (.int .i64 0)))), none⟩]
abbrev r27_4 : List CO := [
  ⟨some 14, .bin .lss (.t 13) (.t 12), none⟩]
abbrev r27_5 : List CO := [
  ⟨some 15, .mv (.t 13), none⟩,
  ⟨some 5, .mv (.t 15), none⟩]
abbrev r27_6 : List CO := [
  ⟨some 16, .mv (.t 0), none⟩,
  ⟨some 17, .mv (.t 5), none⟩,
  ⟨some 18, .iaddrS 6 (.t 16) (.t 17), none⟩,
  ⟨some 19, .load true 6 (.t 18), none⟩,
  ⟨some 20, .mv (.t 1), none⟩,
  ⟨some 21, .mv (.t 5), none⟩,
  ⟨some 22, .iaddrS 6 (.t 20) (.t 21), none⟩,
  ⟨some 23, .load true 6 (.t 22), none⟩,
  ⟨some 24, .eqs true [0, 0, 1, 1, 1, 0] (.t 19) (.t 23), none⟩]
abbrev b27_6 : List (List Nat) := [[], [], [0, 1], [2], [], [], [4, 5], [6], [3, 7]]
abbrev r27_7 : List CO := [
  ⟨some 4, .mv (.c (.p (.s (.bool false)))), none⟩]
abbrev k27_1 : CC := .seq (.reg r27_5) (.seq (.regd r27_6 b27_6) (.rest [0, 1, 12, 13, 24] (.cond (.t 24) (.seq (.reg r27_7) (.ret)) (.skip))))
abbrev r27_8 : List CO := [
  ⟨some 25, .bin .add (.t 13) (.c (.p (.s (.int .i64 1)))), none⟩,
  ⟨some 13, .mv (.t 25), none⟩]
abbrev l27_11 : CC := .seq (.reg r27_4) (.seq (.cond (.t 14) (.skip) (.exit 0)) (.seq (.block 1 k27_1) (.rest [0, 1, 12, 13] (.reg r27_8))))
abbrev k27_0 : CC := .loop l27_11
abbrev r27_9 : List CO := [
  ⟨some 4, .mv (.c (.p (.s (.bool true)))), none⟩]
abbrev c27 : CC := .seq (.reg r27_0) (.seq (.seq (.reg r27_1) (.rest [0, 1, 10] (.cond (.t 10) (.seq (.reg r27_2) (.ret)) (.skip)))) (.rest [0, 1] (.seq (.seq (.reg r27_3) (.block 0 k27_0)) (.rest [] (.seq (.reg r27_9) (.ret))))))
theorem F27 : Fun Tryd.prog 27 26 c27 [.tmp 4] 2 := ⟨⟨Tryd.f27, _, Tryd.func27, rfl, by kernel_rfl, Tryd.ntmps27, by kernel_rfl, by kernel_rfl⟩, by decide⟩

/-- linnet/linnetref07.Same -/
abbrev r28_0 : List CO := [
  ⟨some 4, .mv (.c (.p (.s (.bool false)))), none⟩]
abbrev r28_1 : List CO := [
  ⟨some 6, .mv (.t 0), none⟩,
  ⟨some 7, .len (.t 6), none⟩,
  ⟨some 8, .mv (.t 1), none⟩,
  ⟨some 9, .len (.t 8), none⟩,
  ⟨some 10, .bin .neq (.t 7) (.t 9), none⟩]
abbrev r28_2 : List CO := [
  ⟨some 4, .mv (.c (.p (.s (.bool false)))), none⟩]
abbrev r28_3 : List CO := [
  ⟨some 5, .mv (.c (.p (.s (.int .i64 0)))), none⟩]
abbrev r28_4 : List CO := [
  ⟨some 11, .mv (.t 5), none⟩,
  ⟨some 12, .mv (.t 0), none⟩,
  ⟨some 13, .len (.t 12), none⟩,
  ⟨some 14, .bin .lss (.t 11) (.t 13), none⟩]
abbrev r28_6 : List CO := [
  ⟨some 17, .mv (.t 0), none⟩,
  ⟨some 18, .mv (.t 5), none⟩,
  ⟨some 19, .iaddrS 6 (.t 17) (.t 18), none⟩,
  ⟨some 20, .load true 6 (.t 19), none⟩,
  ⟨some 21, .mv (.t 1), none⟩,
  ⟨some 22, .mv (.t 5), none⟩,
  ⟨some 23, .iaddrS 6 (.t 21) (.t 22), none⟩,
  ⟨some 24, .load true 6 (.t 23), none⟩,
  ⟨some 25, .eqs true [0, 0, 1, 1, 1, 0] (.t 20) (.t 24), none⟩]
abbrev b28_6 : List (List Nat) := [[], [], [0, 1], [2], [], [], [4, 5], [6], [3, 7]]
abbrev r28_7 : List CO := [
  ⟨some 4, .mv (.c (.p (.s (.bool false)))), none⟩]
abbrev k28_1 : CC := .seq (.regd r28_6 b28_6) (.rest [0, 1, 5, 25] (.cond (.t 25) (.seq (.reg r28_7) (.ret)) (.skip)))
abbrev r28_5 : List CO := [
  ⟨some 15, .mv (.t 5), none⟩,
  ⟨some 16, .bin .add (.t 15) (.c (.p (.s (.int .i64 1)))), none⟩,
  ⟨some 5, .mv (.t 16), none⟩]
abbrev l28_10 : CC := .seq (.seq (.reg r28_4) (.rest [0, 1, 5, 14] (.cond (.t 14) (.skip) (.exit 0)))) (.rest [0, 1, 5] (.seq (.block 1 k28_1) (.rest [0, 1, 5] (.reg r28_5))))
abbrev k28_0 : CC := .loop l28_10
abbrev r28_8 : List CO := [
  ⟨some 4, .mv (.c (.p (.s (.bool true)))), none⟩]
abbrev c28 : CC := .seq (.reg r28_0) (.seq (.seq (.reg r28_1) (.rest [0, 1, 10] (.cond (.t 10) (.seq (.reg r28_2) (.ret)) (.skip)))) (.rest [0, 1] (.seq (.seq (.reg r28_3) (.block 0 k28_0)) (.rest [] (.seq (.reg r28_8) (.ret))))))
theorem F28 : Fun Tryd.prog 28 26 c28 [.tmp 4] 2 := ⟨⟨Tryd.f28, _, Tryd.func28, rfl, by kernel_rfl, Tryd.ntmps28, by kernel_rfl, by kernel_rfl⟩, by decide⟩

/-- linnet/mask.Has -/
abbrev r29_0 : List CO := [
  ⟨some 2, .box (.t 0), none⟩,
  ⟨some 4, .mv (.c (.p (.s (.bool false)))), none⟩]
abbrev r29_1 : List CO := [
  ⟨some 8, .mv (.t 1), none⟩,
  ⟨some 9, .call (.c (.fn (.func 39) [] [])) [.t 8], none⟩,
  ⟨some 7, .mv (.t 9), none⟩,
  ⟨some 10, .extract 0 (.t 7), none⟩,
  ⟨some 11, .extract 1 (.t 7), none⟩,
  ⟨some 5, .mv (.t 10), none⟩,
  ⟨some 6, .mv (.t 11), none⟩]
abbrev r29_2 : List CO := [
  ⟨some 12, .mv (.t 5), none⟩,
  ⟨some 13, .iaddrA 1 32 (.t 2) (.t 12), none⟩,
  ⟨some 14, .load false 1 (.t 13), none⟩,
  ⟨some 15, .mv (.t 6), none⟩,
  ⟨some 16, .bin .and (.t 14) (.t 15), none⟩,
  ⟨some 17, .bin .neq (.t 16) (.c (.p (.s (.int .u8 0)))), none⟩,
  ⟨some 4, .mv (.t 17), none⟩]
abbrev c29 : CC := .seq (.reg r29_0) (.seq (.reg r29_1) (.rest [2, 5, 6] (.seq (.reg r29_2) (.rest [4] (.ret)))))
theorem F29 : Fun Tryd.prog 29 18 c29 [.tmp 4] 2 := ⟨⟨Tryd.f29, _, Tryd.func29, rfl, by kernel_rfl, Tryd.ntmps29, by kernel_rfl, by kernel_rfl⟩, by decide⟩

/-- linnet/linnetref10.Put -/
abbrev r30_0 : List CO := [
  ⟨some 1, .box (.t 0), none⟩,
  ⟨some 2, .mv (.c (.p (.s (.slice none 0 0)))), none⟩]
abbrev r30_1 : List CO := [
  ⟨some 3, .mv (.c (.p (.s (.int .i64 32)))), none⟩]
abbrev r30_2 : List CO := [
  ⟨some 4, .mv (.t 3), none⟩,
  ⟨some 5, .bin .gtr (.t 4) (.c (.p (.s (.int .i64 0)))), none⟩,
  ⟨some 6, .mv (.t 5), none⟩,
  ⟨some 7, .mv (.t 3), some (6, true)⟩,
  ⟨some 8, .bin .sub (.t 7) (.c (.p (.s (.int .i64 1)))), some (6, true)⟩,
  ⟨some 9, .iaddrA 1 32 (.t 1) (.t 8), some (6, true)⟩,
  ⟨some 10, .load false 1 (.t 9), some (6, true)⟩,
  ⟨some 11, .bin .eql (.t 10) (.c (.p (.s (.int .u8 0)))), some (6, true)⟩,
  ⟨some 12, .pick (.t 6) (.t 11) (.c (.p (.s (.bool false)))), none⟩]
abbrev r30_3 : List CO := [
  ⟨some 13, .mv (.t 3), none⟩,
  ⟨some 14, .bin .sub (.t 13) (.c (.p (.s (.int .i64 1)))), none⟩,
  ⟨some 3, .mv (.t 14), none⟩]
abbrev k30_1 : CC := .reg r30_3
abbrev l30_5 : CC := .seq (.seq (.reg r30_2) (.rest [1, 3, 12] (.cond (.t 12) (.skip) (.exit 0)))) (.rest [1, 3] (.block 1 k30_1))
abbrev k30_0 : CC := .loop l30_5
abbrev r30_4 : List CO := [
  ⟨some 15, .bslice 1 0 ([.s (.int .u8 0)]) [], none⟩,
  ⟨some 16, .mv (.t 3), none⟩,
  ⟨some 17, .aslice 1 32 (.t 1) none (some (.t 16)), none⟩,
  ⟨some 18, .append 1 1 ([.s (.int .u8 0)]) (.t 15) (.t 17), none⟩,
  ⟨some 2, .mv (.t 18), none⟩]
abbrev c30 : CC := .seq (.reg r30_0) (.seq (.reg r30_1) (.seq (.block 0 k30_0) (.rest [1, 3] (.seq (.reg r30_4) (.rest [2] (.ret))))))
theorem F30 : Fun Tryd.prog 30 19 c30 [.tmp 2] 1 := ⟨⟨Tryd.f30, _, Tryd.func30, rfl, by kernel_rfl, Tryd.ntmps30, by kernel_rfl, by kernel_rfl⟩, by decide⟩

/-- linnet/slc.Check -/
abbrev r31_0 : List CO := [
  ⟨some 1, .box (.t 0), none⟩,
  ⟨some 2, .mv (.c (.p (.s (.int .i64 0)))), none⟩]
abbrev r31_1 : List CO := [
  ⟨some 3, .faddr 0 (.t 1), none⟩,
  ⟨some 4, .load false 1 (.t 3), none⟩,
  ⟨some 5, .bin .lss (.t 4) (.c (.p (.s (.int .i64 0)))), none⟩,
  ⟨some 6, .mv (.t 5), none⟩,
  ⟨some 7, .faddr 0 (.t 1), some (6, false)⟩,
  ⟨some 8, .load false 1 (.t 7), some (6, false)⟩,
  ⟨some 9, .bin .gtr (.t 8) (.c (.p (.s (.int .i64 255)))), some (6, false)⟩,
  ⟨some 10, .pick (.t 6) (.c (.p (.s (.bool true)))) (.t 9), none⟩,
  ⟨some 11, .mv (.t 10), none⟩,
  ⟨some 12, .faddr 1 (.t 1), some (11, false)⟩,
  ⟨some 13, .load false 1 (.t 12), some (11, false)⟩,
  ⟨some 14, .bin .lss (.t 13) (.c (.p (.s (.int .i64 0)))), some (11, false)⟩,
  ⟨some 15, .pick (.t 11) (.c (.p (.s (.bool true)))) (.t 14), none⟩,
  ⟨some 16, .mv (.t 15), none⟩,
  ⟨some 17, .faddr 1 (.t 1), some (16, false)⟩,
  ⟨some 18, .load false 1 (.t 17), some (16, false)⟩,
  ⟨some 19, .bin .gtr (.t 18) (.c (.p (.s (.int .i64 3)))), some (16, false)⟩,
  ⟨some 20, .pick (.t 16) (.c (.p (.s (.bool true)))) (.t 19), none⟩]
abbrev r31_2 : List CO := [
  ⟨some 2, .mv (.c (.p (.s (.int .i64 1)))), none⟩]
abbrev r31_3 : List CO := [
  ⟨some 2, .mv (.c (.p (.s (.int .i64 0)))), none⟩]
abbrev c31 : CC := .seq (.reg r31_0) (.seq (.seq (.reg r31_1) (.rest [20] (.cond (.t 20) (.seq (.reg r31_2) (.ret)) (.skip)))) (.rest [] (.seq (.reg r31_3) (.ret))))
theorem F31 : Fun Tryd.prog 31 21 c31 [.tmp 2] 1 := ⟨⟨Tryd.f31, _, Tryd.func31, rfl, by kernel_rfl, Tryd.ntmps31, by kernel_rfl, by kernel_rfl⟩, by decide⟩

/-- linnet/slc.mark -/
abbrev r32_0 : List CO := [
  ⟨some 4, .mv (.c (.p (.s (.int .u8 0)))), none⟩]
abbrev r32_1 : List CO := [
  ⟨some 5, .mv (.t 0), none⟩]
abbrev r32_2 : List CO := [
  ⟨some 6, .mv (.t 1), none⟩,
  ⟨some 4, .mv (.t 6), none⟩]
abbrev r32_3 : List CO := [
  ⟨some 4, .mv (.c (.p (.s (.int .u8 0)))), none⟩]
abbrev c32 : CC := .seq (.reg r32_0) (.seq (.seq (.reg r32_1) (.cond (.t 5) (.seq (.reg r32_2) (.ret)) (.skip))) (.seq (.reg r32_3) (.ret)))
theorem F32 : Fun Tryd.prog 32 7 c32 [.tmp 4] 2 := ⟨⟨Tryd.f32, _, Tryd.func32, rfl, by kernel_rfl, Tryd.ntmps32, by kernel_rfl, by kernel_rfl⟩, by decide⟩

/-- bytes.TrimRight -/
abbrev r33_0 : List CO := [
  ⟨some 4, .mv (.c (.p (.s (.slice none 0 0)))), none⟩]
abbrev r33_1 : List CO := [
  ⟨some 7, .mv (.t 0), none⟩,
  ⟨some 8, .len (.t 7), none⟩,
  ⟨some 9, .bin .eql (.t 8) (.c (.p (.s (.int .i64 0)))), none⟩,
  ⟨some 10, .mv (.t 9), none⟩,
  ⟨some 11, .mv (.t 1), some (10, false)⟩,
  ⟨some 12, .bin .eql (.t 11) (.c (.p (.s (.string { data := #[] })))), some (10, false)⟩,
  ⟨some 13, .pick (.t 10) (.c (.p (.s (.bool true)))) (.t 12), none⟩]
abbrev r33_2 : List CO := [
  ⟨some 14, .mv (.t 0), none⟩,
  ⟨some 4, .mv (.t 14), none⟩]
abbrev r33_3 : List CO := [
  ⟨some 15, .mv (.t 1), none⟩,
  ⟨some 16, .slen (.t 15), none⟩,
  ⟨some 17, .bin .eql (.t 16) (.c (.p (.s (.int .i64 1)))), none⟩,
  ⟨some 18, .mv (.t 17), none⟩,
  ⟨some 19, .mv (.t 1), some (18, true)⟩,
  ⟨some 20, .sindex (.t 19) (.c (.p (.s (.int .i64 0)))), some (18, true)⟩,
  ⟨some 21, .bin .lss (.t 20) (.c (.p (.s (.int .u8 128)))), some (18, true)⟩,
  ⟨some 22, .pick (.t 18) (.t 21) (.c (.p (.s (.bool false)))), none⟩]
abbrev r33_4 : List CO := [
  ⟨some 23, .mv (.t 0), none⟩,
  ⟨some 24, .mv (.t 1), none⟩,
  ⟨some 25, .sindex (.t 24) (.c (.p (.s (.int .i64 0)))), none⟩,
  ⟨some 26, .call (.c (.fn (.func 40) [] [])) [.t 23, .t 25], none⟩,
  ⟨some 4, .mv (.t 26), none⟩]
abbrev r33_5 : List CO := [
  ⟨some 28, .mv (.t 1), none⟩,
  ⟨some 29, .call (.c (.fn (.func 41) [] [])) [.t 28], none⟩,
  ⟨some 27, .mv (.t 29), none⟩,
  ⟨some 30, .extract 0 (.t 27), none⟩,
  ⟨some 31, .extract 1 (.t 27), none⟩,
  ⟨some 5, .alloc (List.replicate 256 (.s (.bool false))), none⟩,
  ⟨none, .store 256 (.t 5) (.t 30), none⟩,
  ⟨some 6, .mv (.t 31), none⟩]
abbrev r33_6 : List CO := [
  ⟨some 32, .mv (.t 6), none⟩]
abbrev r33_7 : List CO := [
  ⟨some 33, .mv (.t 0), none⟩,
  ⟨some 34, .call (.c (.fn (.func 42) [] [])) [.t 33, .t 5], none⟩,
  ⟨some 4, .mv (.t 34), none⟩]
abbrev r33_8 : List CO := [
  ⟨some 35, .mv (.t 0), none⟩,
  ⟨some 36, .mv (.t 1), none⟩,
  ⟨some 37, .call (.c (.fn (.func 43) [] [])) [.t 35, .t 36], none⟩,
  ⟨some 4, .mv (.t 37), none⟩]
abbrev c33 : CC := .seq (.reg r33_0) (.seq (.seq (.reg r33_1) (.rest [0, 1, 13] (.cond (.t 13) (.seq (.reg r33_2) (.ret)) (.skip)))) (.rest [0, 1] (.seq (.seq (.reg r33_3) (.rest [0, 1, 22] (.cond (.t 22) (.seq (.reg r33_4) (.rest [4] (.ret))) (.skip)))) (.rest [0, 1] (.seq (.seq (.reg r33_5) (.rest [0, 1, 5, 6] (.seq (.reg r33_6) (.cond (.t 32) (.seq (.reg r33_7) (.ret)) (.skip))))) (.rest [0, 1] (.seq (.reg r33_8) (.rest [4] (.ret)))))))))
theorem F33 : Fun Tryd.prog 33 38 c33 [.tmp 4] 2 := ⟨⟨Tryd.f33, _, Tryd.func33, rfl, by kernel_rfl, Tryd.ntmps33, by kernel_rfl, by kernel_rfl⟩, by decide⟩

/-- bytes.Clone -/
abbrev r34_0 : List CO := [
  ⟨some 2, .mv (.c (.p (.s (.slice none 0 0)))), none⟩]
abbrev r34_1 : List CO := [
  ⟨some 3, .mv (.t 0), none⟩,
  ⟨some 4, .isnil false (.t 3), none⟩]
abbrev r34_2 : List CO := [
  ⟨some 2, .mv (.c (.p (.s (.slice none 0 0)))), none⟩]
abbrev r34_3 : List CO := [
  ⟨some 5, .bslice 1 0 ([.s (.int .u8 0)]) [], none⟩,
  ⟨some 6, .mv (.t 0), none⟩,
  ⟨some 7, .append 1 1 ([.s (.int .u8 0)]) (.t 5) (.t 6), none⟩,
  ⟨some 2, .mv (.t 7), none⟩]
abbrev c34 : CC := .seq (.reg r34_0) (.seq (.seq (.reg r34_1) (.cond (.t 4) (.seq (.reg r34_2) (.ret)) (.skip))) (.seq (.reg r34_3) (.rest [2] (.ret))))
theorem F34 : Fun Tryd.prog 34 8 c34 [.tmp 2] 1 := ⟨⟨Tryd.f34, _, Tryd.func34, rfl, by kernel_rfl, Tryd.ntmps34, by kernel_rfl, by kernel_rfl⟩, by decide⟩

/-- linnet/subopt.must -/
abbrev r35_0 : List CO := [
  ⟨some 2, .mv (.t 0), none⟩,
  ⟨some 3, .un .not (.t 2), none⟩]
abbrev r35_1 : List CO := [
  ⟨some 4, .build ([]) [], none⟩,
  ⟨some 5, .mkif 50 (.t 4), none⟩,
  ⟨none, .panic (.t 5), none⟩]
abbrev c35 : CC := .seq (.reg r35_0) (.cond (.t 3) (.reg r35_1) (.skip))
theorem F35 : Fun Tryd.prog 35 6 c35 [] 1 := ⟨⟨Tryd.f35, _, Tryd.func35, rfl, by kernel_rfl, Tryd.ntmps35, by kernel_rfl, by kernel_rfl⟩, by decide⟩

/-- linnet/slc.Get -/
abbrev r36_0 : List CO := [
  ⟨some 2, .mv (.c (.p (.s (.slice none 0 0)))), none⟩,
  ⟨some 3, .mv (.c (.p (.s (.int .i64 0)))), none⟩]
abbrev r36_1 : List CO := [
  ⟨some 6, .mv (.t 0), none⟩,
  ⟨some 7, .len (.t 6), none⟩,
  ⟨some 8, .bin .rem (.t 7) (.c (.p (.s (.int .i64 3)))), none⟩,
  ⟨some 9, .bin .neq (.t 8) (.c (.p (.s (.int .i64 0)))), none⟩]
abbrev r36_2 : List CO := [
  ⟨some 2, .mv (.c (.p (.s (.slice none 0 0)))), none⟩,
  ⟨some 3, .mv (.c (.p (.s (.int .i64 2)))), none⟩]
abbrev r36_3 : List CO := [
  ⟨some 4, .mv (.c (.p (.s (.slice none 0 0)))), none⟩]
abbrev r36_4 : List CO := [
  ⟨some 10, .mv (.t 0), none⟩,
  ⟨some 11, .len (.t 10), none⟩,
  ⟨some 12, .bin .gtr (.t 11) (.c (.p (.s (.int .i64 0)))), none⟩]
abbrev r36_6 : List CO := [
  ⟨some 15, .mv (.t 0), none⟩,
  ⟨some 16, .iaddrS 1 (.t 15) (.c (.p (.s (.int .i64 1)))), none⟩,
  ⟨some 17, .load false 1 (.t 16), none⟩,
  ⟨some 5, .mv (.t 17), none⟩]
abbrev r36_7 : List CO := [
  ⟨some 18, .mv (.t 5), none⟩,
  ⟨some 19, .bin .and (.t 18) (.c (.p (.s (.int .u8 28)))), none⟩,
  ⟨some 20, .bin .neq (.t 19) (.c (.p (.s (.int .u8 0)))), none⟩]
abbrev r36_8 : List CO := [
  ⟨some 2, .mv (.c (.p (.s (.slice none 0 0)))), none⟩,
  ⟨some 3, .mv (.c (.p (.s (.int .i64 2)))), none⟩]
abbrev r36_9 : List CO := [
  ⟨some 21, .mv (.t 4), none⟩,
  ⟨some 22, .mv (.t 0), none⟩,
  ⟨some 23, .iaddrS 1 (.t 22) (.c (.p (.s (.int .i64 0)))), none⟩,
  ⟨some 24, .load false 1 (.t 23), none⟩,
  ⟨some 25, .toInt .i64 (.t 24), none⟩,
  ⟨some 26, .mv (.t 5), none⟩,
  ⟨some 27, .bin .and (.t 26) (.c (.p (.s (.int .u8 3)))), none⟩,
  ⟨some 28, .toInt .i64 (.t 27), none⟩,
  ⟨some 29, .mv (.t 5), none⟩,
  ⟨some 30, .bin .and (.t 29) (.c (.p (.s (.int .u8 128)))), none⟩,
  ⟨some 31, .bin .neq (.t 30) (.c (.p (.s (.int .u8 0)))), none⟩,
  ⟨some 32, .mv (.t 5), none⟩,
  ⟨some 33, .bin .and (.t 32) (.c (.p (.s (.int .u8 64)))), none⟩,
  ⟨some 34, .bin .neq (.t 33) (.c (.p (.s (.int .u8 0)))), none⟩,
  ⟨some 35, .mv (.t 5), none⟩,
  ⟨some 36, .bin .and (.t 35) (.c (.p (.s (.int .u8 32)))), none⟩,
  ⟨some 37, .bin .neq (.t 36) (.c (.p (.s (.int .u8 0)))), none⟩,
  ⟨some 38, .mv (.t 0), none⟩,
  ⟨some 39, .iaddrS 1 (.t 38) (.c (.p (.s (.int .i64 2)))), none⟩,
  ⟨some 40, .load false 1 (.t 39), none⟩,
  ⟨some 41, .build ([.s (.int .i64 0), .s (.int .i64 0), .s (.bool false), .s (.bool false), .s (.bool false), .s (.int .u8 0)]) [(0, 1, .t 25), (1, 1, .t 28), (2, 1, .t 31), (3, 1, .t 34), (4, 1, .t 37), (5, 1, .t 40)], none⟩,
  ⟨some 42, .bslice 6 1 ([.s (.int .i64 0), .s (.int .i64 0), .s (.bool false), .s (.bool false), .s (.bool false), .s (.int .u8 0)]) [(0, .t 41)], none⟩,
  ⟨some 43, .append 6 24 ([.s (.int .i64 0), .s (.int .i64 0), .s (.bool false), .s (.bool false), .s (.bool false), .s (.int .u8 0)]) (.t 21) (.t 42), none⟩,
  ⟨some 4, .mv (.t 43), none⟩]
abbrev b36_9 : List (List Nat) := [[], [], [1], [2], [3], [], [5], [6], [], [8], [9], [], [11], [12], [], [14], [15], [], [17], [18], [4, 7, 10, 13, 16, 19], [20], [0, 21], [22, 22, 0, 1, 2, 3, 4, 5, 6, 7, 8, 9, 10, 11, 12, 13, 14, 15, 16, 17, 18, 19, 20, 21, 22]]
abbrev k36_1 : CC := .seq (.reg r36_6) (.rest [0, 4, 5] (.seq (.seq (.reg r36_7) (.cond (.t 20) (.seq (.reg r36_8) (.ret)) (.skip))) (.rest [0, 4, 5] (.regd r36_9 b36_9))))
abbrev r36_5 : List CO := [
  ⟨some 13, .mv (.t 0), none⟩,
  ⟨some 14, .slice 1 (.t 13) (some (.c (.p (.s (.int .i64 3))))) none, none⟩,
  ⟨some 0, .mv (.t 14), none⟩]
abbrev l36_12 : CC := .seq (.seq (.reg r36_4) (.cond (.t 12) (.skip) (.exit 0))) (.seq (.block 1 k36_1) (.rest [0, 4] (.reg r36_5)))
abbrev k36_0 : CC := .loop l36_12
abbrev r36_10 : List CO := [
  ⟨some 44, .mv (.t 4), none⟩,
  ⟨some 2, .mv (.t 44), none⟩,
  ⟨some 3, .mv (.c (.p (.s (.int .i64 0)))), none⟩]
abbrev c36 : CC := .seq (.reg r36_0) (.seq (.seq (.reg r36_1) (.rest [0, 9] (.cond (.t 9) (.seq (.reg r36_2) (.ret)) (.skip)))) (.rest [0] (.seq (.reg r36_3) (.seq (.block 0 k36_0) (.rest [4] (.seq (.reg r36_10) (.ret)))))))
theorem F36 : Fun Tryd.prog 36 45 c36 [.tmp 2, .tmp 3] 1 := ⟨⟨Tryd.f36, _, Tryd.func36, rfl, by kernel_rfl, Tryd.ntmps36, by kernel_rfl, by kernel_rfl⟩, by decide⟩

/-- linnet/mask.Get -/
abbrev r37_0 : List CO := [
  ⟨some 2, .alloc (List.replicate 32 (.s (.int .u8 0))), none⟩,
  ⟨some 3, .mv (.c (.p (.s (.int .i64 0)))), none⟩]
abbrev r37_1 : List CO := [
  ⟨some 4, .alloc (List.replicate 32 (.s (.int .u8 0))), none⟩]
abbrev r37_2 : List CO := [
  ⟨some 5, .mv (.t 0), none⟩,
  ⟨some 6, .len (.t 5), none⟩,
  ⟨some 7, .bin .gtr (.t 6) (.c (.p (.s (.int .i64 32)))), none⟩]
abbrev r37_3 : List CO := [
  ⟨some 8, .load true 32 (.t 4), none⟩,
  ⟨none, .store 32 (.t 2) (.t 8), none⟩,
  ⟨some 3, .mv (.c (.p (.s (.int .i64 3)))), none⟩]
abbrev r37_4 : List CO := [
  ⟨some 9, .ext (.mslice 1 32 false false) [.t 4], none⟩,
  ⟨some 10, .mv (.t 0), none⟩,
  ⟨some 11, .ext (.copy 1) [.t 9, .t 10], none⟩]
abbrev r37_5 : List CO := [
  ⟨some 12, .load true 32 (.t 4), none⟩,
  ⟨none, .store 32 (.t 2) (.t 12), none⟩,
  ⟨some 3, .mv (.c (.p (.s (.int .i64 0)))), none⟩]
abbrev c37 : CC := .seq (.reg r37_0) (.seq (.reg r37_1) (.seq (.seq (.reg r37_2) (.cond (.t 7) (.seq (.reg r37_3) (.ret)) (.skip))) (.rest [0, 2, 4] (.seq (.reg r37_4) (.seq (.reg r37_5) (.ret))))))
theorem F37 : Fun Tryd.prog 37 13 c37 [.cell 2 true 32, .tmp 3] 1 := ⟨⟨Tryd.f37, _, Tryd.func37, rfl, by kernel_rfl, Tryd.ntmps37, by kernel_rfl, by kernel_rfl⟩, by decide⟩

/-- linnet/linnetref07.May -/
abbrev r38_0 : List CO := [
  ⟨some 1, .box (.t 0), none⟩,
  ⟨some 2, .mv (.c (.p (.s (.bool false)))), none⟩]
abbrev r38_1 : List CO := [
  ⟨some 3, .faddr 0 (.t 1), none⟩,
  ⟨some 4, .load false 1 (.t 3), none⟩,
  ⟨some 5, .bin .geq (.t 4) (.c (.p (.s (.int .i64 0)))), none⟩,
  ⟨some 6, .mv (.t 5), none⟩,
  ⟨some 7, .faddr 0 (.t 1), some (6, true)⟩,
  ⟨some 8, .load false 1 (.t 7), some (6, true)⟩,
  ⟨some 9, .bin .leq (.t 8) (.c (.p (.s (.int .i64 255)))), some (6, true)⟩,
  ⟨some 10, .pick (.t 6) (.t 9) (.c (.p (.s (.bool false)))), none⟩,
  ⟨some 11, .mv (.t 10), none⟩,
  ⟨some 12, .faddr 1 (.t 1), some (11, true)⟩,
  ⟨some 13, .load false 1 (.t 12), some (11, true)⟩,
  ⟨some 14, .bin .geq (.t 13) (.c (.p (.s (.int .i64 0)))), some (11, true)⟩,
  ⟨some 15, .pick (.t 11) (.t 14) (.c (.p (.s (.bool false)))), none⟩,
  ⟨some 16, .mv (.t 15), none⟩,
  ⟨some 17, .faddr 1 (.t 1), some (16, true)⟩,
  ⟨some 18, .load false 1 (.t 17), some (16, true)⟩,
  ⟨some 19, .bin .leq (.t 18) (.c (.p (.s (.int .i64 3)))), some (16, true)⟩,
  ⟨some 20, .pick (.t 16) (.t 19) (.c (.p (.s (.bool false)))), none⟩,
  ⟨some 2, .mv (.t 20), none⟩]
abbrev c38 : CC := .seq (.reg r38_0) (.seq (.reg r38_1) (.rest [2] (.ret)))
theorem F38 : Fun Tryd.prog 38 21 c38 [.tmp 2] 1 := ⟨⟨Tryd.f38, _, Tryd.func38, rfl, by kernel_rfl, Tryd.ntmps38, by kernel_rfl, by kernel_rfl⟩, by decide⟩

/-- linnet/mask.bit -/
abbrev r39_0 : List CO := [
  ⟨some 2, .mv (.c (.p (.s (.int .i64 0)))), none⟩,
  ⟨some 3, .mv (.c (.p (.s (.int .u8 0)))), none⟩]
abbrev r39_1 : List CO := [
  ⟨some 4, .mv (.t 0), none⟩,
  ⟨some 5, .bin .shr (.t 4) (.c (.p (.s (.int .u64 3)))), none⟩,
  ⟨some 6, .toInt .i64 (.t 5), none⟩,
  ⟨some 7, .mv (.t 0), none⟩,
  ⟨some 8, .bin .and (.t 7) (.c (.p (.s (.int .u8 7)))), none⟩,
  ⟨some 9, .bin .shr (.c (.p (.s (.int .u8 128)))) (.t 8), none⟩,
  ⟨some 2, .mv (.t 6), none⟩,
  ⟨some 3, .mv (.t 9), none⟩]
abbrev c39 : CC := .seq (.reg r39_0) (.seq (.reg r39_1) (.rest [2, 3] (.ret)))
theorem F39 : Fun Tryd.prog 39 10 c39 [.tmp 2, .tmp 3] 1 := ⟨⟨Tryd.f39, _, Tryd.func39, rfl, by kernel_rfl, Tryd.ntmps39, by kernel_rfl, by kernel_rfl⟩, by decide⟩

/-- bytes.trimRightByte -/
abbrev r40_0 : List CO := [
  ⟨some 4, .mv (.c (.p (.s (.slice none 0 0)))), none⟩]
abbrev r40_1 : List CO := [
  ⟨some 5, .mv (.t 0), none⟩,
  ⟨some 6, .len (.t 5), none⟩,
  ⟨some 7, .bin .gtr (.t 6) (.c (.p (.s (.int .i64 0)))), none⟩,
  ⟨some 8, .mv (.t 7), none⟩,
  ⟨some 9, .mv (.t 0), some (8, true)⟩,
  ⟨some 10, .mv (.t 0), some (8, true)⟩,
  ⟨some 11, .len (.t 10), some (8, true)⟩,
  ⟨some 12, .bin .sub (.t 11) (.c (.p (.s (.int .i64 1)))), some (8, true)⟩,
  ⟨some 13, .iaddrS 1 (.t 9) (.t 12), some (8, true)⟩,
  ⟨some 14, .load false 1 (.t 13), some (8, true)⟩,
  ⟨some 15, .mv (.t 1), some (8, true)⟩,
  ⟨some 16, .bin .eql (.t 14) (.t 15), some (8, true)⟩,
  ⟨some 17, .pick (.t 8) (.t 16) (.c (.p (.s (.bool false)))), none⟩]
abbrev r40_2 : List CO := [
  ⟨some 18, .mv (.t 0), none⟩,
  ⟨some 19, .mv (.t 0), none⟩,
  ⟨some 20, .len (.t 19), none⟩,
  ⟨some 21, .bin .sub (.t 20) (.c (.p (.s (.int .i64 1)))), none⟩,
  ⟨some 22, .slice 1 (.t 18) none (some (.t 21)), none⟩,
  ⟨some 0, .mv (.t 22), none⟩]
abbrev k40_1 : CC := .reg r40_2
abbrev l40_4 : CC := .seq (.seq (.reg r40_1) (.rest [0, 1, 17] (.cond (.t 17) (.skip) (.exit 0)))) (.rest [0, 1] (.block 1 k40_1))
abbrev k40_0 : CC := .loop l40_4
abbrev r40_3 : List CO := [
  ⟨some 23, .mv (.t 0), none⟩,
  ⟨some 4, .mv (.t 23), none⟩]
abbrev c40 : CC := .seq (.reg r40_0) (.seq (.block 0 k40_0) (.rest [0] (.seq (.reg r40_3) (.ret))))
theorem F40 : Fun Tryd.prog 40 24 c40 [.tmp 4] 2 := ⟨⟨Tryd.f40, _, Tryd.func40, rfl, by kernel_rfl, Tryd.ntmps40, by kernel_rfl, by kernel_rfl⟩, by decide⟩

/-- bytes.makeASCIISet -/
abbrev r41_0 : List CO := [
  ⟨some 2, .alloc (List.replicate 256 (.s (.bool false))), none⟩,
  ⟨some 3, .mv (.c (.p (.s (.bool false)))), none⟩]
abbrev r41_1 : List CO := [
  ⟨some 4, .mv (.c (.p (.s (.int .i64 0)))), none⟩]
abbrev r41_2 : List CO := [
  ⟨some 6, .mv (.t 4), none⟩,
  ⟨some 7, .mv (.t 0), none⟩,
  ⟨some 8, .slen (.t 7), none⟩,
  ⟨some 9, .bin .lss (.t 6) (.t 8), none⟩]
abbrev r41_4 : List CO := [
  ⟨some 12, .mv (.t 0), none⟩,
  ⟨some 13, .mv (.t 4), none⟩,
  ⟨some 14, .sindex (.t 12) (.t 13), none⟩,
  ⟨some 5, .mv (.t 14), none⟩]
abbrev r41_5 : List CO := [
  ⟨some 15, .mv (.t 5), none⟩,
  ⟨some 16, .bin .geq (.t 15) (.c (.p (.s (.int .u8 128)))), none⟩]
abbrev r41_6 : List CO := [
  ⟨some 17, .load true 256 (.t 2), none⟩,
  ⟨none, .store 256 (.t 2) (.t 17), none⟩,
  ⟨some 3, .mv (.c (.p (.s (.bool false)))), none⟩]
abbrev r41_7 : List CO := [
  ⟨some 18, .mv (.t 5), none⟩,
  ⟨some 19, .iaddrA 1 256 (.t 2) (.t 18), none⟩,
  ⟨none, .store 1 (.t 19) (.c (.p (.s (.bool true)))), none⟩]
abbrev k41_1 : CC := .seq (.reg r41_4) (.rest [0, 2, 4, 5] (.seq (.seq (.reg r41_5) (.cond (.t 16) (.seq (.reg r41_6) (.ret)) (.skip))) (.rest [0, 2, 4, 5] (.reg r41_7))))
abbrev r41_3 : List CO := [
  ⟨some 10, .mv (.t 4), none⟩,
  ⟨some 11, .bin .add (.t 10) (.c (.p (.s (.int .i64 1)))), none⟩,
  ⟨some 4, .mv (.t 11), none⟩]
abbrev l41_9 : CC := .seq (.seq (.reg r41_2) (.rest [0, 2, 4, 9] (.cond (.t 9) (.skip) (.exit 0)))) (.rest [0, 2, 4] (.seq (.block 1 k41_1) (.rest [0, 2, 4] (.reg r41_3))))
abbrev k41_0 : CC := .loop l41_9
abbrev r41_8 : List CO := [
  ⟨some 20, .load true 256 (.t 2), none⟩,
  ⟨none, .store 256 (.t 2) (.t 20), none⟩,
  ⟨some 3, .mv (.c (.p (.s (.bool true)))), none⟩]
abbrev c41 : CC := .seq (.reg r41_0) (.seq (.seq (.reg r41_1) (.block 0 k41_0)) (.rest [2] (.seq (.reg r41_8) (.ret))))
theorem F41 : Fun Tryd.prog 41 21 c41 [.cell 2 true 256, .tmp 3] 1 := ⟨⟨Tryd.f41, _, Tryd.func41, rfl, by kernel_rfl, Tryd.ntmps41, by kernel_rfl, by kernel_rfl⟩, by decide⟩

/-- bytes.trimRightASCII -/
abbrev r42_0 : List CO := [
  ⟨some 4, .mv (.c (.p (.s (.slice none 0 0)))), none⟩]
abbrev r42_1 : List CO := [
  ⟨some 5, .mv (.t 0), none⟩,
  ⟨some 6, .len (.t 5), none⟩,
  ⟨some 7, .bin .gtr (.t 6) (.c (.p (.s (.int .i64 0)))), none⟩]
abbrev r42_2 : List CO := [
  ⟨some 8, .mv (.t 1), none⟩,
  ⟨some 9, .mv (.t 0), none⟩,
  ⟨some 10, .mv (.t 0), none⟩,
  ⟨some 11, .len (.t 10), none⟩,
  ⟨some 12, .bin .sub (.t 11) (.c (.p (.s (.int .i64 1)))), none⟩,
  ⟨some 13, .iaddrS 1 (.t 9) (.t 12), none⟩,
  ⟨some 14, .load false 1 (.t 13), none⟩,
  ⟨some 15, .call (.c (.fn (.func 44) [] [])) [.t 8, .t 14], none⟩,
  ⟨some 16, .un .not (.t 15), none⟩]
abbrev r42_3 : List CO := [
  ⟨some 17, .mv (.t 0), none⟩,
  ⟨some 18, .mv (.t 0), none⟩,
  ⟨some 19, .len (.t 18), none⟩,
  ⟨some 20, .bin .sub (.t 19) (.c (.p (.s (.int .i64 1)))), none⟩,
  ⟨some 21, .slice 1 (.t 17) none (some (.t 20)), none⟩,
  ⟨some 0, .mv (.t 21), none⟩]
abbrev k42_1 : CC := .seq (.seq (.reg r42_2) (.rest [0, 1, 16] (.cond (.t 16) (.exit 0) (.skip)))) (.rest [0, 1] (.reg r42_3))
abbrev l42_5 : CC := .seq (.seq (.reg r42_1) (.cond (.t 7) (.skip) (.exit 0))) (.block 1 k42_1)
abbrev k42_0 : CC := .loop l42_5
abbrev r42_4 : List CO := [
  ⟨some 22, .mv (.t 0), none⟩,
  ⟨some 4, .mv (.t 22), none⟩]
abbrev c42 : CC := .seq (.reg r42_0) (.seq (.block 0 k42_0) (.rest [0] (.seq (.reg r42_4) (.ret))))
theorem F42 : Fun Tryd.prog 42 23 c42 [.tmp 4] 2 := ⟨⟨Tryd.f42, _, Tryd.func42, rfl, by kernel_rfl, Tryd.ntmps42, by kernel_rfl, by kernel_rfl⟩, by decide⟩

/-- bytes.trimRightUnicode -/
abbrev r43_0 : List CO := [
  ⟨some 4, .mv (.c (.p (.s (.slice none 0 0)))), none⟩]
abbrev r43_1 : List CO := [
  ⟨some 7, .mv (.t 0), none⟩,
  ⟨some 8, .len (.t 7), none⟩,
  ⟨some 9, .bin .gtr (.t 8) (.c (.p (.s (.int .i64 0)))), none⟩]
abbrev r43_2 : List CO := [
  ⟨some 10, .mv (.t 0), none⟩,
  ⟨some 11, .mv (.t 0), none⟩,
  ⟨some 12, .len (.t 11), none⟩,
  ⟨some 13, .bin .sub (.t 12) (.c (.p (.s (.int .i64 1)))), none⟩,
  ⟨some 14, .iaddrS 1 (.t 10) (.t 13), none⟩,
  ⟨some 15, .load false 1 (.t 14), none⟩,
  ⟨some 16, .toInt .i32 (.t 15), none⟩,
  ⟨some 5, .mv (.t 16), none⟩,
  ⟨some 6, .mv (.c (.p (.s (.int .i64 1)))), none⟩]
abbrev r43_3 : List CO := [
  ⟨some 17, .mv (.t 5), none⟩,
  ⟨some 18, .bin .geq (.t 17) (.c (.p (.s (.int .i32 128)))), none⟩]
abbrev r43_4 : List CO := [
  ⟨some 20, .mv (.t 0), none⟩,
  ⟨some 21, .call (.c (.fn (.func 45) [] [])) [.t 20], none⟩,
  ⟨some 19, .mv (.t 21), none⟩,
  ⟨some 22, .extract 0 (.t 19), none⟩,
  ⟨some 23, .extract 1 (.t 19), none⟩,
  ⟨some 5, .mv (.t 22), none⟩,
  ⟨some 6, .mv (.t 23), none⟩]
abbrev r43_5 : List CO := [
  ⟨some 24, .mv (.t 1), none⟩,
  ⟨some 25, .mv (.t 5), none⟩,
  ⟨some 26, .call (.c (.fn (.func 46) [] [])) [.t 24, .t 25], none⟩,
  ⟨some 27, .un .not (.t 26), none⟩]
abbrev r43_6 : List CO := [
  ⟨some 28, .mv (.t 0), none⟩,
  ⟨some 29, .mv (.t 0), none⟩,
  ⟨some 30, .len (.t 29), none⟩,
  ⟨some 31, .mv (.t 6), none⟩,
  ⟨some 32, .bin .sub (.t 30) (.t 31), none⟩,
  ⟨some 33, .slice 1 (.t 28) none (some (.t 32)), none⟩,
  ⟨some 0, .mv (.t 33), none⟩]
abbrev k43_1 : CC := .seq (.reg r43_2) (.rest [0, 1, 5, 6] (.seq (.seq (.reg r43_3) (.cond (.t 18) (.reg r43_4) (.skip))) (.rest [0, 1, 5, 6] (.seq (.seq (.reg r43_5) (.rest [0, 1, 6, 27] (.cond (.t 27) (.exit 0) (.skip)))) (.rest [0, 1, 6] (.reg r43_6))))))
abbrev l43_8 : CC := .seq (.seq (.reg r43_1) (.cond (.t 9) (.skip) (.exit 0))) (.block 1 k43_1)
abbrev k43_0 : CC := .loop l43_8
abbrev r43_7 : List CO := [
  ⟨some 34, .mv (.t 0), none⟩,
  ⟨some 4, .mv (.t 34), none⟩]
abbrev c43 : CC := .seq (.reg r43_0) (.seq (.block 0 k43_0) (.rest [0] (.seq (.reg r43_7) (.ret))))
theorem F43 : Fun Tryd.prog 43 35 c43 [.tmp 4] 2 := ⟨⟨Tryd.f43, _, Tryd.func43, rfl, by kernel_rfl, Tryd.ntmps43, by kernel_rfl, by kernel_rfl⟩, by decide⟩

/-- (*bytes.asciiSet).contains -/
abbrev r44_0 : List CO := [
  ⟨some 4, .mv (.c (.p (.s (.bool false)))), none⟩]
abbrev r44_1 : List CO := [
  ⟨some 5, .mv (.t 0), none⟩,
  ⟨some 6, .mv (.t 1), none⟩,
  ⟨some 7, .nilchk (.t 5), none⟩,
  ⟨some 8, .iaddrA 1 256 (.t 7) (.t 6), none⟩,
  ⟨some 9, .load false 1 (.t 8), none⟩,
  ⟨some 4, .mv (.t 9), none⟩]
abbrev c44 : CC := .seq (.reg r44_0) (.seq (.reg r44_1) (.rest [4] (.ret)))
theorem F44 : Fun Tryd.prog 44 10 c44 [.tmp 4] 2 := ⟨⟨Tryd.f44, _, Tryd.func44, rfl, by kernel_rfl, Tryd.ntmps44, by kernel_rfl, by kernel_rfl⟩, by decide⟩

/-- unicode/utf8.DecodeLastRune -/
abbrev r45_0 : List CO := [
  ⟨some 2, .mv (.c (.p (.s (.int .i32 0)))), none⟩,
  ⟨some 3, .mv (.c (.p (.s (.int .i64 0)))), none⟩]
abbrev r45_1 : List CO := [
  ⟨some 7, .mv (.t 0), none⟩,
  ⟨some 8, .len (.t 7), none⟩,
  ⟨some 4, .mv (.t 8), none⟩]
abbrev r45_2 : List CO := [
  ⟨some 9, .mv (.t 4), none⟩,
  ⟨some 10, .bin .eql (.t 9) (.c (.p (.s (.int .i64 0)))), none⟩]
abbrev r45_3 : List CO := [
  ⟨some 2, .mv (.c (.p (.s (.int .i32 65533)))), none⟩,
  ⟨some 3, .mv (.c (.p (.s (.int .i64 0)))), none⟩]
abbrev r45_4 : List CO := [
  ⟨some 11, .mv (.t 4), none⟩,
  ⟨some 12, .bin .sub (.t 11) (.c (.p (.s (.int .i64 1)))), none⟩,
  ⟨some 5, .mv (.t 12), none⟩]
abbrev r45_5 : List CO := [
  ⟨some 13, .mv (.t 0), none⟩,
  ⟨some 14, .mv (.t 5), none⟩,
  ⟨some 15, .iaddrS 1 (.t 13) (.t 14), none⟩,
  ⟨some 16, .load false 1 (.t 15), none⟩,
  ⟨some 17, .toInt .i32 (.t 16), none⟩,
  ⟨some 2, .mv (.t 17), none⟩]
abbrev r45_6 : List CO := [
  ⟨some 18, .mv (.t 2), none⟩,
  ⟨some 19, .bin .lss (.t 18) (.c (.p (.s (.int .i32 128)))), none⟩]
abbrev r45_7 : List CO := [
  ⟨some 20, .mv (.t 2), none⟩,
  ⟨some 2, .mv (.t 20), none⟩,
  ⟨some 3, .mv (.c (.p (.s (.int .i64 1)))), none⟩]
abbrev r45_8 : List CO := [
  ⟨some 21, .mv (.t 4), none⟩,
  ⟨some 22, .bin .sub (.t 21) (.c (.p (.s (.int .i64 4)))), none⟩,
  ⟨some 23, .minmax true (.t 22) (.c (.p (.s (.int .i64 0)))), none⟩,
  ⟨some 6, .mv (.t 23), none⟩]
abbrev r45_9 : List CO := [
  ⟨some 24, .mv (.t 5), none⟩,
  ⟨some 25, .bin .sub (.t 24) (.c (.p (.s (.int .i64 1)))), none⟩,
  ⟨some 5, .mv (.t 25), none⟩]
abbrev r45_10 : List CO := [
  ⟨some 26, .mv (.t 5), none⟩,
  ⟨some 27, .mv (.t 6), none⟩,
  ⟨some 28, .bin .geq (.t 26) (.t 27), none⟩]
abbrev r45_12 : List CO := [
  ⟨some 31, .mv (.t 0), none⟩,
  ⟨some 32, .mv (.t 5), none⟩,
  ⟨some 33, .iaddrS 1 (.t 31) (.t 32), none⟩,
  ⟨some 34, .load false 1 (.t 33), none⟩,
  ⟨some 35, .call (.c (.fn (.func 47) [] [])) [.t 34], none⟩]
abbrev k45_1 : CC := .seq (.reg r45_12) (.rest [0, 4, 5, 6, 35] (.cond (.t 35) (.exit 0) (.skip)))
abbrev r45_11 : List CO := [
  ⟨some 29, .mv (.t 5), none⟩,
  ⟨some 30, .bin .sub (.t 29) (.c (.p (.s (.int .i64 1)))), none⟩,
  ⟨some 5, .mv (.t 30), none⟩]
abbrev l45_14 : CC := .seq (.seq (.reg r45_10) (.cond (.t 28) (.skip) (.exit 0))) (.seq (.block 1 k45_1) (.rest [0, 4, 5, 6] (.reg r45_11)))
abbrev k45_0 : CC := .loop l45_14
abbrev r45_13 : List CO := [
  ⟨some 36, .mv (.t 5), none⟩,
  ⟨some 37, .bin .lss (.t 36) (.c (.p (.s (.int .i64 0)))), none⟩]
abbrev r45_14 : List CO := [
  ⟨some 5, .mv (.c (.p (.s (.int .i64 0)))), none⟩]
abbrev r45_15 : List CO := [
  ⟨some 39, .mv (.t 0), none⟩,
  ⟨some 40, .mv (.t 5), none⟩,
  ⟨some 41, .mv (.t 4), none⟩,
  ⟨some 42, .slice 1 (.t 39) (some (.t 40)) (some (.t 41)), none⟩,
  ⟨some 43, .call (.c (.fn (.func 48) [] [])) [.t 42], none⟩,
  ⟨some 38, .mv (.t 43), none⟩,
  ⟨some 44, .extract 0 (.t 38), none⟩,
  ⟨some 45, .extract 1 (.t 38), none⟩,
  ⟨some 2, .mv (.t 44), none⟩,
  ⟨some 3, .mv (.t 45), none⟩]
abbrev r45_16 : List CO := [
  ⟨some 46, .mv (.t 5), none⟩,
  ⟨some 47, .mv (.t 3), none⟩,
  ⟨some 48, .bin .add (.t 46) (.t 47), none⟩,
  ⟨some 49, .mv (.t 4), none⟩,
  ⟨some 50, .bin .neq (.t 48) (.t 49), none⟩]
abbrev r45_17 : List CO := [
  ⟨some 2, .mv (.c (.p (.s (.int .i32 65533)))), none⟩,
  ⟨some 3, .mv (.c (.p (.s (.int .i64 1)))), none⟩]
abbrev r45_18 : List CO := [
  ⟨some 51, .mv (.t 2), none⟩,
  ⟨some 52, .mv (.t 3), none⟩,
  ⟨some 2, .mv (.t 51), none⟩,
  ⟨some 3, .mv (.t 52), none⟩]
abbrev c45 : CC := .seq (.reg r45_0) (.seq (.reg r45_1) (.seq (.seq (.reg r45_2) (.cond (.t 10) (.seq (.reg r45_3) (.ret)) (.skip))) (.rest [0, 4] (.seq (.reg r45_4) (.seq (.reg r45_5) (.rest [0, 2, 4, 5] (.seq (.seq (.reg r45_6) (.cond (.t 19) (.seq (.reg r45_7) (.ret)) (.skip))) (.rest [0, 4, 5] (.seq (.reg r45_8) (.rest [0, 4, 5, 6] (.seq (.seq (.reg r45_9) (.block 0 k45_0)) (.rest [0, 4, 5] (.seq (.seq (.reg r45_13) (.cond (.t 37) (.reg r45_14) (.skip))) (.seq (.reg r45_15) (.rest [2, 3, 4, 5] (.seq (.seq (.reg r45_16) (.rest [2, 3, 50] (.cond (.t 50) (.seq (.reg r45_17) (.ret)) (.skip)))) (.rest [2, 3] (.seq (.reg r45_18) (.rest [2, 3] (.ret))))))))))))))))))))
theorem F45 : Fun Tryd.prog 45 53 c45 [.tmp 2, .tmp 3] 1 := ⟨⟨Tryd.f45, _, Tryd.func45, rfl, by kernel_rfl, Tryd.ntmps45, by kernel_rfl, by kernel_rfl⟩, by decide⟩

/-- unicode/utf8.RuneStart -/
abbrev r47_0 : List CO := [
  ⟨some 2, .mv (.c (.p (.s (.bool false)))), none⟩]
abbrev r47_1 : List CO := [
  ⟨some 3, .mv (.t 0), none⟩,
  ⟨some 4, .bin .and (.t 3) (.c (.p (.s (.int .u8 192)))), none⟩,
  ⟨some 5, .bin .neq (.t 4) (.c (.p (.s (.int .u8 128)))), none⟩,
  ⟨some 2, .mv (.t 5), none⟩]
abbrev c47 : CC := .seq (.reg r47_0) (.seq (.reg r47_1) (.rest [2] (.ret)))
theorem F47 : Fun Tryd.prog 47 6 c47 [.tmp 2] 1 := ⟨⟨Tryd.f47, _, Tryd.func47, rfl, by kernel_rfl, Tryd.ntmps47, by kernel_rfl, by kernel_rfl⟩, by decide⟩

/-- unicode/utf8.DecodeRune -/
abbrev r48_0 : List CO := [
  ⟨some 2, .mv (.c (.p (.s (.int .i32 0)))), none⟩,
  ⟨some 3, .mv (.c (.p (.s (.int .i64 0)))), none⟩]
abbrev r48_1 : List CO := [
  ⟨some 6, .mv (.t 0), none⟩,
  ⟨some 7, .len (.t 6), none⟩,
  ⟨some 8, .mv (.c (.p (.s (.int .i64 0)))), none⟩]
abbrev r48_2 : List CO := [
  ⟨some 9, .bin .lss (.t 8) (.t 7), none⟩]
abbrev r48_3 : List CO := [
  ⟨some 10, .iaddrS 1 (.t 6) (.t 8), none⟩,
  ⟨some 11, .load false 1 (.t 10), none⟩,
  ⟨some 5, .mv (.t 11), none⟩]
abbrev r48_4 : List CO := [
  ⟨some 12, .mv (.t 5), none⟩,
  ⟨some 13, .bin .lss (.t 12) (.c (.p (.s (.int .u8 128)))), none⟩]
abbrev r48_5 : List CO := [
  ⟨some 14, .mv (.t 5), none⟩,
  ⟨some 15, .toInt .i32 (.t 14), none⟩,
  ⟨some 2, .mv (.t 15), none⟩,
  ⟨some 3, .mv (.c (.p (.s (.int .i64 1)))), none⟩]
abbrev k48_1 : CC := .seq (.reg r48_3) (.seq (.seq (.reg r48_4) (.cond (.t 13) (.seq (.reg r48_5) (.rest [2, 3] (.ret))) (.skip))) (.rest [0] (.exit 0)))
abbrev r48_6 : List CO := [
  ⟨some 16, .bin .add (.t 8) (.c (.p (.s (.int .i64 1)))), none⟩,
  ⟨some 8, .mv (.t 16), none⟩]
abbrev l48_8 : CC := .seq (.reg r48_2) (.seq (.cond (.t 9) (.skip) (.exit 0)) (.seq (.block 1 k48_1) (.rest [0, 6, 7, 8] (.reg r48_6))))
abbrev k48_0 : CC := .loop l48_8
abbrev r48_7 : List CO := [
  ⟨some 18, .mv (.t 0), none⟩,
  ⟨some 19, .call (.c (.fn (.func 49) [] [])) [.t 18], none⟩,
  ⟨some 17, .mv (.t 19), none⟩,
  ⟨some 20, .extract 0 (.t 17), none⟩,
  ⟨some 21, .extract 1 (.t 17), none⟩,
  ⟨some 2, .mv (.t 20), none⟩,
  ⟨some 3, .mv (.t 21), none⟩]
abbrev c48 : CC := .seq (.reg r48_0) (.seq (.seq (.reg r48_1) (.block 0 k48_0)) (.rest [0] (.seq (.reg r48_7) (.rest [2, 3] (.ret)))))
theorem F48 : Fun Tryd.prog 48 22 c48 [.tmp 2, .tmp 3] 1 := ⟨⟨Tryd.f48, _, Tryd.func48, rfl, by kernel_rfl, Tryd.ntmps48, by kernel_rfl, by kernel_rfl⟩, by decide⟩

/-- unicode/utf8.decodeRuneSlow -/
abbrev r49_0 : List CO := [
  ⟨some 2, .mv (.c (.p (.s (.int .i32 0)))), none⟩,
  ⟨some 3, .mv (.c (.p (.s (.int .i64 0)))), none⟩]
abbrev r49_1 : List CO := [
  ⟨some 13, .mv (.t 0), none⟩,
  ⟨some 14, .len (.t 13), none⟩,
  ⟨some 4, .mv (.t 14), none⟩]
abbrev r49_2 : List CO := [
  ⟨some 15, .mv (.t 4), none⟩,
  ⟨some 16, .bin .lss (.t 15) (.c (.p (.s (.int .i64 1)))), none⟩]
abbrev r49_3 : List CO := [
  ⟨some 2, .mv (.c (.p (.s (.int .i32 65533)))), none⟩,
  ⟨some 3, .mv (.c (.p (.s (.int .i64 0)))), none⟩]
abbrev r49_4 : List CO := [
  ⟨some 17, .mv (.t 0), none⟩,
  ⟨some 18, .iaddrS 1 (.t 17) (.c (.p (.s (.int .i64 0)))), none⟩,
  ⟨some 19, .load false 1 (.t 18), none⟩,
  ⟨some 5, .mv (.t 19), none⟩]
abbrev r49_5 : List CO := [
  ⟨some 20, .mv (.t 5), none⟩,
  ⟨some 21, .iaddrA 1 256 (.g 0) (.t 20), none⟩,
  ⟨some 22, .load false 1 (.t 21), none⟩,
  ⟨some 6, .mv (.t 22), none⟩]
abbrev r49_6 : List CO := [
  ⟨some 23, .mv (.t 6), none⟩,
  ⟨some 24, .bin .geq (.t 23) (.c (.p (.s (.int .u8 240)))), none⟩]
abbrev r49_7 : List CO := [
  ⟨some 25, .mv (.t 6), none⟩,
  ⟨some 26, .toInt .i32 (.t 25), none⟩,
  ⟨some 27, .bin .shl (.t 26) (.c (.p (.s (.int .u64 31)))), none⟩,
  ⟨some 28, .bin .shr (.t 27) (.c (.p (.s (.int .u64 31)))), none⟩,
  ⟨some 7, .mv (.t 28), none⟩]
abbrev r49_8 : List CO := [
  ⟨some 29, .mv (.t 0), none⟩,
  ⟨some 30, .iaddrS 1 (.t 29) (.c (.p (.s (.int .i64 0)))), none⟩,
  ⟨some 31, .load false 1 (.t 30), none⟩,
  ⟨some 32, .toInt .i32 (.t 31), none⟩,
  ⟨some 33, .mv (.t 7), none⟩,
  ⟨some 34, .bin .andNot (.t 32) (.t 33), none⟩,
  ⟨some 35, .mv (.t 7), none⟩,
  ⟨some 36, .bin .and (.c (.p (.s (.int .i32 65533)))) (.t 35), none⟩,
  ⟨some 37, .bin .or (.t 34) (.t 36), none⟩,
  ⟨some 2, .mv (.t 37), none⟩,
  ⟨some 3, .mv (.c (.p (.s (.int .i64 1)))), none⟩]
abbrev r49_9 : List CO := [
  ⟨some 38, .mv (.t 6), none⟩,
  ⟨some 39, .bin .and (.t 38) (.c (.p (.s (.int .u8 7)))), none⟩,
  ⟨some 40, .toInt .i64 (.t 39), none⟩,
  ⟨some 8, .mv (.t 40), none⟩]
abbrev r49_10 : List CO := [
  ⟨some 41, .mv (.t 6), none⟩,
  ⟨some 42, .bin .shr (.t 41) (.c (.p (.s (.int .u64 4)))), none⟩,
  ⟨some 43, .iaddrA 2 16 (.g 1) (.t 42), none⟩,
  ⟨some 44, .load true 2 (.t 43), none⟩,
  ⟨some 9, .alloc ([.s (.int .u8 0), .s (.int .u8 0)]), none⟩,
  ⟨none, .store 2 (.t 9) (.t 44), none⟩]
abbrev r49_11 : List CO := [
  ⟨some 45, .mv (.t 4), none⟩,
  ⟨some 46, .mv (.t 8), none⟩,
  ⟨some 47, .bin .lss (.t 45) (.t 46), none⟩]
abbrev r49_12 : List CO := [
  ⟨some 2, .mv (.c (.p (.s (.int .i32 65533)))), none⟩,
  ⟨some 3, .mv (.c (.p (.s (.int .i64 1)))), none⟩]
abbrev r49_13 : List CO := [
  ⟨some 48, .mv (.t 0), none⟩,
  ⟨some 49, .iaddrS 1 (.t 48) (.c (.p (.s (.int .i64 1)))), none⟩,
  ⟨some 50, .load false 1 (.t 49), none⟩,
  ⟨some 10, .mv (.t 50), none⟩]
abbrev r49_14 : List CO := [
  ⟨some 51, .mv (.t 10), none⟩,
  ⟨some 52, .faddr 0 (.t 9), none⟩,
  ⟨some 53, .load false 1 (.t 52), none⟩,
  ⟨some 54, .bin .lss (.t 51) (.t 53), none⟩,
  ⟨some 55, .mv (.t 54), none⟩,
  ⟨some 56, .faddr 1 (.t 9), some (55, false)⟩,
  ⟨some 57, .load false 1 (.t 56), some (55, false)⟩,
  ⟨some 58, .mv (.t 10), some (55, false)⟩,
  ⟨some 59, .bin .lss (.t 57) (.t 58), some (55, false)⟩,
  ⟨some 60, .pick (.t 55) (.c (.p (.s (.bool true)))) (.t 59), none⟩]
abbrev r49_15 : List CO := [
  ⟨some 2, .mv (.c (.p (.s (.int .i32 65533)))), none⟩,
  ⟨some 3, .mv (.c (.p (.s (.int .i64 1)))), none⟩]
abbrev r49_16 : List CO := [
  ⟨some 61, .mv (.t 8), none⟩,
  ⟨some 62, .bin .leq (.t 61) (.c (.p (.s (.int .i64 2)))), none⟩]
abbrev r49_17 : List CO := [
  ⟨some 63, .mv (.t 5), none⟩,
  ⟨some 64, .bin .and (.t 63) (.c (.p (.s (.int .u8 31)))), none⟩,
  ⟨some 65, .toInt .i32 (.t 64), none⟩,
  ⟨some 66, .bin .shl (.t 65) (.c (.p (.s (.int .u64 6)))), none⟩,
  ⟨some 67, .mv (.t 10), none⟩,
  ⟨some 68, .bin .and (.t 67) (.c (.p (.s (.int .u8 63)))), none⟩,
  ⟨some 69, .toInt .i32 (.t 68), none⟩,
  ⟨some 70, .bin .or (.t 66) (.t 69), none⟩,
  ⟨some 2, .mv (.t 70), none⟩,
  ⟨some 3, .mv (.c (.p (.s (.int .i64 2)))), none⟩]
abbrev r49_18 : List CO := [
  ⟨some 71, .mv (.t 0), none⟩,
  ⟨some 72, .iaddrS 1 (.t 71) (.c (.p (.s (.int .i64 2)))), none⟩,
  ⟨some 73, .load false 1 (.t 72), none⟩,
  ⟨some 11, .mv (.t 73), none⟩]
abbrev r49_19 : List CO := [
  ⟨some 74, .mv (.t 11), none⟩,
  ⟨some 75, .bin .lss (.t 74) (.c (.p (.s (.int .u8 128)))), none⟩,
  ⟨some 76, .mv (.t 75), none⟩,
  ⟨some 77, .mv (.t 11), some (76, false)⟩,
  ⟨some 78, .bin .lss (.c (.p (.s (.int .u8 191)))) (.t 77), some (76, false)⟩,
  ⟨some 79, .pick (.t 76) (.c (.p (.s (.bool true)))) (.t 78), none⟩]
abbrev r49_20 : List CO := [
  ⟨some 2, .mv (.c (.p (.s (.int .i32 65533)))), none⟩,
  ⟨some 3, .mv (.c (.p (.s (.int .i64 1)))), none⟩]
abbrev r49_21 : List CO := [
  ⟨some 80, .mv (.t 8), none⟩,
  ⟨some 81, .bin .leq (.t 80) (.c (.p (.s (.int .i64 3)))), none⟩]
abbrev r49_22 : List CO := [
  ⟨some 82, .mv (.t 5), none⟩,
  ⟨some 83, .bin .and (.t 82) (.c (.p (.s (.int .u8 15)))), none⟩,
  ⟨some 84, .toInt .i32 (.t 83), none⟩,
  ⟨some 85, .bin .shl (.t 84) (.c (.p (.s (.int .u64 12)))), none⟩,
  ⟨some 86, .mv (.t 10), none⟩,
  ⟨some 87, .bin .and (.t 86) (.c (.p (.s (.int .u8 63)))), none⟩,
  ⟨some 88, .toInt .i32 (.t 87), none⟩,
  ⟨some 89, .bin .shl (.t 88) (.c (.p (.s (.int .u64 6)))), none⟩,
  ⟨some 90, .bin .or (.t 85) (.t 89), none⟩,
  ⟨some 91, .mv (.t 11), none⟩,
  ⟨some 92, .bin .and (.t 91) (.c (.p (.s (.int .u8 63)))), none⟩,
  ⟨some 93, .toInt .i32 (.t 92), none⟩,
  ⟨some 94, .bin .or (.t 90) (.t 93), none⟩,
  ⟨some 2, .mv (.t 94), none⟩,
  ⟨some 3, .mv (.c (.p (.s (.int .i64 3)))), none⟩]
abbrev r49_23 : List CO := [
  ⟨some 95, .mv (.t 0), none⟩,
  ⟨some 96, .iaddrS 1 (.t 95) (.c (.p (.s (.int .i64 3)))), none⟩,
  ⟨some 97, .load false 1 (.t 96), none⟩,
  ⟨some 12, .mv (.t 97), none⟩]
abbrev r49_24 : List CO := [
  ⟨some 98, .mv (.t 12), none⟩,
  ⟨some 99, .bin .lss (.t 98) (.c (.p (.s (.int .u8 128)))), none⟩,
  ⟨some 100, .mv (.t 99), none⟩,
  ⟨some 101, .mv (.t 12), some (100, false)⟩,
  ⟨some 102, .bin .lss (.c (.p (.s (.int .u8 191)))) (.t 101), some (100, false)⟩,
  ⟨some 103, .pick (.t 100) (.c (.p (.s (.bool true)))) (.t 102), none⟩]
abbrev r49_25 : List CO := [
  ⟨some 2, .mv (.c (.p (.s (.int .i32 65533)))), none⟩,
  ⟨some 3, .mv (.c (.p (.s (.int .i64 1)))), none⟩]
abbrev r49_26 : List CO := [
  ⟨some 104, .mv (.t 5), none⟩,
  ⟨some 105, .bin .and (.t 104) (.c (.p (.s (.int .u8 7)))), none⟩,
  ⟨some 106, .toInt .i32 (.t 105), none⟩,
  ⟨some 107, .bin .shl (.t 106) (.c (.p (.s (.int .u64 18)))), none⟩,
  ⟨some 108, .mv (.t 10), none⟩,
  ⟨some 109, .bin .and (.t 108) (.c (.p (.s (.int .u8 63)))), none⟩,
  ⟨some 110, .toInt .i32 (.t 109), none⟩,
  ⟨some 111, .bin .shl (.t 110) (.c (.p (.s (.int .u64 12)))), none⟩,
  ⟨some 112, .bin .or (.t 107) (.t 111), none⟩,
  ⟨some 113, .mv (.t 11), none⟩,
  ⟨some 114, .bin .and (.t 113) (.c (.p (.s (.int .u8 63)))), none⟩,
  ⟨some 115, .toInt .i32 (.t 114), none⟩,
  ⟨some 116, .bin .shl (.t 115) (.c (.p (.s (.int .u64 6)))), none⟩,
  ⟨some 117, .bin .or (.t 112) (.t 116), none⟩,
  ⟨some 118, .mv (.t 12), none⟩,
  ⟨some 119, .bin .and (.t 118) (.c (.p (.s (.int .u8 63)))), none⟩,
  ⟨some 120, .toInt .i32 (.t 119), none⟩,
  ⟨some 121, .bin .or (.t 117) (.t 120), none⟩,
  ⟨some 2, .mv (.t 121), none⟩,
  ⟨some 3, .mv (.c (.p (.s (.int .i64 4)))), none⟩]
abbrev c49 : CC := .seq (.reg r49_0) (.seq (.reg r49_1) (.seq (.seq (.reg r49_2) (.cond (.t 16) (.seq (.reg r49_3) (.ret)) (.skip))) (.rest [0, 4] (.seq (.reg r49_4) (.rest [0, 4, 5] (.seq (.reg r49_5) (.rest [0, 4, 5, 6] (.seq (.seq (.reg r49_6) (.cond (.t 24) (.seq (.reg r49_7) (.rest [0, 7] (.seq (.reg r49_8) (.rest [2, 3] (.ret))))) (.skip))) (.rest [0, 4, 5, 6] (.seq (.reg r49_9) (.rest [0, 4, 5, 6, 8] (.seq (.reg r49_10) (.rest [0, 4, 5, 8, 9] (.seq (.seq (.reg r49_11) (.cond (.t 47) (.seq (.reg r49_12) (.ret)) (.skip))) (.rest [0, 5, 8, 9] (.seq (.reg r49_13) (.rest [0, 5, 8, 9, 10] (.seq (.seq (.reg r49_14) (.rest [0, 5, 8, 10, 60] (.cond (.t 60) (.seq (.reg r49_15) (.ret)) (.skip)))) (.rest [0, 5, 8, 10] (.seq (.seq (.reg r49_16) (.cond (.t 62) (.seq (.reg r49_17) (.rest [2, 3] (.ret))) (.skip))) (.rest [0, 5, 8, 10] (.seq (.reg r49_18) (.rest [0, 5, 8, 10, 11] (.seq (.seq (.reg r49_19) (.rest [0, 5, 8, 10, 11, 79] (.cond (.t 79) (.seq (.reg r49_20) (.ret)) (.skip)))) (.rest [0, 5, 8, 10, 11] (.seq (.seq (.reg r49_21) (.cond (.t 81) (.seq (.reg r49_22) (.rest [2, 3] (.ret))) (.skip))) (.rest [0, 5, 10, 11] (.seq (.reg r49_23) (.rest [5, 10, 11, 12] (.seq (.seq (.reg r49_24) (.rest [5, 10, 11, 12, 103] (.cond (.t 103) (.seq (.reg r49_25) (.ret)) (.skip)))) (.rest [5, 10, 11, 12] (.seq (.reg r49_26) (.rest [2, 3] (.ret))))))))))))))))))))))))))))))))))
theorem F49 : Fun Tryd.prog 49 122 c49 [.tmp 2, .tmp 3] 1 := ⟨⟨Tryd.f49, _, Tryd.func49, rfl, by kernel_rfl, Tryd.ntmps49, by kernel_rfl, by kernel_rfl⟩, by decide⟩

end Go.Proofs.YtaopaggmhleeoaaDoor
