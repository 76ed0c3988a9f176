/- Code of functions of the given program in compact form, printed by a program of this repository (wip/tools/gen.py) out of what Lean prints of the loaded functions; each is checked by the kernel. -/
import Derived.Test.YtaopaggmhleeoaaSdf
import Derived.Test.YtaopaggmhleeoaaProg
import Derived.KernelRfl
namespace Go.Proofs.Ytaopaggmhleeoaa
open Go Go.Shade

/-- linnet/linnetlaw11.SuboptKinds -/
abbrev r3_0 : List CO := [
  ⟨some 2, .mv (.c (.p (.s (.bool false)))), none⟩]
abbrev r3_1 : List CO := [
  ⟨some 6, .mv (.t 0), none⟩,
  ⟨some 7, .call (.c (.fn (.func 5) [] [])) [.t 6], none⟩,
  ⟨some 0, .mv (.t 7), none⟩]
abbrev r3_2 : List CO := [
  ⟨some 9, .mv (.t 0), none⟩,
  ⟨some 10, .call (.c (.fn (.func 6) [] [])) [.t 9], none⟩,
  ⟨some 8, .mv (.t 10), none⟩,
  ⟨some 11, .extract 0 (.t 8), none⟩,
  ⟨some 12, .extract 1 (.t 8), none⟩,
  ⟨some 3, .alloc ([.s (.int .i64 0), .s (.int .i64 0), .s (.int .i64 0), .s (.int .u8 0), .s (.int .u8 0), .s (.int .u8 0), .s (.int .u8 0), .s (.int .u8 0), .s (.int .u8 0), .s (.int .u8 0), .s (.int .u8 0), .s (.int .u8 0), .s (.int .u8 0), .s (.int .u8 0), .s (.int .u8 0), .s (.int .u8 0), .s (.int .u8 0), .s (.int .u8 0), .s (.int .u8 0), .s (.int .u8 0), .s (.int .u8 0), .s (.int .u8 0), .s (.int .u8 0), .s (.int .u8 0), .s (.int .u8 0), .s (.int .u8 0), .s (.int .u8 0), .s (.int .u8 0), .s (.int .u8 0), .s (.int .u8 0), .s (.int .u8 0), .s (.int .u8 0), .s (.int .u8 0), .s (.int .u8 0), .s (.int .u8 0), .s (.slice none 0 0)]), none⟩,
  ⟨none, .store 36 (.t 3) (.t 11), none⟩,
  ⟨some 4, .mv (.t 12), none⟩]
abbrev r3_3 : List CO := [
  ⟨some 13, .mv (.t 4), none⟩,
  ⟨some 14, .bin .neq (.t 13) (.c (.p (.s (.int .i64 0)))), none⟩]
abbrev r3_4 : List CO := [
  ⟨some 15, .call (.c (.fn (.func 7) [] [])) [], none⟩,
  ⟨some 2, .mv (.t 15), none⟩]
abbrev r3_5 : List CO := [
  ⟨some 16, .mv (.t 0), none⟩,
  ⟨some 17, .len (.t 16), none⟩,
  ⟨some 18, .bin .gtr (.t 17) (.c (.p (.s (.int .i64 0)))), none⟩,
  ⟨some 19, .mv (.t 18), none⟩,
  ⟨some 20, .mv (.t 0), some (19, true)⟩,
  ⟨some 21, .iaddrS 1 (.t 20) (.c (.p (.s (.int .i64 0)))), some (19, true)⟩,
  ⟨some 22, .load false 1 (.t 21), some (19, true)⟩,
  ⟨some 23, .bin .eql (.t 22) (.c (.p (.s (.int .u8 1)))), some (19, true)⟩,
  ⟨some 24, .mv (.t 23), some (19, true)⟩,
  ⟨some 25, .mv (.t 0), some (24, true)⟩,
  ⟨some 26, .len (.t 25), some (24, true)⟩,
  ⟨some 27, .bin .eql (.t 26) (.c (.p (.s (.int .i64 2)))), some (24, true)⟩,
  ⟨some 28, .pick (.t 24) (.t 27) (.c (.p (.s (.bool false)))), some (19, true)⟩,
  ⟨some 29, .mv (.t 28), some (19, true)⟩,
  ⟨some 30, .faddr 0 (.t 3), some (29, true)⟩,
  ⟨some 31, .load false 1 (.t 30), some (29, true)⟩,
  ⟨some 32, .bin .eql (.t 31) (.c (.p (.s (.int .i64 1)))), some (29, true)⟩,
  ⟨some 33, .pick (.t 29) (.t 32) (.c (.p (.s (.bool false)))), some (19, true)⟩,
  ⟨some 34, .mv (.t 33), some (19, true)⟩,
  ⟨some 35, .mv (.t 0), some (34, false)⟩,
  ⟨some 36, .iaddrS 1 (.t 35) (.c (.p (.s (.int .i64 0)))), some (34, false)⟩,
  ⟨some 37, .load false 1 (.t 36), some (34, false)⟩,
  ⟨some 38, .bin .eql (.t 37) (.c (.p (.s (.int .u8 3)))), some (34, false)⟩,
  ⟨some 39, .mv (.t 38), some (34, false)⟩,
  ⟨some 40, .faddr 0 (.t 3), some (39, true)⟩,
  ⟨some 41, .load false 1 (.t 40), some (39, true)⟩,
  ⟨some 42, .bin .eql (.t 41) (.c (.p (.s (.int .i64 3)))), some (39, true)⟩,
  ⟨some 43, .pick (.t 39) (.t 42) (.c (.p (.s (.bool false)))), some (34, false)⟩,
  ⟨some 44, .pick (.t 34) (.c (.p (.s (.bool true)))) (.t 43), some (19, true)⟩,
  ⟨some 45, .mv (.t 44), some (19, true)⟩,
  ⟨some 46, .mv (.t 0), some (45, false)⟩,
  ⟨some 47, .iaddrS 1 (.t 46) (.c (.p (.s (.int .i64 0)))), some (45, false)⟩,
  ⟨some 48, .load false 1 (.t 47), some (45, false)⟩,
  ⟨some 49, .bin .geq (.t 48) (.c (.p (.s (.int .u8 251)))), some (45, false)⟩,
  ⟨some 50, .mv (.t 49), some (45, false)⟩,
  ⟨some 51, .mv (.t 0), some (50, true)⟩,
  ⟨some 52, .iaddrS 1 (.t 51) (.c (.p (.s (.int .i64 0)))), some (50, true)⟩,
  ⟨some 53, .load false 1 (.t 52), some (50, true)⟩,
  ⟨some 54, .bin .leq (.t 53) (.c (.p (.s (.int .u8 254)))), some (50, true)⟩,
  ⟨some 55, .pick (.t 50) (.t 54) (.c (.p (.s (.bool false)))), some (45, false)⟩,
  ⟨some 56, .mv (.t 55), some (45, false)⟩,
  ⟨some 57, .faddr 0 (.t 3), some (56, true)⟩,
  ⟨some 58, .load false 1 (.t 57), some (56, true)⟩,
  ⟨some 59, .bin .eql (.t 58) (.c (.p (.s (.int .i64 2)))), some (56, true)⟩,
  ⟨some 60, .pick (.t 56) (.t 59) (.c (.p (.s (.bool false)))), some (45, false)⟩,
  ⟨some 61, .pick (.t 45) (.c (.p (.s (.bool true)))) (.t 60), some (19, true)⟩,
  ⟨some 62, .pick (.t 19) (.t 61) (.c (.p (.s (.bool false)))), none⟩,
  ⟨some 5, .mv (.t 62), none⟩]
abbrev r3_6 : List CO := [
  ⟨some 63, .mv (.t 5), none⟩,
  ⟨some 64, .mv (.t 63), none⟩,
  ⟨some 65, .faddr 0 (.t 3), some (64, true)⟩,
  ⟨some 66, .load false 1 (.t 65), some (64, true)⟩,
  ⟨some 67, .bin .neq (.t 66) (.c (.p (.s (.int .i64 2)))), some (64, true)⟩,
  ⟨some 68, .mv (.t 67), some (64, true)⟩,
  ⟨some 69, .mv (.t 0), some (68, false)⟩,
  ⟨some 70, .len (.t 69), some (68, false)⟩,
  ⟨some 71, .bin .geq (.t 70) (.c (.p (.s (.int .i64 2)))), some (68, false)⟩,
  ⟨some 72, .mv (.t 71), some (68, false)⟩,
  ⟨some 73, .mv (.t 0), some (72, true)⟩,
  ⟨some 74, .iaddrS 1 (.t 73) (.c (.p (.s (.int .i64 1)))), some (72, true)⟩,
  ⟨some 75, .load false 1 (.t 74), some (72, true)⟩,
  ⟨some 76, .bin .eql (.t 75) (.c (.p (.s (.int .u8 2)))), some (72, true)⟩,
  ⟨some 77, .pick (.t 72) (.t 76) (.c (.p (.s (.bool false)))), some (68, false)⟩,
  ⟨some 78, .mv (.t 77), some (68, false)⟩,
  ⟨some 79, .faddr 2 (.t 3), some (78, true)⟩,
  ⟨some 80, .load false 1 (.t 79), some (78, true)⟩,
  ⟨some 81, .bin .eql (.t 80) (.c (.p (.s (.int .i64 253)))), some (78, true)⟩,
  ⟨some 82, .mv (.t 81), some (78, true)⟩,
  ⟨some 83, .mv (.t 0), some (82, false)⟩,
  ⟨some 84, .len (.t 83), some (82, false)⟩,
  ⟨some 85, .bin .eql (.t 84) (.c (.p (.s (.int .i64 2)))), some (82, false)⟩,
  ⟨some 86, .pick (.t 82) (.c (.p (.s (.bool true)))) (.t 85), some (78, true)⟩,
  ⟨some 87, .pick (.t 78) (.t 86) (.c (.p (.s (.bool false)))), some (68, false)⟩,
  ⟨some 88, .pick (.t 68) (.c (.p (.s (.bool true)))) (.t 87), some (64, true)⟩,
  ⟨some 89, .pick (.t 64) (.t 88) (.c (.p (.s (.bool false)))), none⟩,
  ⟨some 90, .mv (.t 89), none⟩,
  ⟨some 91, .mv (.t 0), some (90, true)⟩,
  ⟨some 92, .len (.t 91), some (90, true)⟩,
  ⟨some 93, .bin .leq (.t 92) (.c (.p (.s (.int .i64 512)))), some (90, true)⟩,
  ⟨some 94, .pick (.t 90) (.t 93) (.c (.p (.s (.bool false)))), none⟩,
  ⟨some 95, .mv (.t 94), none⟩,
  ⟨some 96, .call (.c (.fn (.func 7) [] [])) [], some (95, true)⟩,
  ⟨some 97, .pick (.t 95) (.t 96) (.c (.p (.s (.bool false)))), none⟩,
  ⟨some 2, .mv (.t 97), none⟩]
abbrev c3 : CC := .seq (.reg r3_0) (.seq (.reg r3_1) (.seq (.reg r3_2) (.rest [0, 3, 4] (.seq (.seq (.reg r3_3) (.cond (.t 14) (.seq (.reg r3_4) (.ret)) (.skip))) (.rest [0, 3] (.seq (.reg r3_5) (.rest [0, 3, 5] (.seq (.reg r3_6) (.rest [2] (.ret))))))))))
theorem F3 : Fun Try.prog 3 98 c3 [.tmp 2] 1 := ⟨⟨Try.f3, _, Try.func3, rfl, by kernel_rfl, Try.ntmps3, by kernel_rfl, by kernel_rfl⟩, by decide⟩

/-- linnet/linnetlaw11.SuboptLess -/
abbrev r4_0 : List CO := [
  ⟨some 4, .mv (.c (.p (.s (.bool false)))), none⟩]
abbrev r4_1 : List CO := [
  ⟨some 13, .mv (.t 0), none⟩,
  ⟨some 14, .call (.c (.fn (.func 5) [] [])) [.t 13], none⟩,
  ⟨some 0, .mv (.t 14), none⟩]
abbrev r4_2 : List CO := [
  ⟨some 16, .mv (.t 0), none⟩,
  ⟨some 17, .call (.c (.fn (.func 6) [] [])) [.t 16], none⟩,
  ⟨some 15, .mv (.t 17), none⟩,
  ⟨some 18, .extract 0 (.t 15), none⟩,
  ⟨some 19, .extract 1 (.t 15), none⟩,
  ⟨some 5, .alloc ([.s (.int .i64 0), .s (.int .i64 0), .s (.int .i64 0), .s (.int .u8 0), .s (.int .u8 0), .s (.int .u8 0), .s (.int .u8 0), .s (.int .u8 0), .s (.int .u8 0), .s (.int .u8 0), .s (.int .u8 0), .s (.int .u8 0), .s (.int .u8 0), .s (.int .u8 0), .s (.int .u8 0), .s (.int .u8 0), .s (.int .u8 0), .s (.int .u8 0), .s (.int .u8 0), .s (.int .u8 0), .s (.int .u8 0), .s (.int .u8 0), .s (.int .u8 0), .s (.int .u8 0), .s (.int .u8 0), .s (.int .u8 0), .s (.int .u8 0), .s (.int .u8 0), .s (.int .u8 0), .s (.int .u8 0), .s (.int .u8 0), .s (.int .u8 0), .s (.int .u8 0), .s (.int .u8 0), .s (.int .u8 0), .s (.slice none 0 0)]), none⟩,
  ⟨none, .store 36 (.t 5) (.t 18), none⟩,
  ⟨some 6, .mv (.t 19), none⟩]
abbrev r4_3 : List CO := [
  ⟨some 20, .mv (.t 6), none⟩,
  ⟨some 21, .bin .neq (.t 20) (.c (.p (.s (.int .i64 0)))), none⟩]
abbrev r4_4 : List CO := [
  ⟨some 22, .call (.c (.fn (.func 7) [] [])) [], none⟩,
  ⟨some 4, .mv (.t 22), none⟩]
abbrev r4_5 : List CO := [
  ⟨some 24, .bslice 1 0 ([.s (.int .u8 0)]) [], none⟩,
  ⟨some 25, .mv (.t 0), none⟩,
  ⟨some 26, .append 1 1 ([.s (.int .u8 0)]) (.t 24) (.t 25), none⟩,
  ⟨some 27, .mv (.t 1), none⟩,
  ⟨some 28, .bslice 1 1 ([.s (.int .u8 0)]) [(0, .t 27)], none⟩,
  ⟨some 29, .append 1 1 ([.s (.int .u8 0)]) (.t 26) (.t 28), none⟩,
  ⟨some 30, .call (.c (.fn (.func 6) [] [])) [.t 29], none⟩,
  ⟨some 23, .mv (.t 30), none⟩,
  ⟨some 31, .extract 0 (.t 23), none⟩,
  ⟨some 32, .extract 1 (.t 23), none⟩,
  ⟨some 7, .alloc ([.s (.int .i64 0), .s (.int .i64 0), .s (.int .i64 0), .s (.int .u8 0), .s (.int .u8 0), .s (.int .u8 0), .s (.int .u8 0), .s (.int .u8 0), .s (.int .u8 0), .s (.int .u8 0), .s (.int .u8 0), .s (.int .u8 0), .s (.int .u8 0), .s (.int .u8 0), .s (.int .u8 0), .s (.int .u8 0), .s (.int .u8 0), .s (.int .u8 0), .s (.int .u8 0), .s (.int .u8 0), .s (.int .u8 0), .s (.int .u8 0), .s (.int .u8 0), .s (.int .u8 0), .s (.int .u8 0), .s (.int .u8 0), .s (.int .u8 0), .s (.int .u8 0), .s (.int .u8 0), .s (.int .u8 0), .s (.int .u8 0), .s (.int .u8 0), .s (.int .u8 0), .s (.int .u8 0), .s (.int .u8 0), .s (.slice none 0 0)]), none⟩,
  ⟨none, .store 36 (.t 7) (.t 31), none⟩,
  ⟨some 8, .mv (.t 32), none⟩]
abbrev r4_6 : List CO := [
  ⟨some 33, .faddr 0 (.t 5), none⟩,
  ⟨some 34, .load false 1 (.t 33), none⟩]
abbrev r4_7 : List CO := [
  ⟨some 36, .bin .eql (.t 34) (.c (.p (.s (.int .i64 1)))), none⟩,
  ⟨some 35, .mv (.t 36), none⟩]
abbrev r4_8 : List CO := [
  ⟨some 37, .mv (.t 8), none⟩,
  ⟨some 38, .bin .eql (.t 37) (.c (.p (.s (.int .i64 2)))), none⟩,
  ⟨some 39, .mv (.t 38), none⟩,
  ⟨some 40, .call (.c (.fn (.func 7) [] [])) [], some (39, true)⟩,
  ⟨some 41, .pick (.t 39) (.t 40) (.c (.p (.s (.bool false)))), none⟩,
  ⟨some 4, .mv (.t 41), none⟩]
abbrev r4_9 : List CO := [
  ⟨some 43, .bin .eql (.t 34) (.c (.p (.s (.int .i64 3)))), none⟩,
  ⟨some 42, .mv (.t 43), none⟩]
abbrev r4_10 : List CO := [
  ⟨some 44, .mv (.t 8), none⟩,
  ⟨some 45, .bin .neq (.t 44) (.c (.p (.s (.int .i64 2)))), none⟩]
abbrev r4_11 : List CO := [
  ⟨some 4, .mv (.c (.p (.s (.bool false)))), none⟩]
abbrev r4_12 : List CO := [
  ⟨some 46, .faddr 35 (.t 5), none⟩,
  ⟨some 47, .load false 1 (.t 46), none⟩,
  ⟨some 48, .len (.t 47), none⟩,
  ⟨some 49, .bin .eql (.t 48) (.c (.p (.s (.int .i64 0)))), none⟩]
abbrev r4_13 : List CO := [
  ⟨some 50, .mv (.t 0), none⟩,
  ⟨some 51, .len (.t 50), none⟩,
  ⟨some 52, .bin .eql (.t 51) (.c (.p (.s (.int .i64 1)))), none⟩,
  ⟨some 53, .mv (.t 52), none⟩,
  ⟨some 54, .call (.c (.fn (.func 7) [] [])) [], some (53, true)⟩,
  ⟨some 55, .pick (.t 53) (.t 54) (.c (.p (.s (.bool false)))), none⟩,
  ⟨some 4, .mv (.t 55), none⟩]
abbrev r4_14 : List CO := [
  ⟨some 56, .mv (.t 0), none⟩,
  ⟨some 57, .len (.t 56), none⟩,
  ⟨some 58, .bin .lss (.t 57) (.c (.p (.s (.int .i64 4)))), none⟩]
abbrev r4_15 : List CO := [
  ⟨some 4, .mv (.c (.p (.s (.bool false)))), none⟩]
abbrev r4_16 : List CO := [
  ⟨some 60, .mv (.t 0), none⟩,
  ⟨some 61, .mv (.t 0), none⟩,
  ⟨some 62, .len (.t 61), none⟩,
  ⟨some 63, .bin .sub (.t 62) (.c (.p (.s (.int .i64 3)))), none⟩,
  ⟨some 64, .slice 1 (.t 60) none (some (.t 63)), none⟩,
  ⟨some 65, .call (.c (.fn (.func 6) [] [])) [.t 64], none⟩,
  ⟨some 59, .mv (.t 65), none⟩,
  ⟨some 66, .extract 0 (.t 59), none⟩,
  ⟨some 67, .extract 1 (.t 59), none⟩,
  ⟨some 9, .alloc ([.s (.int .i64 0), .s (.int .i64 0), .s (.int .i64 0), .s (.int .u8 0), .s (.int .u8 0), .s (.int .u8 0), .s (.int .u8 0), .s (.int .u8 0), .s (.int .u8 0), .s (.int .u8 0), .s (.int .u8 0), .s (.int .u8 0), .s (.int .u8 0), .s (.int .u8 0), .s (.int .u8 0), .s (.int .u8 0), .s (.int .u8 0), .s (.int .u8 0), .s (.int .u8 0), .s (.int .u8 0), .s (.int .u8 0), .s (.int .u8 0), .s (.int .u8 0), .s (.int .u8 0), .s (.int .u8 0), .s (.int .u8 0), .s (.int .u8 0), .s (.int .u8 0), .s (.int .u8 0), .s (.int .u8 0), .s (.int .u8 0), .s (.int .u8 0), .s (.int .u8 0), .s (.int .u8 0), .s (.int .u8 0), .s (.slice none 0 0)]), none⟩,
  ⟨none, .store 36 (.t 9) (.t 66), none⟩,
  ⟨some 10, .mv (.t 67), none⟩]
abbrev r4_17 : List CO := [
  ⟨some 68, .mv (.t 10), none⟩,
  ⟨some 69, .bin .eql (.t 68) (.c (.p (.s (.int .i64 0)))), none⟩,
  ⟨some 70, .mv (.t 69), none⟩,
  ⟨some 71, .faddr 35 (.t 9), some (70, true)⟩,
  ⟨some 72, .load false 1 (.t 71), some (70, true)⟩,
  ⟨some 73, .faddr 35 (.t 5), some (70, true)⟩,
  ⟨some 74, .load false 1 (.t 73), some (70, true)⟩,
  ⟨some 75, .faddr 35 (.t 5), some (70, true)⟩,
  ⟨some 76, .load false 1 (.t 75), some (70, true)⟩,
  ⟨some 77, .len (.t 76), some (70, true)⟩,
  ⟨some 78, .bin .sub (.t 77) (.c (.p (.s (.int .i64 1)))), some (70, true)⟩,
  ⟨some 79, .slice 6 (.t 74) none (some (.t 78)), some (70, true)⟩,
  ⟨some 80, .call (.c (.fn (.func 8) [] [])) [.t 72, .t 79], some (70, true)⟩,
  ⟨some 81, .pick (.t 70) (.t 80) (.c (.p (.s (.bool false)))), none⟩,
  ⟨some 82, .mv (.t 81), none⟩,
  ⟨some 83, .call (.c (.fn (.func 7) [] [])) [], some (82, true)⟩,
  ⟨some 84, .pick (.t 82) (.t 83) (.c (.p (.s (.bool false)))), none⟩,
  ⟨some 4, .mv (.t 84), none⟩]
abbrev b4_17 : List (List Nat) := [[], [0], [1], [2], [3, 2], [2], [5, 2], [2], [7, 2], [8, 2], [9, 2], [6, 10, 2], [4, 11, 2, 2], [2, 12], [13, 12], [14, 14], [14, 15], [16, 15, 0, 1, 2, 3, 4, 5, 6, 7, 8, 9, 10, 11, 12, 13, 14, 15, 16]]
abbrev k4_0 : CC := .seq (.reg r4_7) (.cond (.t 35) (.seq (.reg r4_8) (.rest [4] (.ret))) (.seq (.reg r4_9) (.cond (.t 42) (.seq (.seq (.reg r4_10) (.cond (.t 45) (.seq (.reg r4_11) (.ret)) (.skip))) (.seq (.seq (.reg r4_12) (.rest [0, 5, 49] (.cond (.t 49) (.seq (.reg r4_13) (.rest [4] (.ret))) (.skip)))) (.rest [0, 5] (.seq (.seq (.reg r4_14) (.cond (.t 58) (.seq (.reg r4_15) (.ret)) (.skip))) (.rest [0, 5] (.seq (.reg r4_16) (.rest [5, 9, 10] (.seq (.regd r4_17 b4_17) (.rest [4] (.ret)))))))))) (.skip))))
abbrev r4_18 : List CO := [
  ⟨some 85, .mv (.t 0), none⟩,
  ⟨some 86, .len (.t 85), none⟩,
  ⟨some 87, .bin .lss (.t 86) (.c (.p (.s (.int .i64 2)))), none⟩]
abbrev r4_19 : List CO := [
  ⟨some 4, .mv (.c (.p (.s (.bool false)))), none⟩]
abbrev r4_20 : List CO := [
  ⟨some 89, .mv (.t 0), none⟩,
  ⟨some 90, .slice 1 (.t 89) none (some (.c (.p (.s (.int .i64 2))))), none⟩,
  ⟨some 91, .call (.c (.fn (.func 6) [] [])) [.t 90], none⟩,
  ⟨some 88, .mv (.t 91), none⟩,
  ⟨some 92, .extract 0 (.t 88), none⟩,
  ⟨some 93, .extract 1 (.t 88), none⟩,
  ⟨some 11, .alloc ([.s (.int .i64 0), .s (.int .i64 0), .s (.int .i64 0), .s (.int .u8 0), .s (.int .u8 0), .s (.int .u8 0), .s (.int .u8 0), .s (.int .u8 0), .s (.int .u8 0), .s (.int .u8 0), .s (.int .u8 0), .s (.int .u8 0), .s (.int .u8 0), .s (.int .u8 0), .s (.int .u8 0), .s (.int .u8 0), .s (.int .u8 0), .s (.int .u8 0), .s (.int .u8 0), .s (.int .u8 0), .s (.int .u8 0), .s (.int .u8 0), .s (.int .u8 0), .s (.int .u8 0), .s (.int .u8 0), .s (.int .u8 0), .s (.int .u8 0), .s (.int .u8 0), .s (.int .u8 0), .s (.int .u8 0), .s (.int .u8 0), .s (.int .u8 0), .s (.int .u8 0), .s (.int .u8 0), .s (.int .u8 0), .s (.slice none 0 0)]), none⟩,
  ⟨none, .store 36 (.t 11) (.t 92), none⟩,
  ⟨some 12, .mv (.t 93), none⟩]
abbrev r4_21 : List CO := [
  ⟨some 94, .mv (.t 12), none⟩,
  ⟨some 95, .bin .eql (.t 94) (.c (.p (.s (.int .i64 0)))), none⟩,
  ⟨some 96, .mv (.t 95), none⟩,
  ⟨some 97, .faddr 2 (.t 11), some (96, true)⟩,
  ⟨some 98, .load false 1 (.t 97), some (96, true)⟩,
  ⟨some 99, .faddr 2 (.t 5), some (96, true)⟩,
  ⟨some 100, .load false 1 (.t 99), some (96, true)⟩,
  ⟨some 101, .bin .eql (.t 98) (.t 100), some (96, true)⟩,
  ⟨some 102, .pick (.t 96) (.t 101) (.c (.p (.s (.bool false)))), none⟩,
  ⟨some 103, .mv (.t 102), none⟩,
  ⟨some 104, .faddr 3 (.t 11), some (103, true)⟩,
  ⟨some 105, .load true 32 (.t 104), some (103, true)⟩,
  ⟨some 106, .build (List.replicate 32 (.s (.int .u8 0))) [], some (103, true)⟩,
  ⟨some 107, .eqs false (List.replicate 32 0) (.t 105) (.t 106), some (103, true)⟩,
  ⟨some 108, .pick (.t 103) (.t 107) (.c (.p (.s (.bool false)))), none⟩,
  ⟨some 109, .mv (.t 108), none⟩,
  ⟨some 110, .mv (.t 8), some (109, true)⟩,
  ⟨some 111, .bin .eql (.t 110) (.c (.p (.s (.int .i64 0)))), some (109, true)⟩,
  ⟨some 112, .faddr 2 (.t 5), some (109, true)⟩,
  ⟨some 113, .load false 1 (.t 112), some (109, true)⟩,
  ⟨some 114, .bin .eql (.t 113) (.c (.p (.s (.int .i64 253)))), some (109, true)⟩,
  ⟨some 115, .mv (.t 114), some (109, true)⟩,
  ⟨some 116, .mv (.t 0), some (115, true)⟩,
  ⟨some 117, .len (.t 116), some (115, true)⟩,
  ⟨some 118, .bin .lss (.t 117) (.c (.p (.s (.int .i64 34)))), some (115, true)⟩,
  ⟨some 119, .pick (.t 115) (.t 118) (.c (.p (.s (.bool false)))), some (109, true)⟩,
  ⟨some 120, .beq false (.t 111) (.t 119), some (109, true)⟩,
  ⟨some 121, .pick (.t 109) (.t 120) (.c (.p (.s (.bool false)))), none⟩,
  ⟨some 122, .mv (.t 121), none⟩,
  ⟨some 123, .call (.c (.fn (.func 7) [] [])) [], some (122, true)⟩,
  ⟨some 124, .pick (.t 122) (.t 123) (.c (.p (.s (.bool false)))), none⟩,
  ⟨some 4, .mv (.t 124), none⟩]
abbrev c4 : CC := .seq (.reg r4_0) (.seq (.reg r4_1) (.seq (.reg r4_2) (.rest [0, 1, 5, 6] (.seq (.seq (.reg r4_3) (.cond (.t 21) (.seq (.reg r4_4) (.ret)) (.skip))) (.rest [0, 1, 5] (.seq (.reg r4_5) (.rest [0, 5, 8] (.seq (.seq (.reg r4_6) (.block 0 k4_0)) (.rest [0, 5, 8] (.seq (.seq (.reg r4_18) (.cond (.t 87) (.seq (.reg r4_19) (.ret)) (.skip))) (.rest [0, 5, 8] (.seq (.reg r4_20) (.rest [0, 5, 8, 11, 12] (.seq (.reg r4_21) (.rest [4] (.ret))))))))))))))))
theorem F4 : Fun Try.prog 4 125 c4 [.tmp 4] 2 := ⟨⟨Try.f4, _, Try.func4, rfl, by kernel_rfl, Try.ntmps4, by kernel_rfl, by kernel_rfl⟩, by decide⟩

/-- linnet/linnetlaw11.few -/
abbrev r5_0 : List CO := [
  ⟨some 2, .mv (.c (.p (.s (.slice none 0 0)))), none⟩]
abbrev r5_1 : List CO := [
  ⟨some 3, .mv (.t 0), none⟩,
  ⟨some 4, .len (.t 3), none⟩,
  ⟨some 5, .bin .gtr (.t 4) (.c (.p (.s (.int .i64 600)))), none⟩]
abbrev r5_2 : List CO := [
  ⟨some 6, .mv (.t 0), none⟩,
  ⟨some 7, .slice 1 (.t 6) none (some (.c (.p (.s (.int .i64 600))))), none⟩,
  ⟨some 2, .mv (.t 7), none⟩]
abbrev r5_3 : List CO := [
  ⟨some 8, .mv (.t 0), none⟩,
  ⟨some 2, .mv (.t 8), none⟩]
abbrev c5 : CC := .seq (.reg r5_0) (.seq (.seq (.reg r5_1) (.cond (.t 5) (.seq (.reg r5_2) (.ret)) (.skip))) (.rest [0] (.seq (.reg r5_3) (.ret))))
theorem F5 : Fun Try.prog 5 9 c5 [.tmp 2] 1 := ⟨⟨Try.f5, _, Try.func5, rfl, by kernel_rfl, Try.ntmps5, by kernel_rfl, by kernel_rfl⟩, by decide⟩

/-- linnet/subopt.Get (defers) -/
abbrev r6_0 : List CO := [
  ⟨some 2, .alloc ([.s (.int .i64 0), .s (.int .i64 0), .s (.int .i64 0), .s (.int .u8 0), .s (.int .u8 0), .s (.int .u8 0), .s (.int .u8 0), .s (.int .u8 0), .s (.int .u8 0), .s (.int .u8 0), .s (.int .u8 0), .s (.int .u8 0), .s (.int .u8 0), .s (.int .u8 0), .s (.int .u8 0), .s (.int .u8 0), .s (.int .u8 0), .s (.int .u8 0), .s (.int .u8 0), .s (.int .u8 0), .s (.int .u8 0), .s (.int .u8 0), .s (.int .u8 0), .s (.int .u8 0), .s (.int .u8 0), .s (.int .u8 0), .s (.int .u8 0), .s (.int .u8 0), .s (.int .u8 0), .s (.int .u8 0), .s (.int .u8 0), .s (.int .u8 0), .s (.int .u8 0), .s (.int .u8 0), .s (.int .u8 0), .s (.slice none 0 0)]), none⟩,
  ⟨some 3, .alloc ([.s (.int .i64 0)]), none⟩]
abbrev q6 : List CO := [
  ⟨some 4, .mkfn (.func 9) [] [.t 2, .t 3], none⟩]
abbrev r6_2 : List CO := [
  ⟨some 5, .mv (.t 0), none⟩,
  ⟨some 6, .call (.c (.fn (.func 10) [] [])) [.t 5], none⟩,
  ⟨none, .store 36 (.t 2) (.t 6), none⟩,
  ⟨none, .store 1 (.t 3) (.c (.p (.s (.int .i64 0)))), none⟩]
abbrev ca6 : CC := .reg r6_0
abbrev cb6 : CC := .seq (.reg r6_2) (.rest [2, 3] (.ret))
theorem G6 : GFun Try.prog 6 7 ca6 q6 4 cb6 [.cell 2 true 36, .cell 3 false 1] 1 := ⟨⟨Try.f6, _, _, _, _, [_], _, Try.func6, rfl, by kernel_rfl, Try.ntmps6, by kernel_rfl, rfl, by kernel_rfl, rfl, rfl, rfl, by kernel_rfl, by kernel_rfl⟩, by decide, by decide⟩

/-- linnet/linnetlaw11.awake -/
abbrev r7_0 : List CO := [
  ⟨some 0, .mv (.c (.p (.s (.bool false)))), none⟩]
abbrev r7_1 : List CO := [
  ⟨some 10, .bslice 1 2 ([.s (.int .u8 0)]) [(0, .c (.p (.s (.int .u8 1)))), (1, .c (.p (.s (.int .u8 3))))], none⟩,
  ⟨some 11, .call (.c (.fn (.func 6) [] [])) [.t 10], none⟩,
  ⟨some 9, .mv (.t 11), none⟩,
  ⟨some 12, .extract 0 (.t 9), none⟩,
  ⟨some 13, .extract 1 (.t 9), none⟩,
  ⟨some 1, .alloc ([.s (.int .i64 0), .s (.int .i64 0), .s (.int .i64 0), .s (.int .u8 0), .s (.int .u8 0), .s (.int .u8 0), .s (.int .u8 0), .s (.int .u8 0), .s (.int .u8 0), .s (.int .u8 0), .s (.int .u8 0), .s (.int .u8 0), .s (.int .u8 0), .s (.int .u8 0), .s (.int .u8 0), .s (.int .u8 0), .s (.int .u8 0), .s (.int .u8 0), .s (.int .u8 0), .s (.int .u8 0), .s (.int .u8 0), .s (.int .u8 0), .s (.int .u8 0), .s (.int .u8 0), .s (.int .u8 0), .s (.int .u8 0), .s (.int .u8 0), .s (.int .u8 0), .s (.int .u8 0), .s (.int .u8 0), .s (.int .u8 0), .s (.int .u8 0), .s (.int .u8 0), .s (.int .u8 0), .s (.int .u8 0), .s (.slice none 0 0)]), none⟩,
  ⟨none, .store 36 (.t 1) (.t 12), none⟩,
  ⟨some 2, .mv (.t 13), none⟩]
abbrev r7_2 : List CO := [
  ⟨some 15, .bslice 1 3 ([.s (.int .u8 0)]) [(0, .c (.p (.s (.int .u8 253)))), (1, .c (.p (.s (.int .u8 2)))), (2, .c (.p (.s (.int .u8 128))))], none⟩,
  ⟨some 16, .call (.c (.fn (.func 6) [] [])) [.t 15], none⟩,
  ⟨some 14, .mv (.t 16), none⟩,
  ⟨some 17, .extract 0 (.t 14), none⟩,
  ⟨some 18, .extract 1 (.t 14), none⟩,
  ⟨some 3, .alloc ([.s (.int .i64 0), .s (.int .i64 0), .s (.int .i64 0), .s (.int .u8 0), .s (.int .u8 0), .s (.int .u8 0), .s (.int .u8 0), .s (.int .u8 0), .s (.int .u8 0), .s (.int .u8 0), .s (.int .u8 0), .s (.int .u8 0), .s (.int .u8 0), .s (.int .u8 0), .s (.int .u8 0), .s (.int .u8 0), .s (.int .u8 0), .s (.int .u8 0), .s (.int .u8 0), .s (.int .u8 0), .s (.int .u8 0), .s (.int .u8 0), .s (.int .u8 0), .s (.int .u8 0), .s (.int .u8 0), .s (.int .u8 0), .s (.int .u8 0), .s (.int .u8 0), .s (.int .u8 0), .s (.int .u8 0), .s (.int .u8 0), .s (.int .u8 0), .s (.int .u8 0), .s (.int .u8 0), .s (.int .u8 0), .s (.slice none 0 0)]), none⟩,
  ⟨none, .store 36 (.t 3) (.t 17), none⟩,
  ⟨some 4, .mv (.t 18), none⟩]
abbrev r7_3 : List CO := [
  ⟨some 20, .bslice 1 3 ([.s (.int .u8 0)]) [(0, .c (.p (.s (.int .u8 251)))), (1, .c (.p (.s (.int .u8 2)))), (2, .c (.p (.s (.int .u8 0))))], none⟩,
  ⟨some 21, .call (.c (.fn (.func 6) [] [])) [.t 20], none⟩,
  ⟨some 19, .mv (.t 21), none⟩,
  ⟨some 22, .extract 0 (.t 19), none⟩,
  ⟨some 23, .extract 1 (.t 19), none⟩,
  ⟨some 5, .alloc ([.s (.int .i64 0), .s (.int .i64 0), .s (.int .i64 0), .s (.int .u8 0), .s (.int .u8 0), .s (.int .u8 0), .s (.int .u8 0), .s (.int .u8 0), .s (.int .u8 0), .s (.int .u8 0), .s (.int .u8 0), .s (.int .u8 0), .s (.int .u8 0), .s (.int .u8 0), .s (.int .u8 0), .s (.int .u8 0), .s (.int .u8 0), .s (.int .u8 0), .s (.int .u8 0), .s (.int .u8 0), .s (.int .u8 0), .s (.int .u8 0), .s (.int .u8 0), .s (.int .u8 0), .s (.int .u8 0), .s (.int .u8 0), .s (.int .u8 0), .s (.int .u8 0), .s (.int .u8 0), .s (.int .u8 0), .s (.int .u8 0), .s (.int .u8 0), .s (.int .u8 0), .s (.int .u8 0), .s (.int .u8 0), .s (.slice none 0 0)]), none⟩,
  ⟨none, .store 36 (.t 5) (.t 22), none⟩,
  ⟨some 6, .mv (.t 23), none⟩]
abbrev r7_4 : List CO := [
  ⟨some 25, .call (.c (.fn (.func 6) [] [])) [.c (.p (.s (.slice none 0 0)))], none⟩,
  ⟨some 24, .mv (.t 25), none⟩,
  ⟨some 26, .extract 0 (.t 24), none⟩,
  ⟨some 27, .extract 1 (.t 24), none⟩,
  ⟨some 7, .alloc ([.s (.int .i64 0), .s (.int .i64 0), .s (.int .i64 0), .s (.int .u8 0), .s (.int .u8 0), .s (.int .u8 0), .s (.int .u8 0), .s (.int .u8 0), .s (.int .u8 0), .s (.int .u8 0), .s (.int .u8 0), .s (.int .u8 0), .s (.int .u8 0), .s (.int .u8 0), .s (.int .u8 0), .s (.int .u8 0), .s (.int .u8 0), .s (.int .u8 0), .s (.int .u8 0), .s (.int .u8 0), .s (.int .u8 0), .s (.int .u8 0), .s (.int .u8 0), .s (.int .u8 0), .s (.int .u8 0), .s (.int .u8 0), .s (.int .u8 0), .s (.int .u8 0), .s (.int .u8 0), .s (.int .u8 0), .s (.int .u8 0), .s (.int .u8 0), .s (.int .u8 0), .s (.int .u8 0), .s (.int .u8 0), .s (.slice none 0 0)]), none⟩,
  ⟨none, .store 36 (.t 7) (.t 26), none⟩,
  ⟨some 8, .mv (.t 27), none⟩]
abbrev r7_5 : List CO := [
  ⟨some 28, .mv (.t 2), none⟩,
  ⟨some 29, .bin .eql (.t 28) (.c (.p (.s (.int .i64 0)))), none⟩,
  ⟨some 30, .mv (.t 29), none⟩,
  ⟨some 31, .mv (.t 4), some (30, true)⟩,
  ⟨some 32, .bin .eql (.t 31) (.c (.p (.s (.int .i64 0)))), some (30, true)⟩,
  ⟨some 33, .pick (.t 30) (.t 32) (.c (.p (.s (.bool false)))), none⟩,
  ⟨some 34, .mv (.t 33), none⟩,
  ⟨some 35, .mv (.t 6), some (34, true)⟩,
  ⟨some 36, .bin .eql (.t 35) (.c (.p (.s (.int .i64 2)))), some (34, true)⟩,
  ⟨some 37, .pick (.t 34) (.t 36) (.c (.p (.s (.bool false)))), none⟩,
  ⟨some 38, .mv (.t 37), none⟩,
  ⟨some 39, .mv (.t 8), some (38, true)⟩,
  ⟨some 40, .bin .eql (.t 39) (.c (.p (.s (.int .i64 2)))), some (38, true)⟩,
  ⟨some 41, .pick (.t 38) (.t 40) (.c (.p (.s (.bool false)))), none⟩,
  ⟨some 42, .mv (.t 41), none⟩,
  ⟨some 43, .faddr 0 (.t 1), some (42, true)⟩,
  ⟨some 44, .load false 1 (.t 43), some (42, true)⟩,
  ⟨some 45, .bin .eql (.t 44) (.c (.p (.s (.int .i64 1)))), some (42, true)⟩,
  ⟨some 46, .pick (.t 42) (.t 45) (.c (.p (.s (.bool false)))), none⟩,
  ⟨some 47, .mv (.t 46), none⟩,
  ⟨some 48, .faddr 1 (.t 1), some (47, true)⟩,
  ⟨some 49, .load false 1 (.t 48), some (47, true)⟩,
  ⟨some 50, .bin .eql (.t 49) (.c (.p (.s (.int .i64 3)))), some (47, true)⟩,
  ⟨some 51, .pick (.t 47) (.t 50) (.c (.p (.s (.bool false)))), none⟩,
  ⟨some 52, .mv (.t 51), none⟩,
  ⟨some 53, .faddr 2 (.t 3), some (52, true)⟩,
  ⟨some 54, .load false 1 (.t 53), some (52, true)⟩,
  ⟨some 55, .bin .eql (.t 54) (.c (.p (.s (.int .i64 253)))), some (52, true)⟩,
  ⟨some 56, .pick (.t 52) (.t 55) (.c (.p (.s (.bool false)))), none⟩,
  ⟨some 57, .mv (.t 56), none⟩,
  ⟨some 58, .faddr 3 (.t 3), some (57, true)⟩,
  ⟨some 59, .load true 32 (.t 58), some (57, true)⟩,
  ⟨some 60, .call (.c (.fn (.func 11) [] [])) [.t 59, .c (.p (.s (.int .u8 0)))], some (57, true)⟩,
  ⟨some 61, .pick (.t 57) (.t 60) (.c (.p (.s (.bool false)))), none⟩,
  ⟨some 62, .mv (.t 61), none⟩,
  ⟨some 63, .pick (.t 62) (.c (.p (.s (.bool true)))) (.c (.p (.s (.bool false)))), none⟩,
  ⟨some 64, .mv (.t 63), none⟩,
  ⟨some 65, .pick (.t 64) (.c (.p (.s (.bool true)))) (.c (.p (.s (.bool false)))), none⟩,
  ⟨some 66, .mv (.t 65), none⟩,
  ⟨some 67, .pick (.t 66) (.c (.p (.s (.bool true)))) (.c (.p (.s (.bool false)))), none⟩,
  ⟨some 68, .mv (.t 67), none⟩,
  ⟨some 69, .pick (.t 68) (.c (.p (.s (.bool true)))) (.c (.p (.s (.bool false)))), none⟩,
  ⟨some 70, .mv (.t 69), none⟩,
  ⟨some 71, .pick (.t 70) (.c (.p (.s (.bool true)))) (.c (.p (.s (.bool false)))), none⟩,
  ⟨some 72, .mv (.t 71), none⟩,
  ⟨some 73, .pick (.t 72) (.c (.p (.s (.bool true)))) (.c (.p (.s (.bool false)))), none⟩,
  ⟨some 74, .mv (.t 73), none⟩,
  ⟨some 75, .pick (.t 74) (.c (.p (.s (.bool true)))) (.c (.p (.s (.bool false)))), none⟩,
  ⟨some 76, .mv (.t 75), none⟩,
  ⟨some 77, .pick (.t 76) (.c (.p (.s (.bool true)))) (.c (.p (.s (.bool false)))), none⟩,
  ⟨some 0, .mv (.t 77), none⟩]
abbrev c7 : CC := .seq (.reg r7_0) (.seq (.reg r7_1) (.rest [1, 2] (.seq (.reg r7_2) (.rest [1, 2, 3, 4] (.seq (.reg r7_3) (.rest [1, 2, 3, 4, 6] (.seq (.reg r7_4) (.rest [1, 2, 3, 4, 6, 8] (.seq (.reg r7_5) (.rest [0] (.ret)))))))))))
theorem F7 : Fun Try.prog 7 78 c7 [.tmp 0] 0 := ⟨⟨Try.f7, _, Try.func7, rfl, by kernel_rfl, Try.ntmps7, by kernel_rfl, by kernel_rfl⟩, by decide⟩

/-- linnet/linnetref07.Same -/
abbrev r8_0 : List CO := [
  ⟨some 4, .mv (.c (.p (.s (.bool false)))), none⟩]
abbrev r8_1 : List CO := [
  ⟨some 6, .mv (.t 0), none⟩,
  ⟨some 7, .len (.t 6), none⟩,
  ⟨some 8, .mv (.t 1), none⟩,
  ⟨some 9, .len (.t 8), none⟩,
  ⟨some 10, .bin .neq (.t 7) (.t 9), none⟩]
abbrev r8_2 : List CO := [
  ⟨some 4, .mv (.c (.p (.s (.bool false)))), none⟩]
abbrev r8_3 : List CO := [
  ⟨some 5, .mv (.c (.p (.s (.int .i64 0)))), none⟩]
abbrev r8_4 : List CO := [
  ⟨some 11, .mv (.t 5), none⟩,
  ⟨some 12, .mv (.t 0), none⟩,
  ⟨some 13, .len (.t 12), none⟩,
  ⟨some 14, .bin .lss (.t 11) (.t 13), none⟩]
abbrev r8_6 : List CO := [
  ⟨some 17, .mv (.t 0), none⟩,
  ⟨some 18, .mv (.t 5), none⟩,
  ⟨some 19, .iaddrS 6 (.t 17) (.t 18), none⟩,
  ⟨some 20, .load true 6 (.t 19), none⟩,
  ⟨some 21, .mv (.t 1), none⟩,
  ⟨some 22, .mv (.t 5), none⟩,
  ⟨some 23, .iaddrS 6 (.t 21) (.t 22), none⟩,
  ⟨some 24, .load true 6 (.t 23), none⟩,
  ⟨some 25, .eqs true [0, 0, 1, 1, 1, 0] (.t 20) (.t 24), none⟩]
abbrev b8_6 : List (List Nat) := [[], [], [0, 1], [2], [], [], [4, 5], [6], [3, 7]]
abbrev r8_7 : List CO := [
  ⟨some 4, .mv (.c (.p (.s (.bool false)))), none⟩]
abbrev k8_1 : CC := .seq (.regd r8_6 b8_6) (.rest [0, 1, 5, 25] (.cond (.t 25) (.seq (.reg r8_7) (.ret)) (.skip)))
abbrev r8_5 : List CO := [
  ⟨some 15, .mv (.t 5), none⟩,
  ⟨some 16, .bin .add (.t 15) (.c (.p (.s (.int .i64 1)))), none⟩,
  ⟨some 5, .mv (.t 16), none⟩]
abbrev l8_10 : CC := .seq (.seq (.reg r8_4) (.rest [0, 1, 5, 14] (.cond (.t 14) (.skip) (.exit 0)))) (.rest [0, 1, 5] (.seq (.block 1 k8_1) (.rest [0, 1, 5] (.reg r8_5))))
abbrev k8_0 : CC := .loop l8_10
abbrev r8_8 : List CO := [
  ⟨some 4, .mv (.c (.p (.s (.bool true)))), none⟩]
abbrev c8 : CC := .seq (.reg r8_0) (.seq (.seq (.reg r8_1) (.rest [0, 1, 10] (.cond (.t 10) (.seq (.reg r8_2) (.ret)) (.skip)))) (.rest [0, 1] (.seq (.seq (.reg r8_3) (.block 0 k8_0)) (.rest [] (.seq (.reg r8_8) (.ret))))))
theorem F8 : Fun Try.prog 8 26 c8 [.tmp 4] 2 := ⟨⟨Try.f8, _, Try.func8, rfl, by kernel_rfl, Try.ntmps8, by kernel_rfl, by kernel_rfl⟩, by decide⟩

/-- linnet/subopt.Get$1 (recovers) -/
abbrev q9 : List CO := [
  ⟨some 6, .ext (.tassert 37 ([])) [.t 5], none⟩,
  ⟨some 4, .mv (.t 6), none⟩,
  ⟨some 7, .extract 0 (.t 4), none⟩,
  ⟨some 8, .extract 1 (.t 4), none⟩,
  ⟨some 2, .alloc ([]), none⟩,
  ⟨none, .store 0 (.t 2) (.t 7), none⟩,
  ⟨some 3, .mv (.t 8), none⟩]
abbrev r9_1 : List CO := [
  ⟨some 9, .mv (.t 3), none⟩]
abbrev r9_2 : List CO := [
  ⟨some 10, .build ([.s (.int .i64 0), .s (.int .i64 0), .s (.int .i64 0), .s (.int .u8 0), .s (.int .u8 0), .s (.int .u8 0), .s (.int .u8 0), .s (.int .u8 0), .s (.int .u8 0), .s (.int .u8 0), .s (.int .u8 0), .s (.int .u8 0), .s (.int .u8 0), .s (.int .u8 0), .s (.int .u8 0), .s (.int .u8 0), .s (.int .u8 0), .s (.int .u8 0), .s (.int .u8 0), .s (.int .u8 0), .s (.int .u8 0), .s (.int .u8 0), .s (.int .u8 0), .s (.int .u8 0), .s (.int .u8 0), .s (.int .u8 0), .s (.int .u8 0), .s (.int .u8 0), .s (.int .u8 0), .s (.int .u8 0), .s (.int .u8 0), .s (.int .u8 0), .s (.int .u8 0), .s (.int .u8 0), .s (.int .u8 0), .s (.slice none 0 0)]) [], none⟩,
  ⟨none, .store 36 (.t 0) (.t 10), none⟩,
  ⟨none, .store 1 (.t 1) (.c (.p (.s (.int .i64 2)))), none⟩]
abbrev cb9 : CC := .seq (.reg r9_1) (.cond (.t 9) (.reg r9_2) (.skip))
theorem D9 : DFun Try.prog 9 11 5 q9 cb9 := ⟨Try.f9, _, _, _, _, _, Try.func9, rfl, by kernel_rfl, Try.ntmps9, rfl, rfl, rfl, rfl, rfl, by kernel_rfl, by kernel_rfl⟩

/-- linnet/subopt.take -/
abbrev r10_0 : List CO := [
  ⟨some 2, .alloc ([.s (.int .i64 0), .s (.int .i64 0), .s (.int .i64 0), .s (.int .u8 0), .s (.int .u8 0), .s (.int .u8 0), .s (.int .u8 0), .s (.int .u8 0), .s (.int .u8 0), .s (.int .u8 0), .s (.int .u8 0), .s (.int .u8 0), .s (.int .u8 0), .s (.int .u8 0), .s (.int .u8 0), .s (.int .u8 0), .s (.int .u8 0), .s (.int .u8 0), .s (.int .u8 0), .s (.int .u8 0), .s (.int .u8 0), .s (.int .u8 0), .s (.int .u8 0), .s (.int .u8 0), .s (.int .u8 0), .s (.int .u8 0), .s (.int .u8 0), .s (.int .u8 0), .s (.int .u8 0), .s (.int .u8 0), .s (.int .u8 0), .s (.int .u8 0), .s (.int .u8 0), .s (.int .u8 0), .s (.int .u8 0), .s (.slice none 0 0)]), none⟩]
abbrev r10_1 : List CO := [
  ⟨some 9, .mv (.t 0), none⟩,
  ⟨some 10, .len (.t 9), none⟩,
  ⟨some 11, .bin .gtr (.t 10) (.c (.p (.s (.int .i64 0)))), none⟩,
  ⟨some 12, .call (.c (.fn (.func 12) [] [])) [.t 11], none⟩]
abbrev r10_2 : List CO := [
  ⟨some 13, .mv (.t 0), none⟩,
  ⟨some 14, .iaddrS 1 (.t 13) (.c (.p (.s (.int .i64 0)))), none⟩,
  ⟨some 15, .load false 1 (.t 14), none⟩,
  ⟨some 16, .toInt .i64 (.t 15), none⟩,
  ⟨some 17, .mv (.t 0), none⟩,
  ⟨some 18, .slice 1 (.t 17) (some (.c (.p (.s (.int .i64 1))))) none, none⟩,
  ⟨some 3, .mv (.t 16), none⟩,
  ⟨some 4, .mv (.t 18), none⟩]
abbrev b10_2 : List (List Nat) := [[], [0], [1], [2], [], [4], [3, 0, 1, 2, 3], [5, 6, 0, 1, 2, 3, 4, 5, 6]]
abbrev r10_3 : List CO := [
  ⟨some 20, .mv (.t 3), none⟩,
  ⟨some 21, .bin .eql (.t 20) (.c (.p (.s (.int .i64 1)))), none⟩,
  ⟨some 19, .mv (.t 21), none⟩]
abbrev r10_4 : List CO := [
  ⟨some 22, .mv (.t 4), none⟩,
  ⟨some 23, .len (.t 22), none⟩,
  ⟨some 24, .bin .eql (.t 23) (.c (.p (.s (.int .i64 1)))), none⟩,
  ⟨some 25, .mv (.t 24), none⟩,
  ⟨some 26, .mv (.t 4), some (25, true)⟩,
  ⟨some 27, .iaddrS 1 (.t 26) (.c (.p (.s (.int .i64 0)))), some (25, true)⟩,
  ⟨some 28, .load false 1 (.t 27), some (25, true)⟩,
  ⟨some 29, .bin .leq (.t 28) (.c (.p (.s (.int .u8 31)))), some (25, true)⟩,
  ⟨some 30, .pick (.t 25) (.t 29) (.c (.p (.s (.bool false)))), none⟩,
  ⟨some 31, .call (.c (.fn (.func 12) [] [])) [.t 30], none⟩]
abbrev r10_5 : List CO := [
  ⟨some 32, .mv (.t 4), none⟩,
  ⟨some 33, .iaddrS 1 (.t 32) (.c (.p (.s (.int .i64 0)))), none⟩,
  ⟨some 34, .load false 1 (.t 33), none⟩,
  ⟨some 35, .toInt .i64 (.t 34), none⟩,
  ⟨some 36, .build ([.s (.int .i64 0), .s (.int .i64 0), .s (.int .i64 0), .s (.int .u8 0), .s (.int .u8 0), .s (.int .u8 0), .s (.int .u8 0), .s (.int .u8 0), .s (.int .u8 0), .s (.int .u8 0), .s (.int .u8 0), .s (.int .u8 0), .s (.int .u8 0), .s (.int .u8 0), .s (.int .u8 0), .s (.int .u8 0), .s (.int .u8 0), .s (.int .u8 0), .s (.int .u8 0), .s (.int .u8 0), .s (.int .u8 0), .s (.int .u8 0), .s (.int .u8 0), .s (.int .u8 0), .s (.int .u8 0), .s (.int .u8 0), .s (.int .u8 0), .s (.int .u8 0), .s (.int .u8 0), .s (.int .u8 0), .s (.int .u8 0), .s (.int .u8 0), .s (.int .u8 0), .s (.int .u8 0), .s (.int .u8 0), .s (.slice none 0 0)]) [(0, 1, .c (.p (.s (.int .i64 1)))), (1, 1, .t 35)], none⟩,
  ⟨none, .store 36 (.t 2) (.t 36), none⟩]
abbrev r10_6 : List CO := [
  ⟨some 38, .mv (.t 3), none⟩,
  ⟨some 39, .bin .eql (.t 38) (.c (.p (.s (.int .i64 3)))), none⟩,
  ⟨some 37, .mv (.t 39), none⟩]
abbrev r10_7 : List CO := [
  ⟨some 41, .mv (.t 4), none⟩,
  ⟨some 42, .call (.c (.fn (.func 13) [] [])) [.t 41], none⟩,
  ⟨some 40, .mv (.t 42), none⟩,
  ⟨some 43, .extract 0 (.t 40), none⟩,
  ⟨some 44, .extract 1 (.t 40), none⟩,
  ⟨some 5, .mv (.t 43), none⟩,
  ⟨some 6, .mv (.t 44), none⟩]
abbrev r10_8 : List CO := [
  ⟨some 45, .mv (.t 6), none⟩,
  ⟨some 46, .bin .eql (.t 45) (.c (.p (.s (.int .i64 0)))), none⟩,
  ⟨some 47, .mv (.t 46), none⟩,
  ⟨some 48, .mv (.t 5), some (47, true)⟩,
  ⟨some 49, .len (.t 48), some (47, true)⟩,
  ⟨some 50, .bin .leq (.t 49) (.c (.p (.s (.int .i64 170)))), some (47, true)⟩,
  ⟨some 51, .pick (.t 47) (.t 50) (.c (.p (.s (.bool false)))), none⟩,
  ⟨some 52, .call (.c (.fn (.func 12) [] [])) [.t 51], none⟩]
abbrev r10_9 : List CO := [
  ⟨some 53, .mv (.t 5), none⟩,
  ⟨some 54, .build ([.s (.int .i64 0), .s (.int .i64 0), .s (.int .i64 0), .s (.int .u8 0), .s (.int .u8 0), .s (.int .u8 0), .s (.int .u8 0), .s (.int .u8 0), .s (.int .u8 0), .s (.int .u8 0), .s (.int .u8 0), .s (.int .u8 0), .s (.int .u8 0), .s (.int .u8 0), .s (.int .u8 0), .s (.int .u8 0), .s (.int .u8 0), .s (.int .u8 0), .s (.int .u8 0), .s (.int .u8 0), .s (.int .u8 0), .s (.int .u8 0), .s (.int .u8 0), .s (.int .u8 0), .s (.int .u8 0), .s (.int .u8 0), .s (.int .u8 0), .s (.int .u8 0), .s (.int .u8 0), .s (.int .u8 0), .s (.int .u8 0), .s (.int .u8 0), .s (.int .u8 0), .s (.int .u8 0), .s (.int .u8 0), .s (.slice none 0 0)]) [(0, 1, .c (.p (.s (.int .i64 3)))), (35, 1, .t 53)], none⟩,
  ⟨none, .store 36 (.t 2) (.t 54), none⟩]
abbrev k10_0 : CC := .seq (.reg r10_3) (.cond (.t 19) (.seq (.reg r10_4) (.rest [2, 4] (.seq (.reg r10_5) (.rest [2] (.ret))))) (.seq (.reg r10_6) (.cond (.t 37) (.seq (.reg r10_7) (.rest [2, 5, 6] (.seq (.reg r10_8) (.rest [2, 5] (.seq (.reg r10_9) (.ret)))))) (.skip))))
abbrev r10_10 : List CO := [
  ⟨some 55, .mv (.t 3), none⟩,
  ⟨some 56, .bin .geq (.t 55) (.c (.p (.s (.int .i64 251)))), none⟩,
  ⟨some 57, .mv (.t 56), none⟩,
  ⟨some 58, .mv (.t 3), some (57, true)⟩,
  ⟨some 59, .bin .leq (.t 58) (.c (.p (.s (.int .i64 254)))), some (57, true)⟩,
  ⟨some 60, .pick (.t 57) (.t 59) (.c (.p (.s (.bool false)))), none⟩,
  ⟨some 61, .mv (.t 60), none⟩,
  ⟨some 62, .mv (.t 4), some (61, true)⟩,
  ⟨some 63, .len (.t 62), some (61, true)⟩,
  ⟨some 64, .bin .gtr (.t 63) (.c (.p (.s (.int .i64 0)))), some (61, true)⟩,
  ⟨some 65, .pick (.t 61) (.t 64) (.c (.p (.s (.bool false)))), none⟩,
  ⟨some 66, .mv (.t 65), none⟩,
  ⟨some 67, .mv (.t 4), some (66, true)⟩,
  ⟨some 68, .iaddrS 1 (.t 67) (.c (.p (.s (.int .i64 0)))), some (66, true)⟩,
  ⟨some 69, .load false 1 (.t 68), some (66, true)⟩,
  ⟨some 70, .bin .eql (.t 69) (.c (.p (.s (.int .u8 2)))), some (66, true)⟩,
  ⟨some 71, .pick (.t 66) (.t 70) (.c (.p (.s (.bool false)))), none⟩,
  ⟨some 72, .call (.c (.fn (.func 12) [] [])) [.t 71], none⟩]
abbrev r10_11 : List CO := [
  ⟨some 74, .mv (.t 4), none⟩,
  ⟨some 75, .slice 1 (.t 74) (some (.c (.p (.s (.int .i64 1))))) none, none⟩,
  ⟨some 76, .call (.c (.fn (.func 14) [] [])) [.t 75], none⟩,
  ⟨some 73, .mv (.t 76), none⟩,
  ⟨some 77, .extract 0 (.t 73), none⟩,
  ⟨some 78, .extract 1 (.t 73), none⟩,
  ⟨some 7, .alloc (List.replicate 32 (.s (.int .u8 0))), none⟩,
  ⟨none, .store 32 (.t 7) (.t 77), none⟩,
  ⟨some 8, .mv (.t 78), none⟩]
abbrev r10_12 : List CO := [
  ⟨some 79, .mv (.t 8), none⟩,
  ⟨some 80, .bin .eql (.t 79) (.c (.p (.s (.int .i64 0)))), none⟩,
  ⟨some 81, .mv (.t 80), none⟩,
  ⟨some 82, .mv (.t 3), some (81, true)⟩,
  ⟨some 83, .bin .eql (.t 82) (.c (.p (.s (.int .i64 253)))), some (81, true)⟩,
  ⟨some 84, .mv (.t 83), some (81, true)⟩,
  ⟨some 85, .mv (.t 4), some (84, false)⟩,
  ⟨some 86, .len (.t 85), some (84, false)⟩,
  ⟨some 87, .bin .eql (.t 86) (.c (.p (.s (.int .i64 1)))), some (84, false)⟩,
  ⟨some 88, .pick (.t 84) (.c (.p (.s (.bool true)))) (.t 87), some (81, true)⟩,
  ⟨some 89, .pick (.t 81) (.t 88) (.c (.p (.s (.bool false)))), none⟩,
  ⟨some 90, .call (.c (.fn (.func 12) [] [])) [.t 89], none⟩]
abbrev r10_13 : List CO := [
  ⟨some 91, .mv (.t 3), none⟩,
  ⟨some 92, .load true 32 (.t 7), none⟩,
  ⟨some 93, .build ([.s (.int .i64 0), .s (.int .i64 0), .s (.int .i64 0), .s (.int .u8 0), .s (.int .u8 0), .s (.int .u8 0), .s (.int .u8 0), .s (.int .u8 0), .s (.int .u8 0), .s (.int .u8 0), .s (.int .u8 0), .s (.int .u8 0), .s (.int .u8 0), .s (.int .u8 0), .s (.int .u8 0), .s (.int .u8 0), .s (.int .u8 0), .s (.int .u8 0), .s (.int .u8 0), .s (.int .u8 0), .s (.int .u8 0), .s (.int .u8 0), .s (.int .u8 0), .s (.int .u8 0), .s (.int .u8 0), .s (.int .u8 0), .s (.int .u8 0), .s (.int .u8 0), .s (.int .u8 0), .s (.int .u8 0), .s (.int .u8 0), .s (.int .u8 0), .s (.int .u8 0), .s (.int .u8 0), .s (.int .u8 0), .s (.slice none 0 0)]) [(0, 1, .c (.p (.s (.int .i64 2)))), (2, 1, .t 91), (3, 32, .t 92)], none⟩,
  ⟨none, .store 36 (.t 2) (.t 93), none⟩]
abbrev c10 : CC := .seq (.reg r10_0) (.seq (.reg r10_1) (.rest [0, 2] (.seq (.regd r10_2 b10_2) (.rest [2, 3, 4] (.seq (.block 0 k10_0) (.rest [2, 3, 4] (.seq (.reg r10_10) (.rest [2, 3, 4] (.seq (.reg r10_11) (.rest [2, 3, 4, 7, 8] (.seq (.reg r10_12) (.rest [2, 3, 7] (.seq (.reg r10_13) (.rest [2] (.ret)))))))))))))))
theorem F10 : Fun Try.prog 10 94 c10 [.cell 2 true 36] 1 := ⟨⟨Try.f10, _, Try.func10, rfl, by kernel_rfl, Try.ntmps10, by kernel_rfl, by kernel_rfl⟩, by decide⟩

/-- linnet/mask.Has -/
abbrev r11_0 : List CO := [
  ⟨some 2, .box (.t 0), none⟩,
  ⟨some 4, .mv (.c (.p (.s (.bool false)))), none⟩]
abbrev r11_1 : List CO := [
  ⟨some 8, .mv (.t 1), none⟩,
  ⟨some 9, .call (.c (.fn (.func 15) [] [])) [.t 8], none⟩,
  ⟨some 7, .mv (.t 9), none⟩,
  ⟨some 10, .extract 0 (.t 7), none⟩,
  ⟨some 11, .extract 1 (.t 7), none⟩,
  ⟨some 5, .mv (.t 10), none⟩,
  ⟨some 6, .mv (.t 11), none⟩]
abbrev r11_2 : List CO := [
  ⟨some 12, .mv (.t 5), none⟩,
  ⟨some 13, .iaddrA 1 32 (.t 2) (.t 12), none⟩,
  ⟨some 14, .load false 1 (.t 13), none⟩,
  ⟨some 15, .mv (.t 6), none⟩,
  ⟨some 16, .bin .and (.t 14) (.t 15), none⟩,
  ⟨some 17, .bin .neq (.t 16) (.c (.p (.s (.int .u8 0)))), none⟩,
  ⟨some 4, .mv (.t 17), none⟩]
abbrev c11 : CC := .seq (.reg r11_0) (.seq (.reg r11_1) (.rest [2, 5, 6] (.seq (.reg r11_2) (.rest [4] (.ret)))))
theorem F11 : Fun Try.prog 11 18 c11 [.tmp 4] 2 := ⟨⟨Try.f11, _, Try.func11, rfl, by kernel_rfl, Try.ntmps11, by kernel_rfl, by kernel_rfl⟩, by decide⟩

/-- linnet/subopt.must -/
abbrev r12_0 : List CO := [
  ⟨some 2, .mv (.t 0), none⟩,
  ⟨some 3, .un .not (.t 2), none⟩]
abbrev r12_1 : List CO := [
  ⟨some 4, .build ([]) [], none⟩,
  ⟨some 5, .mkif 37 (.t 4), none⟩,
  ⟨none, .panic (.t 5), none⟩]
abbrev c12 : CC := .seq (.reg r12_0) (.cond (.t 3) (.reg r12_1) (.skip))
theorem F12 : Fun Try.prog 12 6 c12 [] 1 := ⟨⟨Try.f12, _, Try.func12, rfl, by kernel_rfl, Try.ntmps12, by kernel_rfl, by kernel_rfl⟩, by decide⟩

/-- linnet/slc.Get -/
abbrev r13_0 : List CO := [
  ⟨some 2, .mv (.c (.p (.s (.slice none 0 0)))), none⟩,
  ⟨some 3, .mv (.c (.p (.s (.int .i64 0)))), none⟩]
abbrev r13_1 : List CO := [
  ⟨some 6, .mv (.t 0), none⟩,
  ⟨some 7, .len (.t 6), none⟩,
  ⟨some 8, .bin .rem (.t 7) (.c (.p (.s (.int .i64 3)))), none⟩,
  ⟨some 9, .bin .neq (.t 8) (.c (.p (.s (.int .i64 0)))), none⟩]
abbrev r13_2 : List CO := [
  ⟨some 2, .mv (.c (.p (.s (.slice none 0 0)))), none⟩,
  ⟨some 3, .mv (.c (.p (.s (.int .i64 2)))), none⟩]
abbrev r13_3 : List CO := [
  ⟨some 4, .mv (.c (.p (.s (.slice none 0 0)))), none⟩]
abbrev r13_4 : List CO := [
  ⟨some 10, .mv (.t 0), none⟩,
  ⟨some 11, .len (.t 10), none⟩,
  ⟨some 12, .bin .gtr (.t 11) (.c (.p (.s (.int .i64 0)))), none⟩]
abbrev r13_6 : List CO := [
  ⟨some 15, .mv (.t 0), none⟩,
  ⟨some 16, .iaddrS 1 (.t 15) (.c (.p (.s (.int .i64 1)))), none⟩,
  ⟨some 17, .load false 1 (.t 16), none⟩,
  ⟨some 5, .mv (.t 17), none⟩]
abbrev r13_7 : List CO := [
  ⟨some 18, .mv (.t 5), none⟩,
  ⟨some 19, .bin .and (.t 18) (.c (.p (.s (.int .u8 28)))), none⟩,
  ⟨some 20, .bin .neq (.t 19) (.c (.p (.s (.int .u8 0)))), none⟩]
abbrev r13_8 : List CO := [
  ⟨some 2, .mv (.c (.p (.s (.slice none 0 0)))), none⟩,
  ⟨some 3, .mv (.c (.p (.s (.int .i64 2)))), none⟩]
abbrev r13_9 : List CO := [
  ⟨some 21, .mv (.t 4), none⟩,
  ⟨some 22, .mv (.t 0), none⟩,
  ⟨some 23, .iaddrS 1 (.t 22) (.c (.p (.s (.int .i64 0)))), none⟩,
  ⟨some 24, .load false 1 (.t 23), none⟩,
  ⟨some 25, .toInt .i64 (.t 24), none⟩,
  ⟨some 26, .mv (.t 5), none⟩,
  ⟨some 27, .bin .and (.t 26) (.c (.p (.s (.int .u8 3)))), none⟩,
  ⟨some 28, .toInt .i64 (.t 27), none⟩,
  ⟨some 29, .mv (.t 5), none⟩,
  ⟨some 30, .bin .and (.t 29) (.c (.p (.s (.int .u8 128)))), none⟩,
  ⟨some 31, .bin .neq (.t 30) (.c (.p (.s (.int .u8 0)))), none⟩,
  ⟨some 32, .mv (.t 5), none⟩,
  ⟨some 33, .bin .and (.t 32) (.c (.p (.s (.int .u8 64)))), none⟩,
  ⟨some 34, .bin .neq (.t 33) (.c (.p (.s (.int .u8 0)))), none⟩,
  ⟨some 35, .mv (.t 5), none⟩,
  ⟨some 36, .bin .and (.t 35) (.c (.p (.s (.int .u8 32)))), none⟩,
  ⟨some 37, .bin .neq (.t 36) (.c (.p (.s (.int .u8 0)))), none⟩,
  ⟨some 38, .mv (.t 0), none⟩,
  ⟨some 39, .iaddrS 1 (.t 38) (.c (.p (.s (.int .i64 2)))), none⟩,
  ⟨some 40, .load false 1 (.t 39), none⟩,
  ⟨some 41, .build ([.s (.int .i64 0), .s (.int .i64 0), .s (.bool false), .s (.bool false), .s (.bool false), .s (.int .u8 0)]) [(0, 1, .t 25), (1, 1, .t 28), (2, 1, .t 31), (3, 1, .t 34), (4, 1, .t 37), (5, 1, .t 40)], none⟩,
  ⟨some 42, .bslice 6 1 ([.s (.int .i64 0), .s (.int .i64 0), .s (.bool false), .s (.bool false), .s (.bool false), .s (.int .u8 0)]) [(0, .t 41)], none⟩,
  ⟨some 43, .append 6 24 ([.s (.int .i64 0), .s (.int .i64 0), .s (.bool false), .s (.bool false), .s (.bool false), .s (.int .u8 0)]) (.t 21) (.t 42), none⟩,
  ⟨some 4, .mv (.t 43), none⟩]
abbrev b13_9 : List (List Nat) := [[], [], [1], [2], [3], [], [5], [6], [], [8], [9], [], [11], [12], [], [14], [15], [], [17], [18], [4, 7, 10, 13, 16, 19], [20], [0, 21], [22, 22, 0, 1, 2, 3, 4, 5, 6, 7, 8, 9, 10, 11, 12, 13, 14, 15, 16, 17, 18, 19, 20, 21, 22]]
abbrev k13_1 : CC := .seq (.reg r13_6) (.rest [0, 4, 5] (.seq (.seq (.reg r13_7) (.cond (.t 20) (.seq (.reg r13_8) (.ret)) (.skip))) (.rest [0, 4, 5] (.regd r13_9 b13_9))))
abbrev r13_5 : List CO := [
  ⟨some 13, .mv (.t 0), none⟩,
  ⟨some 14, .slice 1 (.t 13) (some (.c (.p (.s (.int .i64 3))))) none, none⟩,
  ⟨some 0, .mv (.t 14), none⟩]
abbrev l13_12 : CC := .seq (.seq (.reg r13_4) (.cond (.t 12) (.skip) (.exit 0))) (.seq (.block 1 k13_1) (.rest [0, 4] (.reg r13_5)))
abbrev k13_0 : CC := .loop l13_12
abbrev r13_10 : List CO := [
  ⟨some 44, .mv (.t 4), none⟩,
  ⟨some 2, .mv (.t 44), none⟩,
  ⟨some 3, .mv (.c (.p (.s (.int .i64 0)))), none⟩]
abbrev c13 : CC := .seq (.reg r13_0) (.seq (.seq (.reg r13_1) (.rest [0, 9] (.cond (.t 9) (.seq (.reg r13_2) (.ret)) (.skip)))) (.rest [0] (.seq (.reg r13_3) (.seq (.block 0 k13_0) (.rest [4] (.seq (.reg r13_10) (.ret)))))))
theorem F13 : Fun Try.prog 13 45 c13 [.tmp 2, .tmp 3] 1 := ⟨⟨Try.f13, _, Try.func13, rfl, by kernel_rfl, Try.ntmps13, by kernel_rfl, by kernel_rfl⟩, by decide⟩

/-- linnet/mask.Get -/
abbrev r14_0 : List CO := [
  ⟨some 2, .alloc (List.replicate 32 (.s (.int .u8 0))), none⟩,
  ⟨some 3, .mv (.c (.p (.s (.int .i64 0)))), none⟩]
abbrev r14_1 : List CO := [
  ⟨some 4, .alloc (List.replicate 32 (.s (.int .u8 0))), none⟩]
abbrev r14_2 : List CO := [
  ⟨some 5, .mv (.t 0), none⟩,
  ⟨some 6, .len (.t 5), none⟩,
  ⟨some 7, .bin .gtr (.t 6) (.c (.p (.s (.int .i64 32)))), none⟩]
abbrev r14_3 : List CO := [
  ⟨some 8, .load true 32 (.t 4), none⟩,
  ⟨none, .store 32 (.t 2) (.t 8), none⟩,
  ⟨some 3, .mv (.c (.p (.s (.int .i64 3)))), none⟩]
abbrev r14_4 : List CO := [
  ⟨some 9, .ext (.mslice 1 32 false false) [.t 4], none⟩,
  ⟨some 10, .mv (.t 0), none⟩,
  ⟨some 11, .ext (.copy 1) [.t 9, .t 10], none⟩]
abbrev r14_5 : List CO := [
  ⟨some 12, .load true 32 (.t 4), none⟩,
  ⟨none, .store 32 (.t 2) (.t 12), none⟩,
  ⟨some 3, .mv (.c (.p (.s (.int .i64 0)))), none⟩]
abbrev c14 : CC := .seq (.reg r14_0) (.seq (.reg r14_1) (.seq (.seq (.reg r14_2) (.cond (.t 7) (.seq (.reg r14_3) (.ret)) (.skip))) (.rest [0, 2, 4] (.seq (.reg r14_4) (.seq (.reg r14_5) (.ret))))))
theorem F14 : Fun Try.prog 14 13 c14 [.cell 2 true 32, .tmp 3] 1 := ⟨⟨Try.f14, _, Try.func14, rfl, by kernel_rfl, Try.ntmps14, by kernel_rfl, by kernel_rfl⟩, by decide⟩

/-- linnet/mask.bit -/
abbrev r15_0 : List CO := [
  ⟨some 2, .mv (.c (.p (.s (.int .i64 0)))), none⟩,
  ⟨some 3, .mv (.c (.p (.s (.int .u8 0)))), none⟩]
abbrev r15_1 : List CO := [
  ⟨some 4, .mv (.t 0), none⟩,
  ⟨some 5, .bin .shr (.t 4) (.c (.p (.s (.int .u64 3)))), none⟩,
  ⟨some 6, .toInt .i64 (.t 5), none⟩,
  ⟨some 7, .mv (.t 0), none⟩,
  ⟨some 8, .bin .and (.t 7) (.c (.p (.s (.int .u8 7)))), none⟩,
  ⟨some 9, .bin .shr (.c (.p (.s (.int .u8 128)))) (.t 8), none⟩,
  ⟨some 2, .mv (.t 6), none⟩,
  ⟨some 3, .mv (.t 9), none⟩]
abbrev c15 : CC := .seq (.reg r15_0) (.seq (.reg r15_1) (.rest [2, 3] (.ret)))
theorem F15 : Fun Try.prog 15 10 c15 [.tmp 2, .tmp 3] 1 := ⟨⟨Try.f15, _, Try.func15, rfl, by kernel_rfl, Try.ntmps15, by kernel_rfl, by kernel_rfl⟩, by decide⟩

end Go.Proofs.Ytaopaggmhleeoaa
