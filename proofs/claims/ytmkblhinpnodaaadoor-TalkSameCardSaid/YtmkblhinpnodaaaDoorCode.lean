/- Code of functions of the given program in compact form, printed by a program of this repository (wip/tools/gen.py) out of what Lean prints of the loaded functions; each is checked by the kernel. -/
import Derived.Test.YtmkblhinpnodaaaDoorZ3
import Derived.Test.YtmkblhinpnodaaaDoorZ3
import Derived.Test.YtmkblhinpnodaaaDoorProg
import Derived.KernelRfl
namespace Go.Proofs.YtmkblhinpnodaaaDoor
open Go Go.Shade

/-- linnet/linnetlaw15.TalkQuiet -/
abbrev r3_0 : List CO := [
  ⟨some 2, .box (.t 0), none⟩,
  ⟨some 4, .mv (.c (.p (.s (.bool false)))), none⟩]
abbrev r3_1 : List CO := [
  ⟨some 16, .mv (.t 1), none⟩,
  ⟨some 17, .call (.c (.fn (.func 9) [] [])) [.t 16], none⟩,
  ⟨some 1, .mv (.t 17), none⟩]
abbrev r3_2 : List CO := [
  ⟨some 5, .alloc ([.s (.slice none 0 0), .s (.int .i64 0), .s (.bool false), .s (.bool false), .s (.bool false)]), none⟩,
  ⟨some 6, .alloc ([.s (.slice none 0 0), .s (.int .i64 0), .s (.bool false), .s (.bool false), .s (.bool false)]), none⟩]
abbrev r3_3 : List CO := [
  ⟨some 7, .mv (.c (.p (.s (.bool true)))), none⟩]
abbrev r3_4 : List CO := [
  ⟨some 8, .mv (.c (.p (.s (.int .i64 0)))), none⟩]
abbrev r3_5 : List CO := [
  ⟨some 18, .mv (.t 8), none⟩,
  ⟨some 19, .mv (.t 1), none⟩,
  ⟨some 20, .len (.t 19), none⟩,
  ⟨some 21, .bin .lss (.t 18) (.t 20), none⟩]
abbrev r3_7 : List CO := [
  ⟨some 25, .faddr 0 (.t 2), none⟩,
  ⟨some 26, .load true 62 (.t 25), none⟩,
  ⟨some 27, .faddr 62 (.t 2), none⟩,
  ⟨some 28, .load false 1 (.t 27), none⟩,
  ⟨some 29, .faddr 0 (.t 5), none⟩,
  ⟨some 30, .load true 4 (.t 29), none⟩,
  ⟨some 31, .mv (.t 1), none⟩,
  ⟨some 32, .mv (.t 8), none⟩,
  ⟨some 33, .iaddrS 1 (.t 31) (.t 32), none⟩,
  ⟨some 34, .load false 1 (.t 33), none⟩,
  ⟨some 35, .call (.c (.fn (.func 10) [] [])) [.t 26, .t 28, .t 30, .t 34], none⟩,
  ⟨some 24, .mv (.t 35), none⟩,
  ⟨some 36, .extract 0 (.t 24), none⟩,
  ⟨some 37, .extract 1 (.t 24), none⟩,
  ⟨some 38, .extract 2 (.t 24), none⟩,
  ⟨some 9, .alloc ([.s (.slice none 0 0), .s (.int .i64 0), .s (.bool false), .s (.bool false)]), none⟩,
  ⟨none, .store 4 (.t 9) (.t 36), none⟩,
  ⟨some 10, .mv (.t 37), none⟩,
  ⟨some 11, .mv (.t 38), none⟩]
abbrev b3_7 : List (List Nat) := [[], [0], [], [2], [], [4], [], [], [6, 7], [8], [1, 3, 5, 9], [10], [11], [11], [11], [], [15, 12, 10, 0, 1, 2, 3, 4, 5, 6, 7, 8, 9, 10, 11, 12, 15], [13, 16, 0, 1, 2, 3, 4, 5, 6, 7, 8, 9, 10, 11, 12, 13, 15, 16], [14, 17, 0, 1, 2, 3, 4, 5, 6, 7, 8, 9, 10, 11, 12, 13, 14, 15, 16, 17]]
abbrev r3_8 : List CO := [
  ⟨some 39, .mv (.t 7), none⟩,
  ⟨some 40, .mv (.t 39), none⟩,
  ⟨some 41, .mv (.t 10), some (40, true)⟩,
  ⟨some 42, .len (.t 41), some (40, true)⟩,
  ⟨some 43, .bin .eql (.t 42) (.c (.p (.s (.int .i64 0)))), some (40, true)⟩,
  ⟨some 44, .pick (.t 40) (.t 43) (.c (.p (.s (.bool false)))), none⟩,
  ⟨some 7, .mv (.t 44), none⟩]
abbrev r3_9 : List CO := [
  ⟨some 46, .faddr 0 (.t 2), none⟩,
  ⟨some 47, .load true 62 (.t 46), none⟩,
  ⟨some 48, .faddr 62 (.t 2), none⟩,
  ⟨some 49, .load false 1 (.t 48), none⟩,
  ⟨some 50, .load true 5 (.t 5), none⟩,
  ⟨some 51, .mv (.t 1), none⟩,
  ⟨some 52, .mv (.t 8), none⟩,
  ⟨some 53, .iaddrS 1 (.t 51) (.t 52), none⟩,
  ⟨some 54, .load false 1 (.t 53), none⟩,
  ⟨some 55, .call (.c (.fn (.func 11) [] [])) [.t 47, .t 49, .t 50, .t 54, .c (.p (.s (.bool true))), .c (.p (.s (.bool false)))], none⟩,
  ⟨some 45, .mv (.t 55), none⟩,
  ⟨some 56, .extract 0 (.t 45), none⟩,
  ⟨some 57, .extract 1 (.t 45), none⟩,
  ⟨some 12, .alloc ([.s (.slice none 0 0), .s (.int .i64 0), .s (.bool false), .s (.bool false), .s (.bool false)]), none⟩,
  ⟨some 13, .alloc ([.s (.slice none 0 0), .s (.int .i64 0), .s (.bool false)]), none⟩,
  ⟨none, .store 5 (.t 12) (.t 56), none⟩,
  ⟨none, .store 3 (.t 13) (.t 57), none⟩]
abbrev b3_9 : List (List Nat) := [[], [0], [], [2], [], [], [], [5, 6], [7], [1, 3, 4, 8], [9], [10], [10], [], [], [13, 11, 9, 0, 1, 2, 3, 4, 5, 6, 7, 8, 9, 10, 11, 13, 14], [14, 12, 15, 0, 1, 2, 3, 4, 5, 6, 7, 8, 9, 10, 11, 12, 13, 14, 15]]
abbrev r3_10 : List CO := [
  ⟨some 58, .load true 5 (.t 12), none⟩,
  ⟨none, .store 5 (.t 5) (.t 58), none⟩]
abbrev r3_11 : List CO := [
  ⟨some 60, .faddr 0 (.t 2), none⟩,
  ⟨some 61, .load true 62 (.t 60), none⟩,
  ⟨some 62, .faddr 62 (.t 2), none⟩,
  ⟨some 63, .load false 1 (.t 62), none⟩,
  ⟨some 64, .load true 5 (.t 6), none⟩,
  ⟨some 65, .mv (.t 1), none⟩,
  ⟨some 66, .mv (.t 8), none⟩,
  ⟨some 67, .iaddrS 1 (.t 65) (.t 66), none⟩,
  ⟨some 68, .load false 1 (.t 67), none⟩,
  ⟨some 69, .mv (.t 8), none⟩,
  ⟨some 70, .bin .rem (.t 69) (.c (.p (.s (.int .i64 2)))), none⟩,
  ⟨some 71, .bin .eql (.t 70) (.c (.p (.s (.int .i64 0)))), none⟩,
  ⟨some 72, .call (.c (.fn (.func 11) [] [])) [.t 61, .t 63, .t 64, .t 68, .c (.p (.s (.bool false))), .t 71], none⟩,
  ⟨some 59, .mv (.t 72), none⟩,
  ⟨some 73, .extract 0 (.t 59), none⟩,
  ⟨some 74, .extract 1 (.t 59), none⟩,
  ⟨some 14, .alloc ([.s (.slice none 0 0), .s (.int .i64 0), .s (.bool false), .s (.bool false), .s (.bool false)]), none⟩,
  ⟨some 15, .alloc ([.s (.slice none 0 0), .s (.int .i64 0), .s (.bool false)]), none⟩,
  ⟨none, .store 5 (.t 14) (.t 73), none⟩,
  ⟨none, .store 3 (.t 15) (.t 74), none⟩]
abbrev b3_11 : List (List Nat) := [[], [0], [], [2], [], [], [], [5, 6], [7], [], [9], [10], [1, 3, 4, 8, 11], [12], [13], [13], [], [], [16, 14, 12, 0, 1, 2, 3, 4, 5, 6, 7, 8, 9, 10, 11, 12, 13, 14, 16, 17], [17, 15, 18, 0, 1, 2, 3, 4, 5, 6, 7, 8, 9, 10, 11, 12, 13, 14, 15, 16, 17, 18]]
abbrev r3_12 : List CO := [
  ⟨some 75, .load true 5 (.t 14), none⟩,
  ⟨none, .store 5 (.t 6) (.t 75), none⟩]
abbrev r3_13 : List CO := [
  ⟨some 76, .mv (.t 7), none⟩,
  ⟨some 77, .mv (.t 76), none⟩,
  ⟨some 78, .faddr 0 (.t 13), some (77, true)⟩,
  ⟨some 79, .load false 1 (.t 78), some (77, true)⟩,
  ⟨some 80, .len (.t 79), some (77, true)⟩,
  ⟨some 81, .bin .gtr (.t 80) (.c (.p (.s (.int .i64 0)))), some (77, true)⟩,
  ⟨some 82, .mv (.t 81), some (77, true)⟩,
  ⟨some 83, .faddr 4 (.t 5), some (82, false)⟩,
  ⟨some 84, .load false 1 (.t 83), some (82, false)⟩,
  ⟨some 85, .un .not (.t 84), some (82, false)⟩,
  ⟨some 86, .pick (.t 82) (.c (.p (.s (.bool true)))) (.t 85), some (77, true)⟩,
  ⟨some 87, .pick (.t 77) (.t 86) (.c (.p (.s (.bool false)))), none⟩,
  ⟨some 88, .mv (.t 87), none⟩,
  ⟨some 89, .faddr 0 (.t 15), some (88, false)⟩,
  ⟨some 90, .load false 1 (.t 89), some (88, false)⟩,
  ⟨some 91, .toStr (.t 90), some (88, false)⟩,
  ⟨some 92, .mv (.t 1), some (88, false)⟩,
  ⟨some 93, .mv (.t 8), some (88, false)⟩,
  ⟨some 94, .mv (.t 8), some (88, false)⟩,
  ⟨some 95, .bin .add (.t 94) (.c (.p (.s (.int .i64 1)))), some (88, false)⟩,
  ⟨some 96, .slice 1 (.t 92) (some (.t 93)) (some (.t 95)), some (88, false)⟩,
  ⟨some 97, .toStr (.t 96), some (88, false)⟩,
  ⟨some 98, .bin .neq (.t 91) (.t 97), some (88, false)⟩,
  ⟨some 99, .pick (.t 88) (.c (.p (.s (.bool true)))) (.t 98), none⟩,
  ⟨some 100, .mv (.t 99), none⟩,
  ⟨some 101, .faddr 4 (.t 6), some (100, false)⟩,
  ⟨some 102, .load false 1 (.t 101), some (100, false)⟩,
  ⟨some 103, .pick (.t 100) (.c (.p (.s (.bool true)))) (.t 102), none⟩]
abbrev b3_13 : List (List Nat) := [[], [0], [1], [2, 1], [3, 1], [4, 1], [5, 1, 1], [6], [7, 6], [8, 6], [6, 9, 1], [1, 10], [11, 6], [12], [13, 12], [14, 12], [12], [12], [12], [18, 12], [16, 17, 19, 12], [20, 12], [15, 21, 12], [12, 22], [23, 12], [24], [25, 24], [24, 26]]
abbrev r3_14 : List CO := [
  ⟨some 4, .mv (.c (.p (.s (.bool false)))), none⟩]
abbrev k3_1 : CC := .seq (.regd r3_7 b3_7) (.rest [1, 2, 5, 6, 7, 8, 10] (.seq (.reg r3_8) (.rest [1, 2, 5, 6, 7, 8] (.seq (.regd r3_9 b3_9) (.rest [1, 2, 5, 6, 7, 8, 12, 13] (.seq (.reg r3_10) (.seq (.regd r3_11 b3_11) (.rest [1, 2, 5, 6, 7, 8, 13, 14, 15] (.seq (.reg r3_12) (.seq (.regd r3_13 b3_13) (.rest [1, 2, 5, 6, 7, 8, 103] (.cond (.t 103) (.seq (.reg r3_14) (.ret)) (.skip)))))))))))))
abbrev r3_6 : List CO := [
  ⟨some 22, .mv (.t 8), none⟩,
  ⟨some 23, .bin .add (.t 22) (.c (.p (.s (.int .i64 1)))), none⟩,
  ⟨some 8, .mv (.t 23), none⟩]
abbrev l3_20 : CC := .seq (.seq (.reg r3_5) (.rest [1, 2, 5, 6, 7, 8, 21] (.cond (.t 21) (.skip) (.exit 0)))) (.rest [1, 2, 5, 6, 7, 8] (.seq (.block 1 k3_1) (.rest [1, 2, 5, 6, 7, 8] (.reg r3_6))))
abbrev k3_0 : CC := .loop l3_20
abbrev r3_15 : List CO := [
  ⟨some 104, .faddr 0 (.t 5), none⟩,
  ⟨some 105, .load true 4 (.t 104), none⟩,
  ⟨some 106, .faddr 0 (.t 6), none⟩,
  ⟨some 107, .load true 4 (.t 106), none⟩,
  ⟨some 108, .call (.c (.fn (.func 12) [] [])) [.t 105, .t 107], none⟩,
  ⟨some 109, .mv (.t 108), none⟩,
  ⟨some 110, .call (.c (.fn (.func 13) [] [])) [], some (109, true)⟩,
  ⟨some 111, .pick (.t 109) (.t 110) (.c (.p (.s (.bool false)))), none⟩,
  ⟨some 4, .mv (.t 111), none⟩]
abbrev c3 : CC := .seq (.reg r3_0) (.seq (.reg r3_1) (.seq (.reg r3_2) (.seq (.reg r3_3) (.seq (.seq (.reg r3_4) (.block 0 k3_0)) (.rest [5, 6] (.seq (.reg r3_15) (.rest [4] (.ret))))))))
theorem F3 : Fun Tryd.prog 3 112 c3 [.tmp 4] 2 := ⟨⟨Tryd.f3, _, Tryd.func3, rfl, by kernel_rfl, Tryd.ntmps3, by kernel_rfl, by kernel_rfl⟩, by decide⟩

/-- linnet/linnetlaw15.TalkLines -/
abbrev r4_0 : List CO := [
  ⟨some 2, .box (.t 0), none⟩,
  ⟨some 4, .mv (.c (.p (.s (.bool false)))), none⟩]
abbrev r4_1 : List CO := [
  ⟨some 13, .mv (.t 1), none⟩,
  ⟨some 14, .call (.c (.fn (.func 9) [] [])) [.t 13], none⟩,
  ⟨some 1, .mv (.t 14), none⟩]
abbrev r4_2 : List CO := [
  ⟨some 5, .alloc ([.s (.slice none 0 0), .s (.int .i64 0), .s (.bool false), .s (.bool false), .s (.bool false)]), none⟩]
abbrev r4_3 : List CO := [
  ⟨some 6, .mv (.c (.p (.s (.int .i64 0)))), none⟩]
abbrev r4_4 : List CO := [
  ⟨some 15, .mv (.t 6), none⟩,
  ⟨some 16, .mv (.t 1), none⟩,
  ⟨some 17, .len (.t 16), none⟩,
  ⟨some 18, .bin .lss (.t 15) (.t 17), none⟩]
abbrev r4_6 : List CO := [
  ⟨some 22, .faddr 0 (.t 2), none⟩,
  ⟨some 23, .load true 62 (.t 22), none⟩,
  ⟨some 24, .faddr 62 (.t 2), none⟩,
  ⟨some 25, .load false 1 (.t 24), none⟩,
  ⟨some 26, .load true 5 (.t 5), none⟩,
  ⟨some 27, .mv (.t 1), none⟩,
  ⟨some 28, .mv (.t 6), none⟩,
  ⟨some 29, .iaddrS 1 (.t 27) (.t 28), none⟩,
  ⟨some 30, .load false 1 (.t 29), none⟩,
  ⟨some 31, .call (.c (.fn (.func 11) [] [])) [.t 23, .t 25, .t 26, .t 30, .c (.p (.s (.bool true))), .c (.p (.s (.bool false)))], none⟩,
  ⟨some 21, .mv (.t 31), none⟩,
  ⟨some 32, .extract 0 (.t 21), none⟩,
  ⟨some 33, .extract 1 (.t 21), none⟩,
  ⟨some 7, .alloc ([.s (.slice none 0 0), .s (.int .i64 0), .s (.bool false), .s (.bool false), .s (.bool false)]), none⟩,
  ⟨some 8, .alloc ([.s (.slice none 0 0), .s (.int .i64 0), .s (.bool false)]), none⟩,
  ⟨none, .store 5 (.t 7) (.t 32), none⟩,
  ⟨none, .store 3 (.t 8) (.t 33), none⟩]
abbrev b4_6 : List (List Nat) := [[], [0], [], [2], [], [], [], [5, 6], [7], [1, 3, 4, 8], [9], [10], [10], [], [], [13, 11, 9, 0, 1, 2, 3, 4, 5, 6, 7, 8, 9, 10, 11, 13, 14], [14, 12, 15, 0, 1, 2, 3, 4, 5, 6, 7, 8, 9, 10, 11, 12, 13, 14, 15]]
abbrev r4_7 : List CO := [
  ⟨some 35, .faddr 0 (.t 2), none⟩,
  ⟨some 36, .load true 62 (.t 35), none⟩,
  ⟨some 37, .faddr 62 (.t 2), none⟩,
  ⟨some 38, .load false 1 (.t 37), none⟩,
  ⟨some 39, .faddr 0 (.t 5), none⟩,
  ⟨some 40, .load true 4 (.t 39), none⟩,
  ⟨some 41, .mv (.t 1), none⟩,
  ⟨some 42, .mv (.t 6), none⟩,
  ⟨some 43, .iaddrS 1 (.t 41) (.t 42), none⟩,
  ⟨some 44, .load false 1 (.t 43), none⟩,
  ⟨some 45, .call (.c (.fn (.func 10) [] [])) [.t 36, .t 38, .t 40, .t 44], none⟩,
  ⟨some 34, .mv (.t 45), none⟩,
  ⟨some 46, .extract 0 (.t 34), none⟩,
  ⟨some 47, .extract 1 (.t 34), none⟩,
  ⟨some 48, .extract 2 (.t 34), none⟩,
  ⟨some 9, .alloc ([.s (.slice none 0 0), .s (.int .i64 0), .s (.bool false), .s (.bool false)]), none⟩,
  ⟨none, .store 4 (.t 9) (.t 46), none⟩,
  ⟨some 10, .mv (.t 47), none⟩,
  ⟨some 11, .mv (.t 48), none⟩]
abbrev b4_7 : List (List Nat) := [[], [0], [], [2], [], [4], [], [], [6, 7], [8], [1, 3, 5, 9], [10], [11], [11], [11], [], [15, 12, 10, 0, 1, 2, 3, 4, 5, 6, 7, 8, 9, 10, 11, 12, 15], [13, 16, 0, 1, 2, 3, 4, 5, 6, 7, 8, 9, 10, 11, 12, 13, 15, 16], [14, 17, 0, 1, 2, 3, 4, 5, 6, 7, 8, 9, 10, 11, 12, 13, 14, 15, 16, 17]]
abbrev r4_8 : List CO := [
  ⟨some 49, .faddr 0 (.t 7), none⟩,
  ⟨some 50, .load true 4 (.t 49), none⟩,
  ⟨some 51, .build ([.s (.slice none 0 0), .s (.int .i64 0), .s (.bool false), .s (.bool false)]) [], none⟩,
  ⟨some 52, .call (.c (.fn (.func 12) [] [])) [.t 50, .t 51], none⟩,
  ⟨some 12, .mv (.t 52), none⟩]
abbrev r4_9 : List CO := [
  ⟨some 53, .faddr 0 (.t 8), none⟩,
  ⟨some 54, .load false 1 (.t 53), none⟩,
  ⟨some 55, .len (.t 54), none⟩,
  ⟨some 56, .bin .gtr (.t 55) (.c (.p (.s (.int .i64 0)))), none⟩,
  ⟨some 57, .mv (.t 56), none⟩,
  ⟨some 58, .faddr 0 (.t 8), some (57, true)⟩,
  ⟨some 59, .load false 1 (.t 58), some (57, true)⟩,
  ⟨some 60, .faddr 0 (.t 8), some (57, true)⟩,
  ⟨some 61, .load false 1 (.t 60), some (57, true)⟩,
  ⟨some 62, .len (.t 61), some (57, true)⟩,
  ⟨some 63, .bin .sub (.t 62) (.c (.p (.s (.int .i64 1)))), some (57, true)⟩,
  ⟨some 64, .iaddrS 1 (.t 59) (.t 63), some (57, true)⟩,
  ⟨some 65, .load false 1 (.t 64), some (57, true)⟩,
  ⟨some 66, .mv (.t 1), some (57, true)⟩,
  ⟨some 67, .mv (.t 6), some (57, true)⟩,
  ⟨some 68, .iaddrS 1 (.t 66) (.t 67), some (57, true)⟩,
  ⟨some 69, .load false 1 (.t 68), some (57, true)⟩,
  ⟨some 70, .bin .neq (.t 65) (.t 69), some (57, true)⟩,
  ⟨some 71, .pick (.t 57) (.t 70) (.c (.p (.s (.bool false)))), none⟩,
  ⟨some 72, .mv (.t 71), none⟩,
  ⟨some 73, .mv (.t 10), some (72, false)⟩,
  ⟨some 74, .len (.t 73), some (72, false)⟩,
  ⟨some 75, .bin .eql (.t 74) (.c (.p (.s (.int .i64 1)))), some (72, false)⟩,
  ⟨some 76, .mv (.t 75), some (72, false)⟩,
  ⟨some 77, .mv (.t 10), some (76, true)⟩,
  ⟨some 78, .iaddrS 3 (.t 77) (.c (.p (.s (.int .i64 0)))), some (76, true)⟩,
  ⟨some 79, .faddr 0 (.t 78), some (76, true)⟩,
  ⟨some 80, .load false 1 (.t 79), some (76, true)⟩,
  ⟨some 81, .bin .neq (.t 80) (.c (.p (.s (.int .i64 3)))), some (76, true)⟩,
  ⟨some 82, .pick (.t 76) (.t 81) (.c (.p (.s (.bool false)))), some (72, false)⟩,
  ⟨some 83, .mv (.t 82), some (72, false)⟩,
  ⟨some 84, .mv (.t 12), some (83, true)⟩,
  ⟨some 85, .un .not (.t 84), some (83, true)⟩,
  ⟨some 86, .mv (.t 85), some (83, true)⟩,
  ⟨some 87, .faddr 4 (.t 7), some (86, false)⟩,
  ⟨some 88, .load false 1 (.t 87), some (86, false)⟩,
  ⟨some 89, .pick (.t 86) (.c (.p (.s (.bool true)))) (.t 88), some (83, true)⟩,
  ⟨some 90, .pick (.t 83) (.t 89) (.c (.p (.s (.bool false)))), some (72, false)⟩,
  ⟨some 91, .pick (.t 72) (.c (.p (.s (.bool true)))) (.t 90), none⟩]
abbrev b4_9 : List (List Nat) := [[], [0], [1], [2], [3], [4], [5, 4], [4], [7, 4], [8, 4], [9, 4], [6, 10, 4], [11, 4], [4], [4], [13, 14, 4], [15, 4], [12, 16, 4], [4, 17], [18, 4], [19], [20, 19], [21, 19], [22, 19, 19], [23], [24, 23], [25, 23], [26, 23], [27, 23], [23, 28, 19], [29, 23, 19], [30], [31, 30], [32, 30, 30], [33], [34, 33], [33, 35, 30], [30, 36, 19], [19, 37]]
abbrev r4_10 : List CO := [
  ⟨some 4, .mv (.c (.p (.s (.bool false)))), none⟩]
abbrev r4_11 : List CO := [
  ⟨some 92, .faddr 0 (.t 8), none⟩,
  ⟨some 93, .load false 1 (.t 92), none⟩,
  ⟨some 94, .len (.t 93), none⟩,
  ⟨some 95, .faddr 0 (.t 5), none⟩,
  ⟨some 96, .faddr 0 (.t 95), none⟩,
  ⟨some 97, .faddr 0 (.t 96), none⟩,
  ⟨some 98, .load false 1 (.t 97), none⟩,
  ⟨some 99, .len (.t 98), none⟩,
  ⟨some 100, .bin .mul (.c (.p (.s (.int .i64 3)))) (.t 99), none⟩,
  ⟨some 101, .bin .add (.t 100) (.c (.p (.s (.int .i64 3)))), none⟩,
  ⟨some 102, .bin .gtr (.t 94) (.t 101), none⟩,
  ⟨some 103, .mv (.t 102), none⟩,
  ⟨some 104, .faddr 0 (.t 8), some (103, false)⟩,
  ⟨some 105, .load false 1 (.t 104), some (103, false)⟩,
  ⟨some 106, .len (.t 105), some (103, false)⟩,
  ⟨some 107, .bin .eql (.t 106) (.c (.p (.s (.int .i64 0)))), some (103, false)⟩,
  ⟨some 108, .faddr 4 (.t 7), some (103, false)⟩,
  ⟨some 109, .load false 1 (.t 108), some (103, false)⟩,
  ⟨some 110, .beq true (.t 107) (.t 109), some (103, false)⟩,
  ⟨some 111, .pick (.t 103) (.c (.p (.s (.bool true)))) (.t 110), none⟩]
abbrev r4_12 : List CO := [
  ⟨some 4, .mv (.c (.p (.s (.bool false)))), none⟩]
abbrev r4_13 : List CO := [
  ⟨some 112, .load true 5 (.t 7), none⟩,
  ⟨none, .store 5 (.t 5) (.t 112), none⟩]
abbrev k4_1 : CC := .seq (.regd r4_6 b4_6) (.rest [1, 2, 5, 6, 7, 8] (.seq (.regd r4_7 b4_7) (.rest [1, 2, 5, 6, 7, 8, 10] (.seq (.reg r4_8) (.rest [1, 2, 5, 6, 7, 8, 10, 12] (.seq (.seq (.regd r4_9 b4_9) (.rest [1, 2, 5, 6, 7, 8, 91] (.cond (.t 91) (.seq (.reg r4_10) (.ret)) (.skip)))) (.rest [1, 2, 5, 6, 7, 8] (.seq (.seq (.reg r4_11) (.rest [1, 2, 5, 6, 7, 111] (.cond (.t 111) (.seq (.reg r4_12) (.ret)) (.skip)))) (.rest [1, 2, 5, 6, 7] (.reg r4_13))))))))))
abbrev r4_5 : List CO := [
  ⟨some 19, .mv (.t 6), none⟩,
  ⟨some 20, .bin .add (.t 19) (.c (.p (.s (.int .i64 1)))), none⟩,
  ⟨some 6, .mv (.t 20), none⟩]
abbrev l4_18 : CC := .seq (.seq (.reg r4_4) (.rest [1, 2, 5, 6, 18] (.cond (.t 18) (.skip) (.exit 0)))) (.rest [1, 2, 5, 6] (.seq (.block 1 k4_1) (.rest [1, 2, 5, 6] (.reg r4_5))))
abbrev k4_0 : CC := .loop l4_18
abbrev r4_14 : List CO := [
  ⟨some 113, .call (.c (.fn (.func 13) [] [])) [], none⟩,
  ⟨some 4, .mv (.t 113), none⟩]
abbrev c4 : CC := .seq (.reg r4_0) (.seq (.reg r4_1) (.seq (.reg r4_2) (.seq (.seq (.reg r4_3) (.block 0 k4_0)) (.rest [] (.seq (.reg r4_14) (.ret))))))
theorem F4 : Fun Tryd.prog 4 114 c4 [.tmp 4] 2 := ⟨⟨Tryd.f4, _, Tryd.func4, rfl, by kernel_rfl, Tryd.ntmps4, by kernel_rfl, by kernel_rfl⟩, by decide⟩

/-- linnet/linnetlaw15.TalkTells -/
abbrev r5_0 : List CO := [
  ⟨some 3, .box (.t 0), none⟩,
  ⟨some 4, .box (.t 1), none⟩,
  ⟨some 5, .box (.t 2), none⟩,
  ⟨some 6, .mv (.c (.p (.s (.bool false)))), none⟩]
abbrev r5_1 : List CO := [
  ⟨some 15, .load true 5 (.t 4), none⟩,
  ⟨some 16, .call (.c (.fn (.func 14) [] [])) [.t 15], none⟩,
  ⟨none, .store 5 (.t 4) (.t 16), none⟩]
abbrev r5_2 : List CO := [
  ⟨some 18, .faddr 0 (.t 3), none⟩,
  ⟨some 19, .load true 62 (.t 18), none⟩,
  ⟨some 20, .load true 5 (.t 4), none⟩,
  ⟨some 21, .call (.c (.fn (.func 15) [] [])) [.t 19, .t 20], none⟩,
  ⟨some 17, .mv (.t 21), none⟩,
  ⟨some 22, .extract 0 (.t 17), none⟩,
  ⟨some 23, .extract 1 (.t 17), none⟩,
  ⟨some 7, .alloc ([.s (.slice none 0 0), .s (.int .i64 0), .s (.bool false), .s (.bool false), .s (.bool false)]), none⟩,
  ⟨none, .store 5 (.t 7) (.t 22), none⟩,
  ⟨some 8, .mv (.t 23), none⟩]
abbrev r5_3 : List CO := [
  ⟨some 25, .faddr 0 (.t 3), none⟩,
  ⟨some 26, .load true 62 (.t 25), none⟩,
  ⟨some 27, .faddr 62 (.t 3), none⟩,
  ⟨some 28, .load false 1 (.t 27), none⟩,
  ⟨some 29, .load true 5 (.t 4), none⟩,
  ⟨some 30, .faddr 0 (.t 5), none⟩,
  ⟨some 31, .load false 1 (.t 30), none⟩,
  ⟨some 32, .faddr 1 (.t 5), none⟩,
  ⟨some 33, .load false 1 (.t 32), none⟩,
  ⟨some 34, .faddr 2 (.t 5), none⟩,
  ⟨some 35, .load false 1 (.t 34), none⟩,
  ⟨some 36, .call (.c (.fn (.func 11) [] [])) [.t 26, .t 28, .t 29, .t 31, .t 33, .t 35], none⟩,
  ⟨some 24, .mv (.t 36), none⟩,
  ⟨some 37, .extract 0 (.t 24), none⟩,
  ⟨some 38, .extract 1 (.t 24), none⟩,
  ⟨some 9, .alloc ([.s (.slice none 0 0), .s (.int .i64 0), .s (.bool false), .s (.bool false), .s (.bool false)]), none⟩,
  ⟨some 10, .alloc ([.s (.slice none 0 0), .s (.int .i64 0), .s (.bool false)]), none⟩,
  ⟨none, .store 5 (.t 9) (.t 37), none⟩,
  ⟨none, .store 3 (.t 10) (.t 38), none⟩]
abbrev r5_4 : List CO := [
  ⟨some 40, .faddr 0 (.t 3), none⟩,
  ⟨some 41, .load true 62 (.t 40), none⟩,
  ⟨some 42, .load true 5 (.t 4), none⟩,
  ⟨some 43, .call (.c (.fn (.func 16) [] [])) [.t 41, .t 42], none⟩,
  ⟨some 39, .mv (.t 43), none⟩,
  ⟨some 44, .extract 0 (.t 39), none⟩,
  ⟨some 45, .extract 1 (.t 39), none⟩,
  ⟨some 11, .alloc ([.s (.slice none 0 0), .s (.int .i64 0), .s (.bool false), .s (.bool false), .s (.bool false)]), none⟩,
  ⟨none, .store 5 (.t 11) (.t 44), none⟩,
  ⟨some 12, .mv (.t 45), none⟩]
abbrev r5_5 : List CO := [
  ⟨some 47, .faddr 0 (.t 3), none⟩,
  ⟨some 48, .load true 62 (.t 47), none⟩,
  ⟨some 49, .faddr 62 (.t 3), none⟩,
  ⟨some 50, .load false 1 (.t 49), none⟩,
  ⟨some 51, .load true 5 (.t 4), none⟩,
  ⟨some 52, .load true 3 (.t 5), none⟩,
  ⟨some 53, .call (.c (.fn (.func 17) [] [])) [.t 48, .t 50, .t 51, .t 52], none⟩,
  ⟨some 46, .mv (.t 53), none⟩,
  ⟨some 54, .extract 0 (.t 46), none⟩,
  ⟨some 55, .extract 1 (.t 46), none⟩,
  ⟨some 13, .alloc ([.s (.slice none 0 0), .s (.int .i64 0), .s (.bool false), .s (.bool false), .s (.bool false)]), none⟩,
  ⟨some 14, .alloc ([.s (.slice none 0 0), .s (.int .i64 0), .s (.bool false)]), none⟩,
  ⟨none, .store 5 (.t 13) (.t 54), none⟩,
  ⟨none, .store 3 (.t 14) (.t 55), none⟩]
abbrev r5_6 : List CO := [
  ⟨some 56, .load true 5 (.t 4), none⟩,
  ⟨some 57, .call (.c (.fn (.func 18) [] [])) [.t 56], none⟩,
  ⟨some 58, .bin .eql (.t 57) (.c (.p (.s (.int .i64 0)))), none⟩,
  ⟨some 59, .faddr 0 (.t 4), none⟩,
  ⟨some 60, .load true 4 (.t 59), none⟩,
  ⟨some 61, .call (.c (.fn (.func 19) [] [])) [.t 60], none⟩,
  ⟨some 62, .beq false (.t 58) (.t 61), none⟩,
  ⟨some 63, .mv (.t 62), none⟩,
  ⟨some 64, .load true 5 (.t 7), some (63, true)⟩,
  ⟨some 65, .load true 5 (.t 11), some (63, true)⟩,
  ⟨some 66, .call (.c (.fn (.func 20) [] [])) [.t 64, .t 65], some (63, true)⟩,
  ⟨some 67, .pick (.t 63) (.t 66) (.c (.p (.s (.bool false)))), none⟩,
  ⟨some 68, .mv (.t 67), none⟩,
  ⟨some 69, .mv (.t 8), some (68, true)⟩,
  ⟨some 70, .mv (.t 12), some (68, true)⟩,
  ⟨some 71, .call (.c (.fn (.func 21) [] [])) [.t 69, .t 70], some (68, true)⟩,
  ⟨some 72, .pick (.t 68) (.t 71) (.c (.p (.s (.bool false)))), none⟩,
  ⟨some 73, .mv (.t 72), none⟩,
  ⟨some 74, .load true 5 (.t 9), some (73, true)⟩,
  ⟨some 75, .load true 5 (.t 13), some (73, true)⟩,
  ⟨some 76, .call (.c (.fn (.func 20) [] [])) [.t 74, .t 75], some (73, true)⟩,
  ⟨some 77, .pick (.t 73) (.t 76) (.c (.p (.s (.bool false)))), none⟩,
  ⟨some 78, .mv (.t 77), none⟩,
  ⟨some 79, .faddr 0 (.t 10), some (78, true)⟩,
  ⟨some 80, .load false 1 (.t 79), some (78, true)⟩,
  ⟨some 81, .faddr 0 (.t 14), some (78, true)⟩,
  ⟨some 82, .load false 1 (.t 81), some (78, true)⟩,
  ⟨some 83, .call (.c (.fn (.func 21) [] [])) [.t 80, .t 82], some (78, true)⟩,
  ⟨some 84, .pick (.t 78) (.t 83) (.c (.p (.s (.bool false)))), none⟩,
  ⟨some 85, .mv (.t 84), none⟩,
  ⟨some 86, .faddr 1 (.t 10), some (85, true)⟩,
  ⟨some 87, .load false 1 (.t 86), some (85, true)⟩,
  ⟨some 88, .faddr 1 (.t 14), some (85, true)⟩,
  ⟨some 89, .load false 1 (.t 88), some (85, true)⟩,
  ⟨some 90, .bin .eql (.t 87) (.t 89), some (85, true)⟩,
  ⟨some 91, .pick (.t 85) (.t 90) (.c (.p (.s (.bool false)))), none⟩,
  ⟨some 92, .mv (.t 91), none⟩,
  ⟨some 93, .faddr 2 (.t 10), some (92, true)⟩,
  ⟨some 94, .load false 1 (.t 93), some (92, true)⟩,
  ⟨some 95, .faddr 2 (.t 14), some (92, true)⟩,
  ⟨some 96, .load false 1 (.t 95), some (92, true)⟩,
  ⟨some 97, .beq false (.t 94) (.t 96), some (92, true)⟩,
  ⟨some 98, .pick (.t 92) (.t 97) (.c (.p (.s (.bool false)))), none⟩,
  ⟨some 99, .mv (.t 98), none⟩,
  ⟨some 100, .load true 5 (.t 7), some (99, true)⟩,
  ⟨some 101, .load true 5 (.t 9), some (99, true)⟩,
  ⟨some 102, .call (.c (.fn (.func 22) [] [])) [.t 100, .t 101], some (99, true)⟩,
  ⟨some 103, .load true 5 (.t 11), some (99, true)⟩,
  ⟨some 104, .load true 5 (.t 13), some (99, true)⟩,
  ⟨some 105, .call (.c (.fn (.func 20) [] [])) [.t 103, .t 104], some (99, true)⟩,
  ⟨some 106, .beq false (.t 102) (.t 105), some (99, true)⟩,
  ⟨some 107, .pick (.t 99) (.t 106) (.c (.p (.s (.bool false)))), none⟩,
  ⟨some 108, .mv (.t 107), none⟩,
  ⟨some 109, .call (.c (.fn (.func 13) [] [])) [], some (108, true)⟩,
  ⟨some 110, .pick (.t 108) (.t 109) (.c (.p (.s (.bool false)))), none⟩,
  ⟨some 6, .mv (.t 110), none⟩]
abbrev b5_6 : List (List Nat) := [[], [0], [1], [], [3], [4, 1], [2, 5], [6, 5], [7], [7], [8, 9, 7, 7], [7, 10], [11, 10], [12], [12], [13, 14, 12, 12], [12, 15], [16, 15], [17], [17], [18, 19, 17, 17], [17, 20], [21, 20], [22], [23, 22], [22], [25, 22], [24, 26, 22, 22], [22, 27], [28, 27], [29], [30, 29], [29], [32, 29], [31, 33, 29], [29, 34], [35, 29], [36], [37, 36], [36], [39, 36], [38, 40, 36], [36, 41], [42, 36], [43], [43], [44, 45, 43, 43], [43], [43], [47, 48, 46, 43], [46, 49, 43], [43, 50], [51, 49], [52, 52], [52, 53], [54, 53, 0, 1, 2, 3, 4, 5, 6, 7, 8, 9, 10, 11, 12, 13, 14, 15, 16, 17, 18, 19, 20, 21, 22, 23, 24, 25, 26, 27, 28, 29, 30, 31, 32, 33, 34, 35, 36, 37, 38, 39, 40, 41, 42, 43, 44, 45, 46, 47, 48, 49, 50, 51, 52, 53, 54]]
abbrev c5 : CC := .seq (.reg r5_0) (.rest [3, 4, 5] (.seq (.reg r5_1) (.seq (.reg r5_2) (.rest [3, 4, 5, 7, 8] (.seq (.reg r5_3) (.rest [3, 4, 5, 7, 8, 9, 10] (.seq (.reg r5_4) (.rest [3, 4, 5, 7, 8, 9, 10, 11, 12] (.seq (.reg r5_5) (.rest [4, 7, 8, 9, 10, 11, 12, 13, 14] (.seq (.regd r5_6 b5_6) (.rest [6] (.ret)))))))))))))
theorem F5 : Fun Tryd.prog 5 111 c5 [.tmp 6] 3 := ⟨⟨Tryd.f5, _, Tryd.func5, rfl, by kernel_rfl, Tryd.ntmps5, by kernel_rfl, by kernel_rfl⟩, by decide⟩

/-- linnet/linnetlaw15.TalkPass -/
abbrev r6_0 : List CO := [
  ⟨some 2, .box (.t 0), none⟩,
  ⟨some 3, .box (.t 1), none⟩,
  ⟨some 4, .mv (.c (.p (.s (.bool false)))), none⟩]
abbrev r6_1 : List CO := [
  ⟨some 9, .load true 5 (.t 3), none⟩,
  ⟨some 10, .call (.c (.fn (.func 14) [] [])) [.t 9], none⟩,
  ⟨none, .store 5 (.t 3) (.t 10), none⟩]
abbrev r6_2 : List CO := [
  ⟨some 12, .load true 62 (.t 2), none⟩,
  ⟨some 13, .load true 5 (.t 3), none⟩,
  ⟨some 14, .call (.c (.fn (.func 15) [] [])) [.t 12, .t 13], none⟩,
  ⟨some 11, .mv (.t 14), none⟩,
  ⟨some 15, .extract 0 (.t 11), none⟩,
  ⟨some 16, .extract 1 (.t 11), none⟩,
  ⟨some 5, .alloc ([.s (.slice none 0 0), .s (.int .i64 0), .s (.bool false), .s (.bool false), .s (.bool false)]), none⟩,
  ⟨none, .store 5 (.t 5) (.t 15), none⟩,
  ⟨some 6, .mv (.t 16), none⟩]
abbrev r6_3 : List CO := [
  ⟨some 18, .load true 62 (.t 2), none⟩,
  ⟨some 19, .load true 5 (.t 5), none⟩,
  ⟨some 20, .call (.c (.fn (.func 15) [] [])) [.t 18, .t 19], none⟩,
  ⟨some 17, .mv (.t 20), none⟩,
  ⟨some 21, .extract 0 (.t 17), none⟩,
  ⟨some 22, .extract 1 (.t 17), none⟩,
  ⟨some 7, .alloc ([.s (.slice none 0 0), .s (.int .i64 0), .s (.bool false), .s (.bool false), .s (.bool false)]), none⟩,
  ⟨none, .store 5 (.t 7) (.t 21), none⟩,
  ⟨some 8, .mv (.t 22), none⟩]
abbrev r6_4 : List CO := [
  ⟨some 23, .load true 5 (.t 3), none⟩,
  ⟨some 24, .call (.c (.fn (.func 18) [] [])) [.t 23], none⟩,
  ⟨some 25, .bin .neq (.t 24) (.c (.p (.s (.int .i64 0)))), none⟩]
abbrev r6_5 : List CO := [
  ⟨some 26, .load true 5 (.t 5), none⟩,
  ⟨some 27, .load true 5 (.t 3), none⟩,
  ⟨some 28, .call (.c (.fn (.func 22) [] [])) [.t 26, .t 27], none⟩,
  ⟨some 29, .mv (.t 28), none⟩,
  ⟨some 30, .mv (.t 6), some (29, true)⟩,
  ⟨some 31, .len (.t 30), some (29, true)⟩,
  ⟨some 32, .bin .eql (.t 31) (.c (.p (.s (.int .i64 0)))), some (29, true)⟩,
  ⟨some 33, .pick (.t 29) (.t 32) (.c (.p (.s (.bool false)))), none⟩,
  ⟨some 34, .mv (.t 33), none⟩,
  ⟨some 35, .call (.c (.fn (.func 13) [] [])) [], some (34, true)⟩,
  ⟨some 36, .pick (.t 34) (.t 35) (.c (.p (.s (.bool false)))), none⟩,
  ⟨some 4, .mv (.t 36), none⟩]
abbrev r6_6 : List CO := [
  ⟨some 37, .faddr 0 (.t 5), none⟩,
  ⟨some 38, .load true 4 (.t 37), none⟩,
  ⟨some 39, .faddr 0 (.t 3), none⟩,
  ⟨some 40, .load true 4 (.t 39), none⟩,
  ⟨some 41, .call (.c (.fn (.func 12) [] [])) [.t 38, .t 40], none⟩,
  ⟨some 42, .mv (.t 41), none⟩,
  ⟨some 43, .faddr 4 (.t 5), some (42, true)⟩,
  ⟨some 44, .load false 1 (.t 43), some (42, true)⟩,
  ⟨some 45, .un .not (.t 44), some (42, true)⟩,
  ⟨some 46, .pick (.t 42) (.t 45) (.c (.p (.s (.bool false)))), none⟩,
  ⟨some 47, .mv (.t 46), none⟩,
  ⟨some 48, .load true 5 (.t 7), some (47, true)⟩,
  ⟨some 49, .load true 5 (.t 5), some (47, true)⟩,
  ⟨some 50, .call (.c (.fn (.func 22) [] [])) [.t 48, .t 49], some (47, true)⟩,
  ⟨some 51, .pick (.t 47) (.t 50) (.c (.p (.s (.bool false)))), none⟩,
  ⟨some 52, .mv (.t 51), none⟩,
  ⟨some 53, .mv (.t 8), some (52, true)⟩,
  ⟨some 54, .len (.t 53), some (52, true)⟩,
  ⟨some 55, .bin .eql (.t 54) (.c (.p (.s (.int .i64 0)))), some (52, true)⟩,
  ⟨some 56, .pick (.t 52) (.t 55) (.c (.p (.s (.bool false)))), none⟩,
  ⟨some 57, .mv (.t 56), none⟩,
  ⟨some 58, .faddr 4 (.t 3), some (57, true)⟩,
  ⟨some 59, .load false 1 (.t 58), some (57, true)⟩,
  ⟨some 60, .mv (.t 59), some (57, true)⟩,
  ⟨some 61, .mv (.t 6), some (60, false)⟩,
  ⟨some 62, .len (.t 61), some (60, false)⟩,
  ⟨some 63, .bin .eql (.t 62) (.c (.p (.s (.int .i64 0)))), some (60, false)⟩,
  ⟨some 64, .pick (.t 60) (.c (.p (.s (.bool true)))) (.t 63), some (57, true)⟩,
  ⟨some 65, .pick (.t 57) (.t 64) (.c (.p (.s (.bool false)))), none⟩,
  ⟨some 66, .mv (.t 65), none⟩,
  ⟨some 67, .call (.c (.fn (.func 13) [] [])) [], some (66, true)⟩,
  ⟨some 68, .pick (.t 66) (.t 67) (.c (.p (.s (.bool false)))), none⟩,
  ⟨some 4, .mv (.t 68), none⟩]
abbrev c6 : CC := .seq (.reg r6_0) (.seq (.reg r6_1) (.seq (.reg r6_2) (.rest [2, 3, 5, 6] (.seq (.reg r6_3) (.rest [3, 5, 6, 7, 8] (.seq (.seq (.reg r6_4) (.cond (.t 25) (.seq (.reg r6_5) (.rest [4] (.ret))) (.skip))) (.rest [3, 5, 6, 7, 8] (.seq (.reg r6_6) (.rest [4] (.ret))))))))))
theorem F6 : Fun Tryd.prog 6 69 c6 [.tmp 4] 2 := ⟨⟨Tryd.f6, _, Tryd.func6, rfl, by kernel_rfl, Tryd.ntmps6, by kernel_rfl, by kernel_rfl⟩, by decide⟩

/-- linnet/linnetlaw15.TalkSame -/
abbrev r7_0 : List CO := [
  ⟨some 2, .box (.t 0), none⟩,
  ⟨some 4, .mv (.c (.p (.s (.bool false)))), none⟩]
abbrev r7_1 : List CO := [
  ⟨some 5, .alloc ([.s (.slice none 0 0), .s (.int .i64 0), .s (.bool false), .s (.bool false), .s (.bool false)]), none⟩]
abbrev r7_2 : List CO := [
  ⟨some 6, .alloc ([.s (.slice none 0 0), .s (.int .i64 0), .s (.bool false), .s (.bool false)]), none⟩,
  ⟨some 7, .alloc ([.s (.slice none 0 0), .s (.int .i64 0), .s (.bool false), .s (.bool false)]), none⟩]
abbrev r7_3 : List CO := [
  ⟨some 8, .mv (.c (.p (.s (.slice none 0 0)))), none⟩,
  ⟨some 9, .mv (.c (.p (.s (.slice none 0 0)))), none⟩]
abbrev r7_4 : List CO := [
  ⟨some 10, .mv (.c (.p (.s (.int .i64 0)))), none⟩]
abbrev r7_5 : List CO := [
  ⟨some 22, .mv (.t 10), none⟩,
  ⟨some 23, .mv (.t 1), none⟩,
  ⟨some 24, .len (.t 23), none⟩,
  ⟨some 25, .bin .lss (.t 22) (.t 24), none⟩,
  ⟨some 26, .mv (.t 25), none⟩,
  ⟨some 27, .mv (.t 10), some (26, true)⟩,
  ⟨some 28, .bin .lss (.t 27) (.c (.p (.s (.int .i64 60)))), some (26, true)⟩,
  ⟨some 29, .pick (.t 26) (.t 28) (.c (.p (.s (.bool false)))), none⟩]
abbrev r7_7 : List CO := [
  ⟨some 11, .mv (.c (.p (.s (.slice none 0 0)))), none⟩]
abbrev r7_8 : List CO := [
  ⟨some 32, .mv (.t 1), none⟩,
  ⟨some 33, .mv (.t 10), none⟩,
  ⟨some 34, .iaddrS 4 (.t 32) (.t 33), none⟩,
  ⟨some 35, .faddr 3 (.t 34), none⟩,
  ⟨some 36, .load false 1 (.t 35), none⟩]
abbrev r7_9 : List CO := [
  ⟨some 38, .faddr 0 (.t 2), none⟩,
  ⟨some 39, .load true 62 (.t 38), none⟩,
  ⟨some 40, .load true 5 (.t 5), none⟩,
  ⟨some 41, .call (.c (.fn (.func 15) [] [])) [.t 39, .t 40], none⟩,
  ⟨some 37, .mv (.t 41), none⟩,
  ⟨some 42, .extract 0 (.t 37), none⟩,
  ⟨some 43, .extract 1 (.t 37), none⟩,
  ⟨none, .store 5 (.t 5) (.t 42), none⟩,
  ⟨some 11, .mv (.t 43), none⟩]
abbrev r7_10 : List CO := [
  ⟨some 44, .mv (.t 1), none⟩,
  ⟨some 45, .mv (.t 10), none⟩,
  ⟨some 46, .iaddrS 4 (.t 44) (.t 45), none⟩,
  ⟨some 47, .faddr 0 (.t 46), none⟩,
  ⟨some 48, .load true 3 (.t 47), none⟩,
  ⟨some 12, .alloc ([.s (.int .u8 0), .s (.bool false), .s (.bool false)]), none⟩,
  ⟨none, .store 3 (.t 12) (.t 48), none⟩]
abbrev r7_11 : List CO := [
  ⟨some 50, .faddr 0 (.t 2), none⟩,
  ⟨some 51, .load true 62 (.t 50), none⟩,
  ⟨some 52, .faddr 62 (.t 2), none⟩,
  ⟨some 53, .load false 1 (.t 52), none⟩,
  ⟨some 54, .load true 5 (.t 5), none⟩,
  ⟨some 55, .faddr 0 (.t 12), none⟩,
  ⟨some 56, .load false 1 (.t 55), none⟩,
  ⟨some 57, .faddr 1 (.t 12), none⟩,
  ⟨some 58, .load false 1 (.t 57), none⟩,
  ⟨some 59, .faddr 2 (.t 12), none⟩,
  ⟨some 60, .load false 1 (.t 59), none⟩,
  ⟨some 61, .call (.c (.fn (.func 11) [] [])) [.t 51, .t 53, .t 54, .t 56, .t 58, .t 60], none⟩,
  ⟨some 49, .mv (.t 61), none⟩,
  ⟨some 62, .extract 0 (.t 49), none⟩,
  ⟨some 63, .extract 1 (.t 49), none⟩,
  ⟨some 13, .alloc ([.s (.slice none 0 0), .s (.int .i64 0), .s (.bool false), .s (.bool false), .s (.bool false)]), none⟩,
  ⟨some 14, .alloc ([.s (.slice none 0 0), .s (.int .i64 0), .s (.bool false)]), none⟩,
  ⟨none, .store 5 (.t 13) (.t 62), none⟩,
  ⟨none, .store 3 (.t 14) (.t 63), none⟩]
abbrev r7_12 : List CO := [
  ⟨some 64, .load true 5 (.t 13), none⟩,
  ⟨none, .store 5 (.t 5) (.t 64), none⟩]
abbrev r7_13 : List CO := [
  ⟨some 66, .faddr 0 (.t 2), none⟩,
  ⟨some 67, .load true 62 (.t 66), none⟩,
  ⟨some 68, .faddr 62 (.t 2), none⟩,
  ⟨some 69, .load false 1 (.t 68), none⟩,
  ⟨some 70, .load true 4 (.t 6), none⟩,
  ⟨some 71, .faddr 0 (.t 12), none⟩,
  ⟨some 72, .load false 1 (.t 71), none⟩,
  ⟨some 73, .call (.c (.fn (.func 10) [] [])) [.t 67, .t 69, .t 70, .t 72], none⟩,
  ⟨some 65, .mv (.t 73), none⟩,
  ⟨some 74, .extract 0 (.t 65), none⟩,
  ⟨some 75, .extract 1 (.t 65), none⟩,
  ⟨some 76, .extract 2 (.t 65), none⟩,
  ⟨some 15, .alloc ([.s (.slice none 0 0), .s (.int .i64 0), .s (.bool false), .s (.bool false)]), none⟩,
  ⟨none, .store 4 (.t 15) (.t 74), none⟩,
  ⟨some 16, .mv (.t 75), none⟩,
  ⟨some 17, .mv (.t 76), none⟩]
abbrev r7_14 : List CO := [
  ⟨some 78, .faddr 0 (.t 2), none⟩,
  ⟨some 79, .load true 62 (.t 78), none⟩,
  ⟨some 80, .faddr 62 (.t 2), none⟩,
  ⟨some 81, .load false 1 (.t 80), none⟩,
  ⟨some 82, .load true 4 (.t 7), none⟩,
  ⟨some 83, .mv (.t 11), none⟩,
  ⟨some 84, .faddr 0 (.t 14), none⟩,
  ⟨some 85, .load false 1 (.t 84), none⟩,
  ⟨some 86, .append 1 1 ([.s (.int .u8 0)]) (.t 83) (.t 85), none⟩,
  ⟨some 87, .call (.c (.fn (.func 23) [] [])) [.t 79, .t 81, .t 82, .t 86], none⟩,
  ⟨some 77, .mv (.t 87), none⟩,
  ⟨some 88, .extract 0 (.t 77), none⟩,
  ⟨some 89, .extract 1 (.t 77), none⟩,
  ⟨some 90, .extract 2 (.t 77), none⟩,
  ⟨some 18, .alloc ([.s (.slice none 0 0), .s (.int .i64 0), .s (.bool false), .s (.bool false)]), none⟩,
  ⟨none, .store 4 (.t 18) (.t 88), none⟩,
  ⟨some 19, .mv (.t 89), none⟩,
  ⟨some 20, .mv (.t 90), none⟩]
abbrev b7_14 : List (List Nat) := [[], [0], [], [2], [], [], [], [6], [5, 7], [1, 3, 4, 8, 8], [9], [10], [10], [10], [], [14, 11, 9, 0, 1, 2, 3, 4, 5, 6, 7, 8, 9, 10, 11, 14], [12, 15, 0, 1, 2, 3, 4, 5, 6, 7, 8, 9, 10, 11, 12, 14, 15], [13, 16, 0, 1, 2, 3, 4, 5, 6, 7, 8, 9, 10, 11, 12, 13, 14, 15, 16]]
abbrev r7_15 : List CO := [
  ⟨some 91, .load true 4 (.t 15), none⟩,
  ⟨some 92, .load true 4 (.t 18), none⟩,
  ⟨none, .store 4 (.t 6) (.t 91), none⟩,
  ⟨none, .store 4 (.t 7) (.t 92), none⟩]
abbrev b7_15 : List (List Nat) := [[], [], [0, 0], [1, 2, 0, 1, 2]]
abbrev r7_16 : List CO := [
  ⟨some 93, .mv (.t 8), none⟩,
  ⟨some 94, .mv (.t 16), none⟩,
  ⟨some 95, .append 3 40 ([.s (.int .i64 0), .s (.int .i64 0), .s (.slice none 0 0)]) (.t 93) (.t 94), none⟩,
  ⟨some 96, .mv (.t 9), none⟩,
  ⟨some 97, .mv (.t 19), none⟩,
  ⟨some 98, .append 3 40 ([.s (.int .i64 0), .s (.int .i64 0), .s (.slice none 0 0)]) (.t 96) (.t 97), none⟩,
  ⟨some 8, .mv (.t 95), none⟩,
  ⟨some 9, .mv (.t 98), none⟩]
abbrev r7_17 : List CO := [
  ⟨some 99, .faddr 0 (.t 5), none⟩,
  ⟨some 100, .load true 4 (.t 99), none⟩,
  ⟨some 21, .alloc ([.s (.slice none 0 0), .s (.int .i64 0), .s (.bool false), .s (.bool false)]), none⟩,
  ⟨none, .store 4 (.t 21) (.t 100), none⟩]
abbrev r7_18 : List CO := [
  ⟨some 101, .faddr 4 (.t 5), none⟩,
  ⟨some 102, .load false 1 (.t 101), none⟩]
abbrev r7_19 : List CO := [
  ⟨some 103, .build ([.s (.slice none 0 0), .s (.int .i64 0), .s (.bool false), .s (.bool false)]) [], none⟩,
  ⟨none, .store 4 (.t 21) (.t 103), none⟩]
abbrev r7_20 : List CO := [
  ⟨some 104, .faddr 0 (.t 5), none⟩,
  ⟨some 105, .load true 4 (.t 104), none⟩,
  ⟨some 106, .load true 4 (.t 6), none⟩,
  ⟨some 107, .call (.c (.fn (.func 12) [] [])) [.t 105, .t 106], none⟩,
  ⟨some 108, .un .not (.t 107), none⟩,
  ⟨some 109, .mv (.t 108), none⟩,
  ⟨some 110, .faddr 2 (.t 14), some (109, false)⟩,
  ⟨some 111, .load false 1 (.t 110), some (109, false)⟩,
  ⟨some 112, .mv (.t 17), some (109, false)⟩,
  ⟨some 113, .beq true (.t 111) (.t 112), some (109, false)⟩,
  ⟨some 114, .pick (.t 109) (.c (.p (.s (.bool true)))) (.t 113), none⟩,
  ⟨some 115, .mv (.t 114), none⟩,
  ⟨some 116, .mv (.t 9), some (115, false)⟩,
  ⟨some 117, .mv (.t 8), some (115, false)⟩,
  ⟨some 118, .call (.c (.fn (.func 24) [] [])) [.t 116, .t 117], some (115, false)⟩,
  ⟨some 119, .un .not (.t 118), some (115, false)⟩,
  ⟨some 120, .pick (.t 115) (.c (.p (.s (.bool true)))) (.t 119), none⟩,
  ⟨some 121, .mv (.t 120), none⟩,
  ⟨some 122, .load true 4 (.t 7), some (121, false)⟩,
  ⟨some 123, .load true 4 (.t 21), some (121, false)⟩,
  ⟨some 124, .call (.c (.fn (.func 12) [] [])) [.t 122, .t 123], some (121, false)⟩,
  ⟨some 125, .un .not (.t 124), some (121, false)⟩,
  ⟨some 126, .pick (.t 121) (.c (.p (.s (.bool true)))) (.t 125), none⟩]
abbrev r7_21 : List CO := [
  ⟨some 4, .mv (.c (.p (.s (.bool false)))), none⟩]
abbrev k7_1 : CC := .seq (.reg r7_7) (.seq (.seq (.reg r7_8) (.rest [1, 2, 5, 6, 7, 8, 9, 10, 11, 36] (.cond (.t 36) (.reg r7_9) (.skip)))) (.rest [1, 2, 5, 6, 7, 8, 9, 10, 11] (.seq (.reg r7_10) (.rest [1, 2, 5, 6, 7, 8, 9, 10, 11, 12] (.seq (.reg r7_11) (.rest [1, 2, 5, 6, 7, 8, 9, 10, 11, 12, 13, 14] (.seq (.reg r7_12) (.seq (.reg r7_13) (.rest [1, 2, 5, 6, 7, 8, 9, 10, 11, 14, 15, 16, 17] (.seq (.regd r7_14 b7_14) (.rest [1, 2, 5, 6, 7, 8, 9, 10, 14, 15, 16, 17, 18, 19] (.seq (.regd r7_15 b7_15) (.rest [1, 2, 5, 6, 7, 8, 9, 10, 14, 16, 17, 19] (.seq (.reg r7_16) (.rest [1, 2, 5, 6, 7, 8, 9, 10, 14, 17] (.seq (.reg r7_17) (.rest [1, 2, 5, 6, 7, 8, 9, 10, 14, 17, 21] (.seq (.seq (.reg r7_18) (.cond (.t 102) (.reg r7_19) (.skip))) (.rest [1, 2, 5, 6, 7, 8, 9, 10, 14, 17, 21] (.seq (.reg r7_20) (.rest [1, 2, 5, 6, 7, 8, 9, 10, 126] (.cond (.t 126) (.seq (.reg r7_21) (.ret)) (.skip)))))))))))))))))))))))
abbrev r7_6 : List CO := [
  ⟨some 30, .mv (.t 10), none⟩,
  ⟨some 31, .bin .add (.t 30) (.c (.p (.s (.int .i64 1)))), none⟩,
  ⟨some 10, .mv (.t 31), none⟩]
abbrev l7_25 : CC := .seq (.seq (.reg r7_5) (.rest [1, 2, 5, 6, 7, 8, 9, 10, 29] (.cond (.t 29) (.skip) (.exit 0)))) (.rest [1, 2, 5, 6, 7, 8, 9, 10] (.seq (.block 1 k7_1) (.rest [1, 2, 5, 6, 7, 8, 9, 10] (.reg r7_6))))
abbrev k7_0 : CC := .loop l7_25
abbrev r7_22 : List CO := [
  ⟨some 127, .call (.c (.fn (.func 13) [] [])) [], none⟩,
  ⟨some 4, .mv (.t 127), none⟩]
abbrev c7 : CC := .seq (.reg r7_0) (.seq (.reg r7_1) (.seq (.reg r7_2) (.seq (.reg r7_3) (.seq (.seq (.reg r7_4) (.block 0 k7_0)) (.rest [] (.seq (.reg r7_22) (.ret)))))))
theorem F7 : Fun Tryd.prog 7 128 c7 [.tmp 4] 2 := ⟨⟨Tryd.f7, _, Tryd.func7, rfl, by kernel_rfl, Tryd.ntmps7, by kernel_rfl, by kernel_rfl⟩, by decide⟩

/-- linnet/linnetlaw15.TalkSignal -/
abbrev r8_0 : List CO := [
  ⟨some 3, .box (.t 0), none⟩,
  ⟨some 5, .box (.t 2), none⟩,
  ⟨some 6, .mv (.c (.p (.s (.bool false)))), none⟩]
abbrev r8_1 : List CO := [
  ⟨some 7, .alloc ([.s (.slice none 0 0), .s (.int .i64 0), .s (.bool false), .s (.bool false), .s (.bool false)]), none⟩]
abbrev r8_2 : List CO := [
  ⟨some 8, .alloc ([.s (.slice none 0 0), .s (.int .i64 0), .s (.bool false), .s (.bool false)]), none⟩]
abbrev r8_3 : List CO := [
  ⟨some 9, .mv (.c (.p (.s (.int .i64 0)))), none⟩]
abbrev r8_4 : List CO := [
  ⟨some 24, .mv (.t 9), none⟩,
  ⟨some 25, .mv (.t 1), none⟩,
  ⟨some 26, .len (.t 25), none⟩,
  ⟨some 27, .bin .lss (.t 24) (.t 26), none⟩,
  ⟨some 28, .mv (.t 27), none⟩,
  ⟨some 29, .mv (.t 9), some (28, true)⟩,
  ⟨some 30, .bin .lss (.t 29) (.c (.p (.s (.int .i64 30)))), some (28, true)⟩,
  ⟨some 31, .pick (.t 28) (.t 30) (.c (.p (.s (.bool false)))), none⟩]
abbrev r8_6 : List CO := [
  ⟨some 10, .mv (.c (.p (.s (.slice none 0 0)))), none⟩]
abbrev r8_7 : List CO := [
  ⟨some 34, .mv (.t 1), none⟩,
  ⟨some 35, .mv (.t 9), none⟩,
  ⟨some 36, .iaddrS 4 (.t 34) (.t 35), none⟩,
  ⟨some 37, .faddr 3 (.t 36), none⟩,
  ⟨some 38, .load false 1 (.t 37), none⟩]
abbrev r8_8 : List CO := [
  ⟨some 40, .faddr 0 (.t 3), none⟩,
  ⟨some 41, .load true 62 (.t 40), none⟩,
  ⟨some 42, .load true 5 (.t 7), none⟩,
  ⟨some 43, .call (.c (.fn (.func 15) [] [])) [.t 41, .t 42], none⟩,
  ⟨some 39, .mv (.t 43), none⟩,
  ⟨some 44, .extract 0 (.t 39), none⟩,
  ⟨some 45, .extract 1 (.t 39), none⟩,
  ⟨none, .store 5 (.t 7) (.t 44), none⟩,
  ⟨some 10, .mv (.t 45), none⟩]
abbrev r8_9 : List CO := [
  ⟨some 47, .faddr 0 (.t 3), none⟩,
  ⟨some 48, .load true 62 (.t 47), none⟩,
  ⟨some 49, .faddr 62 (.t 3), none⟩,
  ⟨some 50, .load false 1 (.t 49), none⟩,
  ⟨some 51, .load true 5 (.t 7), none⟩,
  ⟨some 52, .mv (.t 1), none⟩,
  ⟨some 53, .mv (.t 9), none⟩,
  ⟨some 54, .iaddrS 4 (.t 52) (.t 53), none⟩,
  ⟨some 55, .faddr 0 (.t 54), none⟩,
  ⟨some 56, .faddr 0 (.t 55), none⟩,
  ⟨some 57, .load false 1 (.t 56), none⟩,
  ⟨some 58, .mv (.t 1), none⟩,
  ⟨some 59, .mv (.t 9), none⟩,
  ⟨some 60, .iaddrS 4 (.t 58) (.t 59), none⟩,
  ⟨some 61, .faddr 0 (.t 60), none⟩,
  ⟨some 62, .faddr 1 (.t 61), none⟩,
  ⟨some 63, .load false 1 (.t 62), none⟩,
  ⟨some 64, .mv (.t 1), none⟩,
  ⟨some 65, .mv (.t 9), none⟩,
  ⟨some 66, .iaddrS 4 (.t 64) (.t 65), none⟩,
  ⟨some 67, .faddr 0 (.t 66), none⟩,
  ⟨some 68, .faddr 2 (.t 67), none⟩,
  ⟨some 69, .load false 1 (.t 68), none⟩,
  ⟨some 70, .call (.c (.fn (.func 11) [] [])) [.t 48, .t 50, .t 51, .t 57, .t 63, .t 69], none⟩,
  ⟨some 46, .mv (.t 70), none⟩,
  ⟨some 71, .extract 0 (.t 46), none⟩,
  ⟨some 72, .extract 1 (.t 46), none⟩,
  ⟨some 11, .alloc ([.s (.slice none 0 0), .s (.int .i64 0), .s (.bool false), .s (.bool false), .s (.bool false)]), none⟩,
  ⟨some 12, .alloc ([.s (.slice none 0 0), .s (.int .i64 0), .s (.bool false)]), none⟩,
  ⟨none, .store 5 (.t 11) (.t 71), none⟩,
  ⟨none, .store 3 (.t 12) (.t 72), none⟩]
abbrev b8_9 : List (List Nat) := [[], [0], [], [2], [], [], [], [5, 6], [7], [8], [9], [], [], [11, 12], [13], [14], [15], [], [], [17, 18], [19], [20], [21], [1, 3, 4, 10, 16, 22], [23], [24], [24], [], [], [27, 25, 23, 0, 1, 2, 3, 4, 5, 6, 7, 8, 9, 10, 11, 12, 13, 14, 15, 16, 17, 18, 19, 20, 21, 22, 23, 24, 25, 27, 28], [28, 26, 29, 0, 1, 2, 3, 4, 5, 6, 7, 8, 9, 10, 11, 12, 13, 14, 15, 16, 17, 18, 19, 20, 21, 22, 23, 24, 25, 26, 27, 28, 29]]
abbrev r8_10 : List CO := [
  ⟨some 73, .load true 5 (.t 11), none⟩,
  ⟨none, .store 5 (.t 7) (.t 73), none⟩]
abbrev r8_11 : List CO := [
  ⟨some 75, .faddr 0 (.t 3), none⟩,
  ⟨some 76, .load true 62 (.t 75), none⟩,
  ⟨some 77, .faddr 62 (.t 3), none⟩,
  ⟨some 78, .load false 1 (.t 77), none⟩,
  ⟨some 79, .load true 4 (.t 8), none⟩,
  ⟨some 80, .mv (.t 10), none⟩,
  ⟨some 81, .faddr 0 (.t 12), none⟩,
  ⟨some 82, .load false 1 (.t 81), none⟩,
  ⟨some 83, .append 1 1 ([.s (.int .u8 0)]) (.t 80) (.t 82), none⟩,
  ⟨some 84, .call (.c (.fn (.func 23) [] [])) [.t 76, .t 78, .t 79, .t 83], none⟩,
  ⟨some 74, .mv (.t 84), none⟩,
  ⟨some 85, .extract 0 (.t 74), none⟩,
  ⟨some 86, .extract 1 (.t 74), none⟩,
  ⟨some 87, .extract 2 (.t 74), none⟩,
  ⟨none, .store 4 (.t 8) (.t 85), none⟩]
abbrev b8_11 : List (List Nat) := [[], [0], [], [2], [], [], [], [6], [5, 7], [1, 3, 4, 8, 8], [9], [10], [10], [10], [11, 9, 0, 1, 2, 3, 4, 5, 6, 7, 8, 9, 10, 11]]
abbrev k8_1 : CC := .seq (.reg r8_6) (.seq (.seq (.reg r8_7) (.rest [1, 3, 5, 7, 8, 9, 10, 38] (.cond (.t 38) (.reg r8_8) (.skip)))) (.rest [1, 3, 5, 7, 8, 9, 10] (.seq (.regd r8_9 b8_9) (.rest [1, 3, 5, 7, 8, 9, 10, 11, 12] (.seq (.reg r8_10) (.regd r8_11 b8_11))))))
abbrev r8_5 : List CO := [
  ⟨some 32, .mv (.t 9), none⟩,
  ⟨some 33, .bin .add (.t 32) (.c (.p (.s (.int .i64 1)))), none⟩,
  ⟨some 9, .mv (.t 33), none⟩]
abbrev l8_15 : CC := .seq (.seq (.reg r8_4) (.rest [1, 3, 5, 7, 8, 9, 31] (.cond (.t 31) (.skip) (.exit 0)))) (.rest [1, 3, 5, 7, 8, 9] (.seq (.block 1 k8_1) (.rest [1, 3, 5, 7, 8, 9] (.reg r8_5))))
abbrev k8_0 : CC := .loop l8_15
abbrev r8_12 : List CO := [
  ⟨some 89, .faddr 0 (.t 3), none⟩,
  ⟨some 90, .load true 62 (.t 89), none⟩,
  ⟨some 91, .faddr 62 (.t 3), none⟩,
  ⟨some 92, .load false 1 (.t 91), none⟩,
  ⟨some 93, .load true 5 (.t 7), none⟩,
  ⟨some 94, .faddr 0 (.t 5), none⟩,
  ⟨some 95, .load false 1 (.t 94), none⟩,
  ⟨some 96, .faddr 1 (.t 5), none⟩,
  ⟨some 97, .load false 1 (.t 96), none⟩,
  ⟨some 98, .faddr 2 (.t 5), none⟩,
  ⟨some 99, .load false 1 (.t 98), none⟩,
  ⟨some 100, .call (.c (.fn (.func 11) [] [])) [.t 90, .t 92, .t 93, .t 95, .t 97, .t 99], none⟩,
  ⟨some 88, .mv (.t 100), none⟩,
  ⟨some 101, .extract 0 (.t 88), none⟩,
  ⟨some 102, .extract 1 (.t 88), none⟩,
  ⟨some 13, .alloc ([.s (.slice none 0 0), .s (.int .i64 0), .s (.bool false), .s (.bool false), .s (.bool false)]), none⟩,
  ⟨some 14, .alloc ([.s (.slice none 0 0), .s (.int .i64 0), .s (.bool false)]), none⟩,
  ⟨none, .store 5 (.t 13) (.t 101), none⟩,
  ⟨none, .store 3 (.t 14) (.t 102), none⟩]
abbrev r8_13 : List CO := [
  ⟨some 103, .faddr 1 (.t 14), none⟩,
  ⟨some 104, .load false 1 (.t 103), none⟩,
  ⟨some 105, .bin .eql (.t 104) (.c (.p (.s (.int .i64 0)))), none⟩]
abbrev r8_14 : List CO := [
  ⟨some 106, .call (.c (.fn (.func 13) [] [])) [], none⟩,
  ⟨some 6, .mv (.t 106), none⟩]
abbrev r8_15 : List CO := [
  ⟨some 107, .faddr 1 (.t 14), none⟩,
  ⟨some 108, .load false 1 (.t 107), none⟩,
  ⟨some 109, .bin .lss (.t 108) (.c (.p (.s (.int .i64 0)))), none⟩,
  ⟨some 110, .mv (.t 109), none⟩,
  ⟨some 111, .faddr 1 (.t 14), some (110, false)⟩,
  ⟨some 112, .load false 1 (.t 111), some (110, false)⟩,
  ⟨some 113, .bin .gtr (.t 112) (.c (.p (.s (.int .i64 9)))), some (110, false)⟩,
  ⟨some 114, .pick (.t 110) (.c (.p (.s (.bool true)))) (.t 113), none⟩,
  ⟨some 115, .mv (.t 114), none⟩,
  ⟨some 116, .faddr 0 (.t 14), some (115, false)⟩,
  ⟨some 117, .load false 1 (.t 116), some (115, false)⟩,
  ⟨some 118, .len (.t 117), some (115, false)⟩,
  ⟨some 119, .bin .eql (.t 118) (.c (.p (.s (.int .i64 0)))), some (115, false)⟩,
  ⟨some 120, .pick (.t 115) (.c (.p (.s (.bool true)))) (.t 119), none⟩,
  ⟨some 121, .mv (.t 120), none⟩,
  ⟨some 122, .faddr 0 (.t 14), some (121, false)⟩,
  ⟨some 123, .load false 1 (.t 122), some (121, false)⟩,
  ⟨some 124, .faddr 0 (.t 14), some (121, false)⟩,
  ⟨some 125, .load false 1 (.t 124), some (121, false)⟩,
  ⟨some 126, .len (.t 125), some (121, false)⟩,
  ⟨some 127, .bin .sub (.t 126) (.c (.p (.s (.int .i64 1)))), some (121, false)⟩,
  ⟨some 128, .iaddrS 1 (.t 123) (.t 127), some (121, false)⟩,
  ⟨some 129, .load false 1 (.t 128), some (121, false)⟩,
  ⟨some 130, .faddr 0 (.t 5), some (121, false)⟩,
  ⟨some 131, .load false 1 (.t 130), some (121, false)⟩,
  ⟨some 132, .bin .neq (.t 129) (.t 131), some (121, false)⟩,
  ⟨some 133, .pick (.t 121) (.c (.p (.s (.bool true)))) (.t 132), none⟩]
abbrev b8_15 : List (List Nat) := [[], [0], [1], [2], [3], [4, 3], [5, 3], [3, 6], [7, 3], [8], [9, 8], [10, 8], [11, 8], [8, 12], [13, 8], [14], [15, 14], [14], [17, 14], [18, 14], [19, 14], [16, 20, 14], [21, 14], [14], [23, 14], [22, 24, 14], [14, 25]]
abbrev r8_16 : List CO := [
  ⟨some 6, .mv (.c (.p (.s (.bool false)))), none⟩]
abbrev r8_17 : List CO := [
  ⟨some 135, .faddr 0 (.t 3), none⟩,
  ⟨some 136, .load true 62 (.t 135), none⟩,
  ⟨some 137, .faddr 62 (.t 3), none⟩,
  ⟨some 138, .load false 1 (.t 137), none⟩,
  ⟨some 139, .load true 4 (.t 8), none⟩,
  ⟨some 140, .faddr 0 (.t 14), none⟩,
  ⟨some 141, .load false 1 (.t 140), none⟩,
  ⟨some 142, .faddr 0 (.t 14), none⟩,
  ⟨some 143, .load false 1 (.t 142), none⟩,
  ⟨some 144, .len (.t 143), none⟩,
  ⟨some 145, .bin .sub (.t 144) (.c (.p (.s (.int .i64 1)))), none⟩,
  ⟨some 146, .slice 1 (.t 141) none (some (.t 145)), none⟩,
  ⟨some 147, .call (.c (.fn (.func 23) [] [])) [.t 136, .t 138, .t 139, .t 146], none⟩,
  ⟨some 134, .mv (.t 147), none⟩,
  ⟨some 148, .extract 0 (.t 134), none⟩,
  ⟨some 149, .extract 1 (.t 134), none⟩,
  ⟨some 150, .extract 2 (.t 134), none⟩,
  ⟨some 15, .alloc ([.s (.slice none 0 0), .s (.int .i64 0), .s (.bool false), .s (.bool false)]), none⟩,
  ⟨none, .store 4 (.t 15) (.t 148), none⟩,
  ⟨some 16, .mv (.t 149), none⟩,
  ⟨some 17, .mv (.t 150), none⟩]
abbrev b8_17 : List (List Nat) := [[], [0], [], [2], [], [], [5], [], [7], [8], [9], [6, 10], [1, 3, 4, 11], [12], [13], [13], [13], [], [17, 14, 12, 0, 1, 2, 3, 4, 5, 6, 7, 8, 9, 10, 11, 12, 13, 14, 17], [15, 18, 0, 1, 2, 3, 4, 5, 6, 7, 8, 9, 10, 11, 12, 13, 14, 15, 17, 18], [16, 19, 0, 1, 2, 3, 4, 5, 6, 7, 8, 9, 10, 11, 12, 13, 14, 15, 16, 17, 18, 19]]
abbrev r8_18 : List CO := [
  ⟨some 152, .faddr 0 (.t 3), none⟩,
  ⟨some 153, .load true 62 (.t 152), none⟩,
  ⟨some 154, .faddr 62 (.t 3), none⟩,
  ⟨some 155, .load false 1 (.t 154), none⟩,
  ⟨some 156, .load true 4 (.t 15), none⟩,
  ⟨some 157, .faddr 0 (.t 5), none⟩,
  ⟨some 158, .load false 1 (.t 157), none⟩,
  ⟨some 159, .call (.c (.fn (.func 10) [] [])) [.t 153, .t 155, .t 156, .t 158], none⟩,
  ⟨some 151, .mv (.t 159), none⟩,
  ⟨some 160, .extract 0 (.t 151), none⟩,
  ⟨some 161, .extract 1 (.t 151), none⟩,
  ⟨some 162, .extract 2 (.t 151), none⟩,
  ⟨some 18, .alloc ([.s (.slice none 0 0), .s (.int .i64 0), .s (.bool false), .s (.bool false)]), none⟩,
  ⟨none, .store 4 (.t 18) (.t 160), none⟩,
  ⟨some 19, .mv (.t 161), none⟩,
  ⟨some 20, .mv (.t 162), none⟩]
abbrev r8_19 : List CO := [
  ⟨some 164, .load true 4 (.t 15), none⟩,
  ⟨some 165, .faddr 1 (.t 14), none⟩,
  ⟨some 166, .load false 1 (.t 165), none⟩,
  ⟨some 167, .call (.c (.fn (.func 25) [] [])) [.t 164, .t 166], none⟩,
  ⟨some 163, .mv (.t 167), none⟩,
  ⟨some 168, .extract 0 (.t 163), none⟩,
  ⟨some 169, .extract 1 (.t 163), none⟩,
  ⟨some 170, .extract 2 (.t 163), none⟩,
  ⟨some 21, .alloc ([.s (.slice none 0 0), .s (.int .i64 0), .s (.bool false), .s (.bool false)]), none⟩,
  ⟨none, .store 4 (.t 21) (.t 168), none⟩,
  ⟨some 22, .mv (.t 169), none⟩,
  ⟨some 23, .mv (.t 170), none⟩]
abbrev r8_20 : List CO := [
  ⟨some 171, .mv (.t 16), none⟩,
  ⟨some 172, .len (.t 171), none⟩,
  ⟨some 173, .bin .eql (.t 172) (.c (.p (.s (.int .i64 0)))), none⟩,
  ⟨some 174, .mv (.t 173), none⟩,
  ⟨some 175, .mv (.t 23), some (174, true)⟩,
  ⟨some 176, .bin .eql (.t 175) (.c (.p (.s (.int .i64 0)))), some (174, true)⟩,
  ⟨some 177, .pick (.t 174) (.t 176) (.c (.p (.s (.bool false)))), none⟩,
  ⟨some 178, .mv (.t 177), none⟩,
  ⟨some 179, .mv (.t 20), some (178, true)⟩,
  ⟨some 180, .un .not (.t 179), some (178, true)⟩,
  ⟨some 181, .pick (.t 178) (.t 180) (.c (.p (.s (.bool false)))), none⟩,
  ⟨some 182, .mv (.t 181), none⟩,
  ⟨some 183, .load true 4 (.t 18), some (182, true)⟩,
  ⟨some 184, .load true 4 (.t 21), some (182, true)⟩,
  ⟨some 185, .call (.c (.fn (.func 12) [] [])) [.t 183, .t 184], some (182, true)⟩,
  ⟨some 186, .pick (.t 182) (.t 185) (.c (.p (.s (.bool false)))), none⟩,
  ⟨some 187, .mv (.t 186), none⟩,
  ⟨some 188, .mv (.t 19), some (187, true)⟩,
  ⟨some 189, .mv (.t 22), some (187, true)⟩,
  ⟨some 190, .call (.c (.fn (.func 24) [] [])) [.t 188, .t 189], some (187, true)⟩,
  ⟨some 191, .pick (.t 187) (.t 190) (.c (.p (.s (.bool false)))), none⟩,
  ⟨some 192, .mv (.t 191), none⟩,
  ⟨some 193, .mv (.t 19), some (192, true)⟩,
  ⟨some 194, .len (.t 193), some (192, true)⟩,
  ⟨some 195, .bin .eql (.t 194) (.c (.p (.s (.int .i64 1)))), some (192, true)⟩,
  ⟨some 196, .pick (.t 192) (.t 195) (.c (.p (.s (.bool false)))), none⟩,
  ⟨some 197, .mv (.t 196), none⟩,
  ⟨some 198, .call (.c (.fn (.func 13) [] [])) [], some (197, true)⟩,
  ⟨some 199, .pick (.t 197) (.t 198) (.c (.p (.s (.bool false)))), none⟩,
  ⟨some 6, .mv (.t 199), none⟩]
abbrev c8 : CC := .seq (.reg r8_0) (.seq (.reg r8_1) (.seq (.reg r8_2) (.seq (.seq (.reg r8_3) (.block 0 k8_0)) (.rest [3, 5, 7, 8] (.seq (.reg r8_12) (.rest [3, 5, 8, 14] (.seq (.seq (.reg r8_13) (.cond (.t 105) (.seq (.reg r8_14) (.ret)) (.skip))) (.rest [3, 5, 8, 14] (.seq (.seq (.regd r8_15 b8_15) (.rest [3, 5, 8, 14, 133] (.cond (.t 133) (.seq (.reg r8_16) (.ret)) (.skip)))) (.rest [3, 5, 8, 14] (.seq (.regd r8_17 b8_17) (.rest [3, 5, 14, 15, 16] (.seq (.reg r8_18) (.rest [14, 15, 16, 18, 19, 20] (.seq (.reg r8_19) (.rest [16, 18, 19, 20, 21, 22, 23] (.seq (.reg r8_20) (.rest [6] (.ret)))))))))))))))))))
theorem F8 : Fun Tryd.prog 8 200 c8 [.tmp 6] 3 := ⟨⟨Tryd.f8, _, Tryd.func8, rfl, by kernel_rfl, Tryd.ntmps8, by kernel_rfl, by kernel_rfl⟩, by decide⟩

/-- linnet/linnetlaw13.Keys -/
abbrev r9_0 : List CO := [
  ⟨some 2, .mv (.c (.p (.s (.slice none 0 0)))), none⟩]
abbrev r9_1 : List CO := [
  ⟨some 3, .mv (.t 0), none⟩,
  ⟨some 4, .call (.c (.fn (.func 26) [] [])) [.t 3], none⟩,
  ⟨some 2, .mv (.t 4), none⟩]
abbrev c9 : CC := .seq (.reg r9_0) (.seq (.reg r9_1) (.ret))
theorem F9 : Fun Tryd.prog 9 5 c9 [.tmp 2] 1 := ⟨⟨Tryd.f9, _, Tryd.func9, rfl, by kernel_rfl, Tryd.ntmps9, by kernel_rfl, by kernel_rfl⟩, by decide⟩

/-- linnet/editor.Key -/
abbrev r10_0 : List CO := [
  ⟨some 4, .box (.t 0), none⟩,
  ⟨some 6, .box (.t 2), none⟩,
  ⟨some 8, .alloc ([.s (.slice none 0 0), .s (.int .i64 0), .s (.bool false), .s (.bool false)]), none⟩,
  ⟨some 9, .mv (.c (.p (.s (.slice none 0 0)))), none⟩,
  ⟨some 10, .mv (.c (.p (.s (.bool false)))), none⟩]
abbrev r10_1 : List CO := [
  ⟨some 12, .load true 4 (.t 6), none⟩,
  ⟨some 13, .call (.c (.fn (.func 27) [] [])) [.t 12], none⟩,
  ⟨some 14, .bin .neq (.t 13) (.c (.p (.s (.int .i64 0)))), none⟩]
abbrev r10_2 : List CO := [
  ⟨some 15, .load true 4 (.t 6), none⟩,
  ⟨none, .store 4 (.t 8) (.t 15), none⟩,
  ⟨some 9, .mv (.c (.p (.s (.slice none 0 0)))), none⟩,
  ⟨some 10, .mv (.c (.p (.s (.bool false)))), none⟩]
abbrev r10_3 : List CO := [
  ⟨some 16, .load true 4 (.t 6), none⟩,
  ⟨some 17, .mv (.t 1), none⟩,
  ⟨some 18, .build ([.s (.slice none 0 0), .s (.int .i64 0), .s (.bool false), .s (.bool false), .s (.int .i64 0), .s (.slice none 0 0), .s (.bool false)]) [(0, 4, .t 16), (4, 1, .t 17)], none⟩,
  ⟨some 19, .box (.t 18), none⟩,
  ⟨some 11, .mv (.t 19), none⟩]
abbrev r10_4 : List CO := [
  ⟨some 20, .mv (.t 11), none⟩,
  ⟨some 21, .nilchk (.t 20), none⟩,
  ⟨some 22, .faddr 0 (.t 21), none⟩,
  ⟨some 23, .faddr 3 (.t 22), none⟩,
  ⟨some 24, .load false 1 (.t 23), none⟩]
abbrev r10_5 : List CO := [
  ⟨some 25, .mv (.t 11), none⟩,
  ⟨some 26, .nilchk (.t 25), none⟩,
  ⟨some 27, .faddr 0 (.t 26), none⟩,
  ⟨some 28, .faddr 3 (.t 27), none⟩,
  ⟨none, .store 1 (.t 28) (.c (.p (.s (.bool false)))), none⟩]
abbrev r10_6 : List CO := [
  ⟨some 29, .mv (.t 11), none⟩,
  ⟨some 30, .mv (.t 3), none⟩,
  ⟨some 31, .call (.c (.fn (.func 28) [] [])) [.t 29, .t 30], none⟩]
abbrev r10_7 : List CO := [
  ⟨some 32, .mv (.t 11), none⟩,
  ⟨some 33, .load true 62 (.t 4), none⟩,
  ⟨some 34, .mv (.t 3), none⟩,
  ⟨some 35, .call (.c (.fn (.func 30) [] [])) [.t 33, .t 34], none⟩,
  ⟨some 36, .mv (.t 3), none⟩,
  ⟨some 37, .call (.c (.fn (.func 29) [] [])) [.t 32, .t 35, .t 36], none⟩]
abbrev r10_8 : List CO := [
  ⟨some 38, .mv (.t 11), none⟩,
  ⟨some 39, .nilchk (.t 38), none⟩,
  ⟨some 40, .faddr 0 (.t 39), none⟩,
  ⟨some 41, .load true 4 (.t 40), none⟩,
  ⟨some 42, .mv (.t 11), none⟩,
  ⟨some 43, .nilchk (.t 42), none⟩,
  ⟨some 44, .faddr 5 (.t 43), none⟩,
  ⟨some 45, .load false 1 (.t 44), none⟩,
  ⟨some 46, .mv (.t 11), none⟩,
  ⟨some 47, .nilchk (.t 46), none⟩,
  ⟨some 48, .faddr 6 (.t 47), none⟩,
  ⟨some 49, .load false 1 (.t 48), none⟩,
  ⟨none, .store 4 (.t 8) (.t 41), none⟩,
  ⟨some 9, .mv (.t 45), none⟩,
  ⟨some 10, .mv (.t 49), none⟩]
abbrev b10_8 : List (List Nat) := [[], [0], [1], [2], [], [4], [5], [6], [], [8], [9], [10], [3, 0, 1, 2, 3], [7, 12, 0, 1, 2, 3, 4, 5, 6, 7, 12], [11, 13, 0, 1, 2, 3, 4, 5, 6, 7, 8, 9, 10, 11, 12, 13]]
abbrev c10 : CC := .seq (.reg r10_0) (.rest [1, 3, 4, 6, 8] (.seq (.seq (.reg r10_1) (.cond (.t 14) (.seq (.reg r10_2) (.rest [8, 9, 10] (.ret))) (.skip))) (.rest [1, 3, 4, 6, 8] (.seq (.reg r10_3) (.rest [3, 4, 8, 11] (.seq (.seq (.reg r10_4) (.rest [3, 4, 8, 11, 24] (.cond (.t 24) (.seq (.reg r10_5) (.rest [3, 8, 11] (.reg r10_6))) (.reg r10_7)))) (.rest [8, 11] (.seq (.regd r10_8 b10_8) (.rest [8, 9, 10] (.ret))))))))))
theorem F10 : Fun Tryd.prog 10 50 c10 [.cell 8 true 4, .tmp 9, .tmp 10] 4 := ⟨⟨Tryd.f10, _, Tryd.func10, rfl, by kernel_rfl, Tryd.ntmps10, by kernel_rfl, by kernel_rfl⟩, by decide⟩

/-- linnet/talk.Type -/
abbrev r11_0 : List CO := [
  ⟨some 6, .box (.t 0), none⟩,
  ⟨some 8, .box (.t 2), none⟩,
  ⟨some 12, .alloc ([.s (.slice none 0 0), .s (.int .i64 0), .s (.bool false), .s (.bool false), .s (.bool false)]), none⟩,
  ⟨some 13, .alloc ([.s (.slice none 0 0), .s (.int .i64 0), .s (.bool false)]), none⟩]
abbrev r11_1 : List CO := [
  ⟨some 22, .load true 5 (.t 8), none⟩,
  ⟨some 23, .call (.c (.fn (.func 18) [] [])) [.t 22], none⟩,
  ⟨some 24, .bin .neq (.t 23) (.c (.p (.s (.int .i64 0)))), none⟩]
abbrev r11_2 : List CO := [
  ⟨some 25, .load true 5 (.t 8), none⟩,
  ⟨some 26, .build ([.s (.slice none 0 0), .s (.int .i64 0), .s (.bool false)]) [], none⟩,
  ⟨none, .store 5 (.t 12) (.t 25), none⟩,
  ⟨none, .store 3 (.t 13) (.t 26), none⟩]
abbrev r11_3 : List CO := [
  ⟨some 27, .faddr 0 (.t 8), none⟩,
  ⟨some 28, .load true 4 (.t 27), none⟩,
  ⟨some 14, .alloc ([.s (.slice none 0 0), .s (.int .i64 0), .s (.bool false), .s (.bool false)]), none⟩,
  ⟨none, .store 4 (.t 14) (.t 28), none⟩]
abbrev r11_4 : List CO := [
  ⟨some 30, .load true 62 (.t 6), none⟩,
  ⟨some 31, .mv (.t 1), none⟩,
  ⟨some 32, .load true 4 (.t 14), none⟩,
  ⟨some 33, .mv (.t 3), none⟩,
  ⟨some 34, .call (.c (.fn (.func 10) [] [])) [.t 30, .t 31, .t 32, .t 33], none⟩,
  ⟨some 29, .mv (.t 34), none⟩,
  ⟨some 35, .extract 0 (.t 29), none⟩,
  ⟨some 36, .extract 1 (.t 29), none⟩,
  ⟨some 37, .extract 2 (.t 29), none⟩,
  ⟨some 15, .alloc ([.s (.slice none 0 0), .s (.int .i64 0), .s (.bool false), .s (.bool false)]), none⟩,
  ⟨none, .store 4 (.t 15) (.t 35), none⟩,
  ⟨some 16, .mv (.t 36), none⟩,
  ⟨some 17, .mv (.t 37), none⟩]
abbrev r11_5 : List CO := [
  ⟨some 38, .load true 62 (.t 6), none⟩,
  ⟨some 39, .build ((tz62 ++ [.s (.pointer none), .s (.slice none 0 0)])) [(0, 62, .t 38), (62, 1, .t 8)], none⟩,
  ⟨some 18, .alloc ((tz62 ++ [.s (.pointer none), .s (.slice none 0 0)])), none⟩,
  ⟨none, .store 64 (.t 18) (.t 39), none⟩]
abbrev r11_6 : List CO := [
  ⟨some 40, .mkfn (.func 31) [.t 18] [], none⟩,
  ⟨some 19, .mv (.t 40), none⟩]
abbrev r11_7 : List CO := [
  ⟨some 41, .mv (.t 17), none⟩,
  ⟨some 42, .build ([.s (.slice none 0 0), .s (.int .i64 0), .s (.bool false)]) [(2, 1, .t 41)], none⟩,
  ⟨some 20, .alloc ([.s (.slice none 0 0), .s (.int .i64 0), .s (.bool false)]), none⟩,
  ⟨none, .store 3 (.t 20) (.t 42), none⟩]
abbrev r11_8 : List CO := [
  ⟨some 43, .mv (.t 4), none⟩,
  ⟨some 44, .mv (.t 43), none⟩,
  ⟨some 45, .faddr 4 (.t 8), some (44, true)⟩,
  ⟨some 46, .load false 1 (.t 45), some (44, true)⟩,
  ⟨some 47, .mv (.t 46), some (44, true)⟩,
  ⟨some 48, .load true 4 (.t 14), some (47, false)⟩,
  ⟨some 49, .call (.c (.fn (.func 32) [] [])) [.t 48], some (47, false)⟩,
  ⟨some 50, .pick (.t 47) (.c (.p (.s (.bool true)))) (.t 49), some (44, true)⟩,
  ⟨some 51, .pick (.t 44) (.t 50) (.c (.p (.s (.bool false)))), none⟩,
  ⟨some 21, .mv (.t 51), none⟩]
abbrev r11_9 : List CO := [
  ⟨some 53, .mv (.t 21), none⟩,
  ⟨some 54, .mv (.t 53), none⟩,
  ⟨some 55, .mv (.t 16), some (54, true)⟩,
  ⟨some 56, .len (.t 55), some (54, true)⟩,
  ⟨some 57, .bin .eql (.t 56) (.c (.p (.s (.int .i64 0)))), some (54, true)⟩,
  ⟨some 58, .pick (.t 54) (.t 57) (.c (.p (.s (.bool false)))), none⟩,
  ⟨some 59, .mv (.t 58), none⟩,
  ⟨some 60, .mv (.t 5), some (59, true)⟩,
  ⟨some 61, .pick (.t 59) (.t 60) (.c (.p (.s (.bool false)))), none⟩,
  ⟨some 62, .mv (.t 61), none⟩,
  ⟨some 63, .load true 4 (.t 15), some (62, true)⟩,
  ⟨some 64, .call (.c (.fn (.func 32) [] [])) [.t 63], some (62, true)⟩,
  ⟨some 65, .un .not (.t 64), some (62, true)⟩,
  ⟨some 66, .pick (.t 62) (.t 65) (.c (.p (.s (.bool false)))), none⟩,
  ⟨some 52, .mv (.t 66), none⟩]
abbrev r11_10 : List CO := [
  ⟨some 67, .mv (.t 19), none⟩,
  ⟨some 68, .load true 4 (.t 15), none⟩,
  ⟨some 69, .call (.t 67) [.t 68], none⟩]
abbrev r11_11 : List CO := [
  ⟨some 70, .load true 4 (.t 15), none⟩,
  ⟨some 71, .faddr 0 (.t 8), none⟩,
  ⟨none, .store 4 (.t 71) (.t 70), none⟩]
abbrev r11_12 : List CO := [
  ⟨some 72, .load true 5 (.t 8), none⟩,
  ⟨some 73, .faddr 63 (.t 18), none⟩,
  ⟨some 74, .load false 1 (.t 73), none⟩,
  ⟨some 75, .mv (.t 17), none⟩,
  ⟨some 76, .build ([.s (.slice none 0 0), .s (.int .i64 0), .s (.bool false)]) [(0, 1, .t 74), (2, 1, .t 75)], none⟩,
  ⟨none, .store 5 (.t 12) (.t 72), none⟩,
  ⟨none, .store 3 (.t 13) (.t 76), none⟩]
abbrev b11_12 : List (List Nat) := [[], [], [1], [], [2, 3], [0, 0], [4, 5, 0, 1, 2, 3, 4, 5]]
abbrev r11_13 : List CO := [
  ⟨some 78, .mv (.t 21), none⟩,
  ⟨some 79, .mv (.t 78), none⟩,
  ⟨some 80, .mv (.t 16), some (79, true)⟩,
  ⟨some 81, .len (.t 80), some (79, true)⟩,
  ⟨some 82, .bin .eql (.t 81) (.c (.p (.s (.int .i64 0)))), some (79, true)⟩,
  ⟨some 83, .pick (.t 79) (.t 82) (.c (.p (.s (.bool false)))), none⟩,
  ⟨some 77, .mv (.t 83), none⟩]
abbrev r11_14 : List CO := [
  ⟨some 84, .load true 4 (.t 15), none⟩,
  ⟨some 85, .faddr 4 (.t 8), none⟩,
  ⟨none, .store 1 (.t 85) (.c (.p (.s (.bool true)))), none⟩,
  ⟨some 86, .faddr 0 (.t 8), none⟩,
  ⟨none, .store 4 (.t 86) (.t 84), none⟩]
abbrev b11_14 : List (List Nat) := [[], [], [1], [0, 1, 2], [3, 0, 2, 0, 1, 2]]
abbrev r11_15 : List CO := [
  ⟨some 87, .load true 5 (.t 8), none⟩,
  ⟨some 88, .load true 3 (.t 20), none⟩,
  ⟨none, .store 5 (.t 12) (.t 87), none⟩,
  ⟨none, .store 3 (.t 13) (.t 88), none⟩]
abbrev b11_15 : List (List Nat) := [[], [], [0, 0], [1, 2, 0, 1, 2]]
abbrev r11_16 : List CO := [
  ⟨some 90, .faddr 4 (.t 8), none⟩,
  ⟨some 91, .load false 1 (.t 90), none⟩,
  ⟨some 89, .mv (.t 91), none⟩]
abbrev r11_17 : List CO := [
  ⟨some 92, .mv (.t 19), none⟩,
  ⟨some 93, .load true 4 (.t 14), none⟩,
  ⟨some 94, .call (.t 92) [.t 93], none⟩]
abbrev k11_0 : CC := .seq (.reg r11_9) (.rest [3, 6, 8, 12, 13, 14, 15, 16, 17, 18, 19, 20, 21, 52] (.cond (.t 52) (.seq (.reg r11_10) (.seq (.reg r11_11) (.seq (.regd r11_12 b11_12) (.rest [12, 13] (.ret))))) (.seq (.reg r11_13) (.rest [3, 6, 8, 12, 13, 14, 15, 18, 19, 20, 77] (.cond (.t 77) (.seq (.regd r11_14 b11_14) (.rest [8, 12, 13, 20] (.seq (.regd r11_15 b11_15) (.rest [12, 13] (.ret))))) (.seq (.reg r11_16) (.cond (.t 89) (.reg r11_17) (.skip))))))))
abbrev r11_18 : List CO := [
  ⟨some 95, .faddr 63 (.t 18), none⟩,
  ⟨some 96, .load false 1 (.t 95), none⟩,
  ⟨some 97, .mv (.t 3), none⟩,
  ⟨some 98, .bslice 1 1 ([.s (.int .u8 0)]) [(0, .t 97)], none⟩,
  ⟨some 99, .append 1 1 ([.s (.int .u8 0)]) (.t 96) (.t 98), none⟩,
  ⟨some 100, .load true 62 (.t 6), none⟩,
  ⟨some 101, .load true 4 (.t 14), none⟩,
  ⟨some 102, .mv (.t 3), none⟩,
  ⟨some 103, .call (.c (.fn (.func 33) [] [])) [.t 100, .t 101, .t 102], none⟩,
  ⟨some 104, .faddr 0 (.t 20), none⟩,
  ⟨none, .store 1 (.t 104) (.t 99), none⟩,
  ⟨some 105, .faddr 1 (.t 20), none⟩,
  ⟨none, .store 1 (.t 105) (.t 103), none⟩]
abbrev b11_18 : List (List Nat) := [[], [0], [], [2], [1, 3], [], [], [], [5, 6, 7, 4], [0, 1, 2, 3, 4], [9, 4, 8, 0, 1, 2, 3, 4], [0, 1, 2, 3, 4, 5, 6, 7, 8, 9, 10], [11, 8, 10, 0, 1, 2, 3, 4, 5, 6, 7, 8, 9, 10]]
abbrev r11_19 : List CO := [
  ⟨some 106, .load true 4 (.t 15), none⟩,
  ⟨some 107, .faddr 0 (.t 8), none⟩,
  ⟨none, .store 4 (.t 107) (.t 106), none⟩,
  ⟨some 108, .faddr 4 (.t 8), none⟩,
  ⟨none, .store 1 (.t 108) (.c (.p (.s (.bool false)))), none⟩]
abbrev r11_20 : List CO := [
  ⟨some 109, .load true 5 (.t 8), none⟩,
  ⟨some 110, .load true 3 (.t 20), none⟩,
  ⟨none, .store 5 (.t 12) (.t 109), none⟩,
  ⟨none, .store 3 (.t 13) (.t 110), none⟩]
abbrev b11_20 : List (List Nat) := [[], [], [0, 0], [1, 2, 0, 1, 2]]
abbrev c11 : CC := .seq (.reg r11_0) (.rest [1, 3, 4, 5, 6, 8, 12, 13] (.seq (.seq (.reg r11_1) (.cond (.t 24) (.seq (.reg r11_2) (.rest [12, 13] (.ret))) (.skip))) (.rest [1, 3, 4, 5, 6, 8, 12, 13] (.seq (.reg r11_3) (.rest [1, 3, 4, 5, 6, 8, 12, 13, 14] (.seq (.reg r11_4) (.rest [3, 4, 5, 6, 8, 12, 13, 14, 15, 16, 17] (.seq (.reg r11_5) (.rest [3, 4, 5, 6, 8, 12, 13, 14, 15, 16, 17, 18] (.seq (.reg r11_6) (.seq (.reg r11_7) (.rest [3, 4, 5, 6, 8, 12, 13, 14, 15, 16, 17, 18, 19, 20] (.seq (.reg r11_8) (.rest [3, 5, 6, 8, 12, 13, 14, 15, 16, 17, 18, 19, 20, 21] (.seq (.block 0 k11_0) (.rest [3, 6, 8, 12, 13, 14, 15, 18, 20] (.seq (.regd r11_18 b11_18) (.rest [8, 12, 13, 15, 20] (.seq (.reg r11_19) (.rest [8, 12, 13, 20] (.seq (.regd r11_20 b11_20) (.rest [12, 13] (.ret)))))))))))))))))))))))
theorem F11 : Fun Tryd.prog 11 111 c11 [.cell 12 true 5, .cell 13 true 3] 6 := ⟨⟨Tryd.f11, _, Tryd.func11, rfl, by kernel_rfl, Tryd.ntmps11, by kernel_rfl, by kernel_rfl⟩, by decide⟩

/-- linnet/editor.Same -/
abbrev r12_0 : List CO := [
  ⟨some 2, .box (.t 0), none⟩,
  ⟨some 3, .box (.t 1), none⟩,
  ⟨some 4, .mv (.c (.p (.s (.bool false)))), none⟩]
abbrev r12_1 : List CO := [
  ⟨some 5, .faddr 0 (.t 2), none⟩,
  ⟨some 6, .load true 2 (.t 5), none⟩,
  ⟨some 7, .faddr 0 (.t 3), none⟩,
  ⟨some 8, .load true 2 (.t 7), none⟩,
  ⟨some 9, .call (.c (.fn (.func 34) [] [])) [.t 6, .t 8], none⟩,
  ⟨some 10, .mv (.t 9), none⟩,
  ⟨some 11, .faddr 2 (.t 2), some (10, true)⟩,
  ⟨some 12, .load false 1 (.t 11), some (10, true)⟩,
  ⟨some 13, .faddr 2 (.t 3), some (10, true)⟩,
  ⟨some 14, .load false 1 (.t 13), some (10, true)⟩,
  ⟨some 15, .beq false (.t 12) (.t 14), some (10, true)⟩,
  ⟨some 16, .pick (.t 10) (.t 15) (.c (.p (.s (.bool false)))), none⟩,
  ⟨some 17, .mv (.t 16), none⟩,
  ⟨some 18, .faddr 3 (.t 2), some (17, true)⟩,
  ⟨some 19, .load false 1 (.t 18), some (17, true)⟩,
  ⟨some 20, .faddr 3 (.t 3), some (17, true)⟩,
  ⟨some 21, .load false 1 (.t 20), some (17, true)⟩,
  ⟨some 22, .beq false (.t 19) (.t 21), some (17, true)⟩,
  ⟨some 23, .pick (.t 17) (.t 22) (.c (.p (.s (.bool false)))), none⟩,
  ⟨some 4, .mv (.t 23), none⟩]
abbrev c12 : CC := .seq (.reg r12_0) (.seq (.reg r12_1) (.rest [4] (.ret)))
theorem F12 : Fun Tryd.prog 12 24 c12 [.tmp 4] 2 := ⟨⟨Tryd.f12, _, Tryd.func12, rfl, by kernel_rfl, Tryd.ntmps12, by kernel_rfl, by kernel_rfl⟩, by decide⟩

/-- linnet/linnetlaw15.awake -/
abbrev r13_0 : List CO := [
  ⟨some 0, .mv (.c (.p (.s (.bool false)))), none⟩]
abbrev r13_1 : List CO := [
  ⟨some 8, .call (.c (.fn (.func 35) [] [])) [], none⟩,
  ⟨some 1, .alloc (tz62), none⟩,
  ⟨none, .store 62 (.t 1) (.t 8), none⟩]
abbrev r13_2 : List CO := [
  ⟨some 10, .load true 62 (.t 1), none⟩,
  ⟨some 11, .build ([.s (.slice none 0 0), .s (.int .i64 0), .s (.bool false), .s (.bool false), .s (.bool false)]) [], none⟩,
  ⟨some 12, .call (.c (.fn (.func 11) [] [])) [.t 10, .c (.p (.s (.int .i64 99))), .t 11, .c (.p (.s (.int .u8 97))), .c (.p (.s (.bool true))), .c (.p (.s (.bool false)))], none⟩,
  ⟨some 9, .mv (.t 12), none⟩,
  ⟨some 13, .extract 0 (.t 9), none⟩,
  ⟨some 14, .extract 1 (.t 9), none⟩,
  ⟨some 2, .alloc ([.s (.slice none 0 0), .s (.int .i64 0), .s (.bool false), .s (.bool false), .s (.bool false)]), none⟩,
  ⟨some 3, .alloc ([.s (.slice none 0 0), .s (.int .i64 0), .s (.bool false)]), none⟩,
  ⟨none, .store 5 (.t 2) (.t 13), none⟩,
  ⟨none, .store 3 (.t 3) (.t 14), none⟩]
abbrev r13_3 : List CO := [
  ⟨some 16, .load true 62 (.t 1), none⟩,
  ⟨some 17, .load true 5 (.t 2), none⟩,
  ⟨some 18, .call (.c (.fn (.func 11) [] [])) [.t 16, .c (.p (.s (.int .i64 99))), .t 17, .c (.p (.s (.int .u8 98))), .c (.p (.s (.bool false))), .c (.p (.s (.bool false)))], none⟩,
  ⟨some 15, .mv (.t 18), none⟩,
  ⟨some 19, .extract 0 (.t 15), none⟩,
  ⟨some 20, .extract 1 (.t 15), none⟩,
  ⟨some 4, .alloc ([.s (.slice none 0 0), .s (.int .i64 0), .s (.bool false), .s (.bool false), .s (.bool false)]), none⟩,
  ⟨some 5, .alloc ([.s (.slice none 0 0), .s (.int .i64 0), .s (.bool false)]), none⟩,
  ⟨none, .store 5 (.t 4) (.t 19), none⟩,
  ⟨none, .store 3 (.t 5) (.t 20), none⟩]
abbrev r13_4 : List CO := [
  ⟨some 22, .load true 62 (.t 1), none⟩,
  ⟨some 23, .load true 5 (.t 2), none⟩,
  ⟨some 24, .call (.c (.fn (.func 11) [] [])) [.t 22, .c (.p (.s (.int .i64 99))), .t 23, .c (.p (.s (.int .u8 3))), .c (.p (.s (.bool true))), .c (.p (.s (.bool false)))], none⟩,
  ⟨some 21, .mv (.t 24), none⟩,
  ⟨some 25, .extract 0 (.t 21), none⟩,
  ⟨some 26, .extract 1 (.t 21), none⟩,
  ⟨some 6, .alloc ([.s (.slice none 0 0), .s (.int .i64 0), .s (.bool false), .s (.bool false), .s (.bool false)]), none⟩,
  ⟨some 7, .alloc ([.s (.slice none 0 0), .s (.int .i64 0), .s (.bool false)]), none⟩,
  ⟨none, .store 5 (.t 6) (.t 25), none⟩,
  ⟨none, .store 3 (.t 7) (.t 26), none⟩]
abbrev r13_5 : List CO := [
  ⟨some 27, .faddr 4 (.t 2), none⟩,
  ⟨some 28, .load false 1 (.t 27), none⟩,
  ⟨some 29, .mv (.t 28), none⟩,
  ⟨some 30, .faddr 0 (.t 3), some (29, true)⟩,
  ⟨some 31, .load false 1 (.t 30), some (29, true)⟩,
  ⟨some 32, .len (.t 31), some (29, true)⟩,
  ⟨some 33, .bin .eql (.t 32) (.c (.p (.s (.int .i64 0)))), some (29, true)⟩,
  ⟨some 34, .pick (.t 29) (.t 33) (.c (.p (.s (.bool false)))), none⟩,
  ⟨some 35, .mv (.t 34), none⟩,
  ⟨some 36, .faddr 0 (.t 5), some (35, true)⟩,
  ⟨some 37, .load false 1 (.t 36), some (35, true)⟩,
  ⟨some 38, .toStr (.t 37), some (35, true)⟩,
  ⟨some 39, .bin .eql (.t 38) (.c (.p (.s (.string { data := #[97, 98] })))), some (35, true)⟩,
  ⟨some 40, .pick (.t 35) (.t 39) (.c (.p (.s (.bool false)))), none⟩,
  ⟨some 41, .mv (.t 40), none⟩,
  ⟨some 42, .faddr 1 (.t 5), some (41, true)⟩,
  ⟨some 43, .load false 1 (.t 42), some (41, true)⟩,
  ⟨some 44, .bin .eql (.t 43) (.c (.p (.s (.int .i64 0)))), some (41, true)⟩,
  ⟨some 45, .pick (.t 41) (.t 44) (.c (.p (.s (.bool false)))), none⟩,
  ⟨some 46, .mv (.t 45), none⟩,
  ⟨some 47, .faddr 0 (.t 7), some (46, true)⟩,
  ⟨some 48, .load false 1 (.t 47), some (46, true)⟩,
  ⟨some 49, .toStr (.t 48), some (46, true)⟩,
  ⟨some 50, .bin .eql (.t 49) (.c (.p (.s (.string { data := #[97, 3] })))), some (46, true)⟩,
  ⟨some 51, .pick (.t 46) (.t 50) (.c (.p (.s (.bool false)))), none⟩,
  ⟨some 52, .mv (.t 51), none⟩,
  ⟨some 53, .faddr 1 (.t 7), some (52, true)⟩,
  ⟨some 54, .load false 1 (.t 53), some (52, true)⟩,
  ⟨some 55, .bin .eql (.t 54) (.c (.p (.s (.int .i64 3)))), some (52, true)⟩,
  ⟨some 56, .pick (.t 52) (.t 55) (.c (.p (.s (.bool false)))), none⟩,
  ⟨some 0, .mv (.t 56), none⟩]
abbrev c13 : CC := .seq (.reg r13_0) (.seq (.reg r13_1) (.seq (.reg r13_2) (.rest [1, 2, 3] (.seq (.reg r13_3) (.rest [1, 2, 3, 5] (.seq (.reg r13_4) (.rest [2, 3, 5, 7] (.seq (.reg r13_5) (.rest [0] (.ret))))))))))
theorem F13 : Fun Tryd.prog 13 57 c13 [.tmp 0] 0 := ⟨⟨Tryd.f13, _, Tryd.func13, rfl, by kernel_rfl, Tryd.ntmps13, by kernel_rfl, by kernel_rfl⟩, by decide⟩

/-- linnet/linnetlaw15.One -/
abbrev r14_0 : List CO := [
  ⟨some 1, .box (.t 0), none⟩,
  ⟨some 2, .alloc ([.s (.slice none 0 0), .s (.int .i64 0), .s (.bool false), .s (.bool false), .s (.bool false)]), none⟩]
abbrev r14_1 : List CO := [
  ⟨some 3, .faddr 0 (.t 1), none⟩,
  ⟨some 4, .load true 4 (.t 3), none⟩,
  ⟨some 5, .call (.c (.fn (.func 36) [] [])) [.t 4], none⟩,
  ⟨some 6, .faddr 4 (.t 1), none⟩,
  ⟨some 7, .load false 1 (.t 6), none⟩,
  ⟨some 8, .build ([.s (.slice none 0 0), .s (.int .i64 0), .s (.bool false), .s (.bool false), .s (.bool false)]) [(0, 4, .t 5), (4, 1, .t 7)], none⟩,
  ⟨none, .store 5 (.t 2) (.t 8), none⟩]
abbrev b14_1 : List (List Nat) := [[], [0], [1], [], [3], [2, 4], [5, 2, 0, 1, 2, 3, 4, 5]]
abbrev c14 : CC := .seq (.reg r14_0) (.seq (.regd r14_1 b14_1) (.rest [2] (.ret)))
theorem F14 : Fun Tryd.prog 14 9 c14 [.cell 2 true 5] 1 := ⟨⟨Tryd.f14, _, Tryd.func14, rfl, by kernel_rfl, Tryd.ntmps14, by kernel_rfl, by kernel_rfl⟩, by decide⟩

/-- linnet/talk.Pass -/
abbrev r15_0 : List CO := [
  ⟨some 2, .box (.t 0), none⟩,
  ⟨some 3, .box (.t 1), none⟩,
  ⟨some 4, .alloc ([.s (.slice none 0 0), .s (.int .i64 0), .s (.bool false), .s (.bool false), .s (.bool false)]), none⟩,
  ⟨some 5, .mv (.c (.p (.s (.slice none 0 0)))), none⟩]
abbrev r15_1 : List CO := [
  ⟨some 7, .load true 62 (.t 2), none⟩,
  ⟨some 8, .build ((tz62 ++ [.s (.pointer none), .s (.slice none 0 0)])) [(0, 62, .t 7), (62, 1, .t 3)], none⟩,
  ⟨some 6, .alloc ((tz62 ++ [.s (.pointer none), .s (.slice none 0 0)])), none⟩,
  ⟨none, .store 64 (.t 6) (.t 8), none⟩]
abbrev r15_2 : List CO := [
  ⟨some 9, .load true 5 (.t 3), none⟩,
  ⟨some 10, .call (.c (.fn (.func 18) [] [])) [.t 9], none⟩,
  ⟨some 11, .bin .eql (.t 10) (.c (.p (.s (.int .i64 0)))), none⟩,
  ⟨some 12, .mv (.t 11), none⟩,
  ⟨some 13, .faddr 4 (.t 3), some (12, true)⟩,
  ⟨some 14, .load false 1 (.t 13), some (12, true)⟩,
  ⟨some 15, .pick (.t 12) (.t 14) (.c (.p (.s (.bool false)))), none⟩]
abbrev r15_3 : List CO := [
  ⟨some 16, .faddr 0 (.t 3), none⟩,
  ⟨some 17, .load true 4 (.t 16), none⟩,
  ⟨some 18, .call (.c (.fn (.func 31) [] [])) [.t 6, .t 17], none⟩]
abbrev r15_4 : List CO := [
  ⟨some 19, .load true 5 (.t 3), none⟩,
  ⟨some 20, .faddr 63 (.t 6), none⟩,
  ⟨some 21, .load false 1 (.t 20), none⟩,
  ⟨none, .store 5 (.t 4) (.t 19), none⟩,
  ⟨some 5, .mv (.t 21), none⟩]
abbrev b15_4 : List (List Nat) := [[], [], [1], [0, 0], [2, 3, 0, 1, 2, 3]]
abbrev c15 : CC := .seq (.reg r15_0) (.rest [2, 3, 4] (.seq (.reg r15_1) (.rest [3, 4, 6] (.seq (.seq (.reg r15_2) (.rest [3, 4, 6, 15] (.cond (.t 15) (.reg r15_3) (.skip)))) (.rest [3, 4, 6] (.seq (.regd r15_4 b15_4) (.rest [4, 5] (.ret))))))))
theorem F15 : Fun Tryd.prog 15 22 c15 [.cell 4 true 5, .tmp 5] 2 := ⟨⟨Tryd.f15, _, Tryd.func15, rfl, by kernel_rfl, Tryd.ntmps15, by kernel_rfl, by kernel_rfl⟩, by decide⟩

/-- linnet/linnetref15.Pass -/
abbrev r16_0 : List CO := [
  ⟨some 2, .box (.t 0), none⟩,
  ⟨some 3, .box (.t 1), none⟩,
  ⟨some 4, .alloc ([.s (.slice none 0 0), .s (.int .i64 0), .s (.bool false), .s (.bool false), .s (.bool false)]), none⟩,
  ⟨some 5, .mv (.c (.p (.s (.slice none 0 0)))), none⟩]
abbrev r16_1 : List CO := [
  ⟨some 6, .faddr 0 (.t 3), none⟩,
  ⟨some 7, .load true 4 (.t 6), none⟩,
  ⟨some 8, .call (.c (.fn (.func 19) [] [])) [.t 7], none⟩,
  ⟨some 9, .un .not (.t 8), none⟩,
  ⟨some 10, .mv (.t 9), none⟩,
  ⟨some 11, .faddr 4 (.t 3), some (10, false)⟩,
  ⟨some 12, .load false 1 (.t 11), some (10, false)⟩,
  ⟨some 13, .un .not (.t 12), some (10, false)⟩,
  ⟨some 14, .pick (.t 10) (.c (.p (.s (.bool true)))) (.t 13), none⟩]
abbrev r16_2 : List CO := [
  ⟨some 15, .load true 5 (.t 3), none⟩,
  ⟨none, .store 5 (.t 4) (.t 15), none⟩,
  ⟨some 5, .mv (.c (.p (.s (.slice none 0 0)))), none⟩]
abbrev r16_3 : List CO := [
  ⟨some 16, .faddr 0 (.t 3), none⟩,
  ⟨some 17, .load true 4 (.t 16), none⟩,
  ⟨some 18, .build ([.s (.slice none 0 0), .s (.int .i64 0), .s (.bool false), .s (.bool false), .s (.bool false)]) [(0, 4, .t 17)], none⟩,
  ⟨some 19, .load true 62 (.t 2), none⟩,
  ⟨some 20, .faddr 0 (.t 3), none⟩,
  ⟨some 21, .load true 4 (.t 20), none⟩,
  ⟨some 22, .call (.c (.fn (.func 37) [] [])) [.t 19, .t 21], none⟩,
  ⟨none, .store 5 (.t 4) (.t 18), none⟩,
  ⟨some 5, .mv (.t 22), none⟩]
abbrev b16_3 : List (List Nat) := [[], [0], [1], [], [], [4], [3, 5], [2, 6, 0, 1, 2], [6, 7, 0, 1, 2, 3, 4, 5, 6, 7]]
abbrev c16 : CC := .seq (.reg r16_0) (.rest [2, 3, 4] (.seq (.seq (.reg r16_1) (.rest [2, 3, 4, 14] (.cond (.t 14) (.seq (.reg r16_2) (.ret)) (.skip)))) (.rest [2, 3, 4] (.seq (.regd r16_3 b16_3) (.rest [4, 5] (.ret))))))
theorem F16 : Fun Tryd.prog 16 23 c16 [.cell 4 true 5, .tmp 5] 2 := ⟨⟨Tryd.f16, _, Tryd.func16, rfl, by kernel_rfl, Tryd.ntmps16, by kernel_rfl, by kernel_rfl⟩, by decide⟩

/-- linnet/linnetref15.Type -/
abbrev r17_0 : List CO := [
  ⟨some 4, .box (.t 0), none⟩,
  ⟨some 6, .box (.t 2), none⟩,
  ⟨some 7, .box (.t 3), none⟩,
  ⟨some 8, .alloc ([.s (.slice none 0 0), .s (.int .i64 0), .s (.bool false), .s (.bool false), .s (.bool false)]), none⟩,
  ⟨some 9, .alloc ([.s (.slice none 0 0), .s (.int .i64 0), .s (.bool false)]), none⟩]
abbrev r17_1 : List CO := [
  ⟨some 17, .faddr 0 (.t 6), none⟩,
  ⟨some 18, .load true 4 (.t 17), none⟩,
  ⟨some 19, .call (.c (.fn (.func 19) [] [])) [.t 18], none⟩,
  ⟨some 20, .un .not (.t 19), none⟩]
abbrev r17_2 : List CO := [
  ⟨some 21, .load true 5 (.t 6), none⟩,
  ⟨some 22, .build ([.s (.slice none 0 0), .s (.int .i64 0), .s (.bool false)]) [], none⟩,
  ⟨none, .store 5 (.t 8) (.t 21), none⟩,
  ⟨none, .store 3 (.t 9) (.t 22), none⟩]
abbrev r17_3 : List CO := [
  ⟨some 24, .load true 62 (.t 4), none⟩,
  ⟨some 25, .mv (.t 1), none⟩,
  ⟨some 26, .faddr 0 (.t 6), none⟩,
  ⟨some 27, .load true 4 (.t 26), none⟩,
  ⟨some 28, .faddr 0 (.t 7), none⟩,
  ⟨some 29, .load false 1 (.t 28), none⟩,
  ⟨some 30, .call (.c (.fn (.func 38) [] [])) [.t 24, .t 25, .t 27, .t 29], none⟩,
  ⟨some 23, .mv (.t 30), none⟩,
  ⟨some 31, .extract 0 (.t 23), none⟩,
  ⟨some 32, .extract 1 (.t 23), none⟩,
  ⟨some 33, .extract 2 (.t 23), none⟩,
  ⟨some 10, .alloc ([.s (.slice none 0 0), .s (.int .i64 0), .s (.bool false), .s (.bool false)]), none⟩,
  ⟨none, .store 4 (.t 10) (.t 31), none⟩,
  ⟨some 11, .mv (.t 32), none⟩,
  ⟨some 12, .mv (.t 33), none⟩]
abbrev r17_4 : List CO := [
  ⟨some 34, .build ([.s (.slice none 0 0), .s (.int .i64 0), .s (.bool false), .s (.bool false)]) [], none⟩,
  ⟨some 13, .alloc ([.s (.slice none 0 0), .s (.int .i64 0), .s (.bool false), .s (.bool false)]), none⟩,
  ⟨none, .store 4 (.t 13) (.t 34), none⟩]
abbrev r17_5 : List CO := [
  ⟨some 35, .faddr 4 (.t 6), none⟩,
  ⟨some 36, .load false 1 (.t 35), none⟩,
  ⟨some 37, .mv (.t 36), none⟩,
  ⟨some 38, .faddr 0 (.t 6), some (37, false)⟩,
  ⟨some 39, .load true 4 (.t 38), some (37, false)⟩,
  ⟨some 40, .load true 4 (.t 13), some (37, false)⟩,
  ⟨some 41, .call (.c (.fn (.func 39) [] [])) [.t 39, .t 40], some (37, false)⟩,
  ⟨some 42, .pick (.t 37) (.c (.p (.s (.bool true)))) (.t 41), none⟩,
  ⟨some 14, .mv (.t 42), none⟩]
abbrev r17_6 : List CO := [
  ⟨some 43, .faddr 1 (.t 7), none⟩,
  ⟨some 44, .load false 1 (.t 43), none⟩,
  ⟨some 45, .mv (.t 44), none⟩,
  ⟨some 46, .mv (.t 14), some (45, true)⟩,
  ⟨some 47, .pick (.t 45) (.t 46) (.c (.p (.s (.bool false)))), none⟩,
  ⟨some 48, .mv (.t 47), none⟩,
  ⟨some 49, .mv (.t 11), some (48, true)⟩,
  ⟨some 50, .len (.t 49), some (48, true)⟩,
  ⟨some 51, .bin .eql (.t 50) (.c (.p (.s (.int .i64 0)))), some (48, true)⟩,
  ⟨some 52, .pick (.t 48) (.t 51) (.c (.p (.s (.bool false)))), none⟩]
abbrev r17_7 : List CO := [
  ⟨some 53, .faddr 2 (.t 7), none⟩,
  ⟨some 54, .load false 1 (.t 53), none⟩,
  ⟨some 55, .mv (.t 54), none⟩,
  ⟨some 56, .load true 4 (.t 10), some (55, true)⟩,
  ⟨some 57, .load true 4 (.t 13), some (55, true)⟩,
  ⟨some 58, .call (.c (.fn (.func 39) [] [])) [.t 56, .t 57], some (55, true)⟩,
  ⟨some 59, .un .not (.t 58), some (55, true)⟩,
  ⟨some 60, .pick (.t 55) (.t 59) (.c (.p (.s (.bool false)))), none⟩]
abbrev r17_8 : List CO := [
  ⟨some 61, .load true 4 (.t 10), none⟩,
  ⟨some 62, .build ([.s (.slice none 0 0), .s (.int .i64 0), .s (.bool false), .s (.bool false), .s (.bool false)]) [(0, 4, .t 61)], none⟩,
  ⟨some 63, .load true 62 (.t 4), none⟩,
  ⟨some 64, .load true 4 (.t 10), none⟩,
  ⟨some 65, .call (.c (.fn (.func 37) [] [])) [.t 63, .t 64], none⟩,
  ⟨some 66, .mv (.t 12), none⟩,
  ⟨some 67, .build ([.s (.slice none 0 0), .s (.int .i64 0), .s (.bool false)]) [(0, 1, .t 65), (2, 1, .t 66)], none⟩,
  ⟨none, .store 5 (.t 8) (.t 62), none⟩,
  ⟨none, .store 3 (.t 9) (.t 67), none⟩]
abbrev b17_8 : List (List Nat) := [[], [0], [], [], [2, 3], [], [4, 5], [1, 4, 0, 1], [6, 7, 0, 1, 2, 3, 4, 5, 6, 7]]
abbrev r17_9 : List CO := [
  ⟨some 68, .load true 4 (.t 10), none⟩,
  ⟨some 69, .build ([.s (.slice none 0 0), .s (.int .i64 0), .s (.bool false), .s (.bool false), .s (.bool false)]) [(0, 4, .t 68), (4, 1, .c (.p (.s (.bool true))))], none⟩,
  ⟨some 70, .mv (.t 12), none⟩,
  ⟨some 71, .build ([.s (.slice none 0 0), .s (.int .i64 0), .s (.bool false)]) [(2, 1, .t 70)], none⟩,
  ⟨none, .store 5 (.t 8) (.t 69), none⟩,
  ⟨none, .store 3 (.t 9) (.t 71), none⟩]
abbrev r17_10 : List CO := [
  ⟨some 15, .mv (.c (.p (.s (.slice none 0 0)))), none⟩]
abbrev r17_11 : List CO := [
  ⟨some 72, .faddr 4 (.t 6), none⟩,
  ⟨some 73, .load false 1 (.t 72), none⟩]
abbrev r17_12 : List CO := [
  ⟨some 74, .load true 62 (.t 4), none⟩,
  ⟨some 75, .faddr 0 (.t 6), none⟩,
  ⟨some 76, .load true 4 (.t 75), none⟩,
  ⟨some 77, .call (.c (.fn (.func 37) [] [])) [.t 74, .t 76], none⟩,
  ⟨some 15, .mv (.t 77), none⟩]
abbrev r17_13 : List CO := [
  ⟨some 78, .load true 62 (.t 4), none⟩,
  ⟨some 79, .faddr 0 (.t 7), none⟩,
  ⟨some 80, .load false 1 (.t 79), none⟩,
  ⟨some 81, .call (.c (.fn (.func 40) [] [])) [.t 78, .t 80], none⟩,
  ⟨some 16, .mv (.t 81), none⟩]
abbrev r17_14 : List CO := [
  ⟨some 82, .faddr 0 (.t 6), none⟩,
  ⟨some 83, .faddr 3 (.t 82), none⟩,
  ⟨some 84, .load false 1 (.t 83), none⟩,
  ⟨some 85, .mv (.t 84), none⟩,
  ⟨some 86, .mv (.t 16), some (85, false)⟩,
  ⟨some 87, .bin .gtr (.t 86) (.c (.p (.s (.int .i64 9)))), some (85, false)⟩,
  ⟨some 88, .pick (.t 85) (.c (.p (.s (.bool true)))) (.t 87), none⟩]
abbrev r17_15 : List CO := [
  ⟨some 16, .mv (.c (.p (.s (.int .i64 0)))), none⟩]
abbrev r17_16 : List CO := [
  ⟨some 89, .load true 4 (.t 10), none⟩,
  ⟨some 90, .build ([.s (.slice none 0 0), .s (.int .i64 0), .s (.bool false), .s (.bool false), .s (.bool false)]) [(0, 4, .t 89)], none⟩,
  ⟨some 91, .mv (.t 15), none⟩,
  ⟨some 92, .faddr 0 (.t 7), none⟩,
  ⟨some 93, .load false 1 (.t 92), none⟩,
  ⟨some 94, .bslice 1 1 ([.s (.int .u8 0)]) [(0, .t 93)], none⟩,
  ⟨some 95, .append 1 1 ([.s (.int .u8 0)]) (.t 91) (.t 94), none⟩,
  ⟨some 96, .mv (.t 16), none⟩,
  ⟨some 97, .mv (.t 12), none⟩,
  ⟨some 98, .build ([.s (.slice none 0 0), .s (.int .i64 0), .s (.bool false)]) [(0, 1, .t 95), (1, 1, .t 96), (2, 1, .t 97)], none⟩,
  ⟨none, .store 5 (.t 8) (.t 90), none⟩,
  ⟨none, .store 3 (.t 9) (.t 98), none⟩]
abbrev b17_16 : List (List Nat) := [[], [0], [], [], [3], [4], [2, 5], [], [], [6, 7, 8], [1, 6, 0, 1], [9, 10, 0, 1, 2, 3, 4, 5, 6, 7, 8, 9, 10]]
abbrev c17 : CC := .seq (.reg r17_0) (.rest [1, 4, 6, 7, 8, 9] (.seq (.seq (.reg r17_1) (.rest [1, 4, 6, 7, 8, 9, 20] (.cond (.t 20) (.seq (.reg r17_2) (.rest [8, 9] (.ret))) (.skip)))) (.rest [1, 4, 6, 7, 8, 9] (.seq (.reg r17_3) (.rest [4, 6, 7, 8, 9, 10, 11, 12] (.seq (.reg r17_4) (.seq (.reg r17_5) (.rest [4, 6, 7, 8, 9, 10, 11, 12, 13, 14] (.seq (.seq (.reg r17_6) (.rest [4, 6, 7, 8, 9, 10, 12, 13, 52] (.cond (.t 52) (.seq (.seq (.reg r17_7) (.rest [4, 8, 9, 10, 12, 60] (.cond (.t 60) (.seq (.regd r17_8 b17_8) (.rest [8, 9] (.ret))) (.skip)))) (.rest [8, 9, 10, 12] (.seq (.reg r17_9) (.rest [8, 9] (.ret))))) (.skip)))) (.rest [4, 6, 7, 8, 9, 10, 12] (.seq (.reg r17_10) (.seq (.seq (.reg r17_11) (.cond (.t 73) (.reg r17_12) (.skip))) (.rest [4, 6, 7, 8, 9, 10, 12, 15] (.seq (.reg r17_13) (.rest [6, 7, 8, 9, 10, 12, 15, 16] (.seq (.seq (.reg r17_14) (.rest [7, 8, 9, 10, 12, 15, 16, 88] (.cond (.t 88) (.reg r17_15) (.skip)))) (.rest [7, 8, 9, 10, 12, 15, 16] (.seq (.regd r17_16 b17_16) (.rest [8, 9] (.ret))))))))))))))))))))
theorem F17 : Fun Tryd.prog 17 99 c17 [.cell 8 true 5, .cell 9 true 3] 4 := ⟨⟨Tryd.f17, _, Tryd.func17, rfl, by kernel_rfl, Tryd.ntmps17, by kernel_rfl, by kernel_rfl⟩, by decide⟩

/-- linnet/talk.Check -/
abbrev r18_0 : List CO := [
  ⟨some 1, .box (.t 0), none⟩,
  ⟨some 2, .mv (.c (.p (.s (.int .i64 0)))), none⟩]
abbrev r18_1 : List CO := [
  ⟨some 3, .faddr 0 (.t 1), none⟩,
  ⟨some 4, .load true 4 (.t 3), none⟩,
  ⟨some 5, .call (.c (.fn (.func 27) [] [])) [.t 4], none⟩,
  ⟨some 2, .mv (.t 5), none⟩]
abbrev c18 : CC := .seq (.reg r18_0) (.seq (.reg r18_1) (.rest [2] (.ret)))
theorem F18 : Fun Tryd.prog 18 6 c18 [.tmp 2] 1 := ⟨⟨Tryd.f18, _, Tryd.func18, rfl, by kernel_rfl, Tryd.ntmps18, by kernel_rfl, by kernel_rfl⟩, by decide⟩

/-- linnet/linnetref13.May -/
abbrev r19_0 : List CO := [
  ⟨some 1, .box (.t 0), none⟩,
  ⟨some 2, .mv (.c (.p (.s (.bool false)))), none⟩]
abbrev r19_1 : List CO := [
  ⟨some 3, .faddr 0 (.t 1), none⟩,
  ⟨some 4, .load true 2 (.t 3), none⟩,
  ⟨some 5, .call (.c (.fn (.func 41) [] [])) [.t 4], none⟩,
  ⟨some 2, .mv (.t 5), none⟩]
abbrev c19 : CC := .seq (.reg r19_0) (.seq (.reg r19_1) (.rest [2] (.ret)))
theorem F19 : Fun Tryd.prog 19 6 c19 [.tmp 2] 1 := ⟨⟨Tryd.f19, _, Tryd.func19, rfl, by kernel_rfl, Tryd.ntmps19, by kernel_rfl, by kernel_rfl⟩, by decide⟩

/-- linnet/linnetref15.Same -/
abbrev r20_0 : List CO := [
  ⟨some 2, .box (.t 0), none⟩,
  ⟨some 3, .box (.t 1), none⟩,
  ⟨some 4, .mv (.c (.p (.s (.bool false)))), none⟩]
abbrev r20_1 : List CO := [
  ⟨some 5, .faddr 0 (.t 2), none⟩,
  ⟨some 6, .load true 4 (.t 5), none⟩,
  ⟨some 7, .faddr 0 (.t 3), none⟩,
  ⟨some 8, .load true 4 (.t 7), none⟩,
  ⟨some 9, .call (.c (.fn (.func 39) [] [])) [.t 6, .t 8], none⟩,
  ⟨some 10, .mv (.t 9), none⟩,
  ⟨some 11, .faddr 4 (.t 2), some (10, true)⟩,
  ⟨some 12, .load false 1 (.t 11), some (10, true)⟩,
  ⟨some 13, .faddr 4 (.t 3), some (10, true)⟩,
  ⟨some 14, .load false 1 (.t 13), some (10, true)⟩,
  ⟨some 15, .beq false (.t 12) (.t 14), some (10, true)⟩,
  ⟨some 16, .pick (.t 10) (.t 15) (.c (.p (.s (.bool false)))), none⟩,
  ⟨some 4, .mv (.t 16), none⟩]
abbrev c20 : CC := .seq (.reg r20_0) (.seq (.reg r20_1) (.rest [4] (.ret)))
theorem F20 : Fun Tryd.prog 20 17 c20 [.tmp 4] 2 := ⟨⟨Tryd.f20, _, Tryd.func20, rfl, by kernel_rfl, Tryd.ntmps20, by kernel_rfl, by kernel_rfl⟩, by decide⟩

/-- linnet/linnetref01.Octets -/
abbrev r21_0 : List CO := [
  ⟨some 4, .mv (.c (.p (.s (.bool false)))), none⟩]
abbrev r21_1 : List CO := [
  ⟨some 5, .mv (.t 0), none⟩,
  ⟨some 6, .toStr (.t 5), none⟩,
  ⟨some 7, .mv (.t 1), none⟩,
  ⟨some 8, .toStr (.t 7), none⟩,
  ⟨some 9, .bin .eql (.t 6) (.t 8), none⟩,
  ⟨some 4, .mv (.t 9), none⟩]
abbrev c21 : CC := .seq (.reg r21_0) (.seq (.reg r21_1) (.rest [4] (.ret)))
theorem F21 : Fun Tryd.prog 21 10 c21 [.tmp 4] 2 := ⟨⟨Tryd.f21, _, Tryd.func21, rfl, by kernel_rfl, Tryd.ntmps21, by kernel_rfl, by kernel_rfl⟩, by decide⟩

/-- linnet/talk.Same -/
abbrev r22_0 : List CO := [
  ⟨some 2, .box (.t 0), none⟩,
  ⟨some 3, .box (.t 1), none⟩,
  ⟨some 4, .mv (.c (.p (.s (.bool false)))), none⟩]
abbrev r22_1 : List CO := [
  ⟨some 5, .faddr 0 (.t 2), none⟩,
  ⟨some 6, .load true 4 (.t 5), none⟩,
  ⟨some 7, .faddr 0 (.t 3), none⟩,
  ⟨some 8, .load true 4 (.t 7), none⟩,
  ⟨some 9, .call (.c (.fn (.func 12) [] [])) [.t 6, .t 8], none⟩,
  ⟨some 10, .mv (.t 9), none⟩,
  ⟨some 11, .faddr 4 (.t 2), some (10, true)⟩,
  ⟨some 12, .load false 1 (.t 11), some (10, true)⟩,
  ⟨some 13, .faddr 4 (.t 3), some (10, true)⟩,
  ⟨some 14, .load false 1 (.t 13), some (10, true)⟩,
  ⟨some 15, .beq false (.t 12) (.t 14), some (10, true)⟩,
  ⟨some 16, .pick (.t 10) (.t 15) (.c (.p (.s (.bool false)))), none⟩,
  ⟨some 4, .mv (.t 16), none⟩]
abbrev c22 : CC := .seq (.reg r22_0) (.seq (.reg r22_1) (.rest [4] (.ret)))
theorem F22 : Fun Tryd.prog 22 17 c22 [.tmp 4] 2 := ⟨⟨Tryd.f22, _, Tryd.func22, rfl, by kernel_rfl, Tryd.ntmps22, by kernel_rfl, by kernel_rfl⟩, by decide⟩

/-- linnet/editor.Play -/
abbrev r23_0 : List CO := [
  ⟨some 4, .box (.t 0), none⟩,
  ⟨some 6, .box (.t 2), none⟩,
  ⟨some 8, .alloc ([.s (.slice none 0 0), .s (.int .i64 0), .s (.bool false), .s (.bool false)]), none⟩,
  ⟨some 9, .mv (.c (.p (.s (.slice none 0 0)))), none⟩,
  ⟨some 10, .mv (.c (.p (.s (.int .i64 0)))), none⟩]
abbrev r23_1 : List CO := [
  ⟨some 11, .mv (.c (.p (.s (.slice none 0 0)))), none⟩]
abbrev r23_2 : List CO := [
  ⟨some 12, .mv (.c (.p (.s (.int .i64 0)))), none⟩]
abbrev r23_3 : List CO := [
  ⟨some 18, .mv (.t 3), none⟩,
  ⟨some 19, .len (.t 18), none⟩,
  ⟨some 20, .mv (.c (.p (.s (.int .i64 0)))), none⟩]
abbrev r23_4 : List CO := [
  ⟨some 21, .bin .lss (.t 20) (.t 19), none⟩]
abbrev r23_5 : List CO := [
  ⟨some 22, .iaddrS 1 (.t 18) (.t 20), none⟩,
  ⟨some 23, .load false 1 (.t 22), none⟩,
  ⟨some 14, .mv (.t 23), none⟩]
abbrev r23_6 : List CO := [
  ⟨some 25, .load true 62 (.t 4), none⟩,
  ⟨some 26, .mv (.t 1), none⟩,
  ⟨some 27, .load true 4 (.t 6), none⟩,
  ⟨some 28, .mv (.t 14), none⟩,
  ⟨some 29, .call (.c (.fn (.func 10) [] [])) [.t 25, .t 26, .t 27, .t 28], none⟩,
  ⟨some 24, .mv (.t 29), none⟩,
  ⟨some 30, .extract 0 (.t 24), none⟩,
  ⟨some 31, .extract 1 (.t 24), none⟩,
  ⟨some 32, .extract 2 (.t 24), none⟩,
  ⟨some 15, .alloc ([.s (.slice none 0 0), .s (.int .i64 0), .s (.bool false), .s (.bool false)]), none⟩,
  ⟨none, .store 4 (.t 15) (.t 30), none⟩,
  ⟨some 16, .mv (.t 31), none⟩,
  ⟨some 17, .mv (.t 32), none⟩]
abbrev r23_7 : List CO := [
  ⟨some 33, .load true 4 (.t 15), none⟩,
  ⟨some 34, .mv (.t 11), none⟩,
  ⟨some 35, .mv (.t 16), none⟩,
  ⟨some 36, .append 3 40 ([.s (.int .i64 0), .s (.int .i64 0), .s (.slice none 0 0)]) (.t 34) (.t 35), none⟩,
  ⟨none, .store 4 (.t 6) (.t 33), none⟩,
  ⟨some 11, .mv (.t 36), none⟩]
abbrev b23_7 : List (List Nat) := [[], [], [], [1, 2], [0, 3, 0], [3, 4, 0, 1, 2, 3, 4]]
abbrev r23_8 : List CO := [
  ⟨some 37, .mv (.t 17), none⟩]
abbrev r23_9 : List CO := [
  ⟨some 38, .mv (.t 12), none⟩,
  ⟨some 39, .bin .add (.t 38) (.c (.p (.s (.int .i64 1)))), none⟩,
  ⟨some 12, .mv (.t 39), none⟩]
abbrev k23_1 : CC := .seq (.reg r23_5) (.seq (.reg r23_6) (.rest [1, 4, 6, 8, 11, 12, 15, 16, 17, 18, 19, 20] (.seq (.regd r23_7 b23_7) (.rest [1, 4, 6, 8, 11, 12, 17, 18, 19, 20] (.seq (.reg r23_8) (.cond (.t 37) (.reg r23_9) (.skip)))))))
abbrev r23_10 : List CO := [
  ⟨some 40, .bin .add (.t 20) (.c (.p (.s (.int .i64 1)))), none⟩,
  ⟨some 20, .mv (.t 40), none⟩]
abbrev l23_13 : CC := .seq (.reg r23_4) (.seq (.cond (.t 21) (.skip) (.exit 0)) (.seq (.block 1 k23_1) (.rest [1, 4, 6, 8, 11, 12, 18, 19, 20] (.reg r23_10))))
abbrev k23_0 : CC := .loop l23_13
abbrev r23_11 : List CO := [
  ⟨some 41, .load true 4 (.t 6), none⟩,
  ⟨some 42, .mv (.t 11), none⟩,
  ⟨some 43, .mv (.t 12), none⟩,
  ⟨none, .store 4 (.t 8) (.t 41), none⟩,
  ⟨some 9, .mv (.t 42), none⟩,
  ⟨some 10, .mv (.t 43), none⟩]
abbrev c23 : CC := .seq (.reg r23_0) (.rest [1, 3, 4, 6, 8] (.seq (.reg r23_1) (.seq (.reg r23_2) (.seq (.seq (.reg r23_3) (.block 0 k23_0)) (.rest [6, 8, 11, 12] (.seq (.reg r23_11) (.rest [8, 9, 10] (.ret))))))))
theorem F23 : Fun Tryd.prog 23 44 c23 [.cell 8 true 4, .tmp 9, .tmp 10] 4 := ⟨⟨Tryd.f23, _, Tryd.func23, rfl, by kernel_rfl, Tryd.ntmps23, by kernel_rfl, by kernel_rfl⟩, by decide⟩

/-- linnet/editor.Alike -/
abbrev r24_0 : List CO := [
  ⟨some 4, .mv (.c (.p (.s (.bool false)))), none⟩]
abbrev r24_1 : List CO := [
  ⟨some 5, .mv (.t 0), none⟩,
  ⟨some 6, .mv (.t 1), none⟩,
  ⟨some 7, .call (.c (.fn (.func 42) [] [])) [.t 5, .t 6, .c (.fn (.func 43) [] [])], none⟩,
  ⟨some 4, .mv (.t 7), none⟩]
abbrev c24 : CC := .seq (.reg r24_0) (.seq (.reg r24_1) (.rest [4] (.ret)))
theorem F24 : Fun Tryd.prog 24 8 c24 [.tmp 4] 2 := ⟨⟨Tryd.f24, _, Tryd.func24, rfl, by kernel_rfl, Tryd.ntmps24, by kernel_rfl, by kernel_rfl⟩, by decide⟩

/-- linnet/editor.Signal -/
abbrev r25_0 : List CO := [
  ⟨some 2, .box (.t 0), none⟩,
  ⟨some 4, .alloc ([.s (.slice none 0 0), .s (.int .i64 0), .s (.bool false), .s (.bool false)]), none⟩,
  ⟨some 5, .mv (.c (.p (.s (.slice none 0 0)))), none⟩,
  ⟨some 6, .mv (.c (.p (.s (.int .i64 0)))), none⟩]
abbrev r25_1 : List CO := [
  ⟨some 8, .load true 4 (.t 2), none⟩,
  ⟨some 9, .call (.c (.fn (.func 27) [] [])) [.t 8], none⟩,
  ⟨some 10, .bin .neq (.t 9) (.c (.p (.s (.int .i64 0)))), none⟩,
  ⟨some 11, .mv (.t 10), none⟩,
  ⟨some 12, .mv (.t 1), some (11, false)⟩,
  ⟨some 13, .bin .lss (.t 12) (.c (.p (.s (.int .i64 1)))), some (11, false)⟩,
  ⟨some 14, .pick (.t 11) (.c (.p (.s (.bool true)))) (.t 13), none⟩,
  ⟨some 15, .mv (.t 14), none⟩,
  ⟨some 16, .mv (.t 1), some (15, false)⟩,
  ⟨some 17, .bin .gtr (.t 16) (.c (.p (.s (.int .i64 9)))), some (15, false)⟩,
  ⟨some 18, .pick (.t 15) (.c (.p (.s (.bool true)))) (.t 17), none⟩]
abbrev r25_2 : List CO := [
  ⟨some 19, .load true 4 (.t 2), none⟩,
  ⟨none, .store 4 (.t 4) (.t 19), none⟩,
  ⟨some 5, .mv (.c (.p (.s (.slice none 0 0)))), none⟩,
  ⟨some 6, .mv (.c (.p (.s (.int .i64 1)))), none⟩]
abbrev r25_3 : List CO := [
  ⟨some 20, .load true 4 (.t 2), none⟩,
  ⟨some 21, .build ([.s (.slice none 0 0), .s (.int .i64 0), .s (.bool false), .s (.bool false), .s (.int .i64 0), .s (.slice none 0 0), .s (.bool false)]) [(0, 4, .t 20)], none⟩,
  ⟨some 22, .box (.t 21), none⟩,
  ⟨some 7, .mv (.t 22), none⟩]
abbrev r25_4 : List CO := [
  ⟨some 23, .mv (.t 7), none⟩,
  ⟨some 24, .mv (.t 1), none⟩,
  ⟨some 25, .call (.c (.fn (.func 45) [] [])) [.t 23, .t 24], none⟩]
abbrev r25_5 : List CO := [
  ⟨some 26, .mv (.t 7), none⟩,
  ⟨some 27, .nilchk (.t 26), none⟩,
  ⟨some 28, .faddr 0 (.t 27), none⟩,
  ⟨some 29, .load true 4 (.t 28), none⟩,
  ⟨some 30, .mv (.t 7), none⟩,
  ⟨some 31, .nilchk (.t 30), none⟩,
  ⟨some 32, .faddr 5 (.t 31), none⟩,
  ⟨some 33, .load false 1 (.t 32), none⟩,
  ⟨none, .store 4 (.t 4) (.t 29), none⟩,
  ⟨some 5, .mv (.t 33), none⟩,
  ⟨some 6, .mv (.c (.p (.s (.int .i64 0)))), none⟩]
abbrev b25_5 : List (List Nat) := [[], [0], [1], [2], [], [4], [5], [6], [3, 0, 1, 2, 3], [7, 8, 0, 1, 2, 3, 4, 5, 6, 7, 8], [9, 0, 1, 2, 3, 4, 5, 6, 7, 8, 9]]
abbrev c25 : CC := .seq (.reg r25_0) (.rest [1, 2, 4] (.seq (.seq (.reg r25_1) (.rest [1, 2, 4, 18] (.cond (.t 18) (.seq (.reg r25_2) (.rest [4, 5, 6] (.ret))) (.skip)))) (.rest [1, 2, 4] (.seq (.reg r25_3) (.rest [1, 4, 7] (.seq (.reg r25_4) (.seq (.regd r25_5 b25_5) (.rest [4, 5, 6] (.ret)))))))))
theorem F25 : Fun Tryd.prog 25 34 c25 [.cell 4 true 4, .tmp 5, .tmp 6] 2 := ⟨⟨Tryd.f25, _, Tryd.func25, rfl, by kernel_rfl, Tryd.ntmps25, by kernel_rfl, by kernel_rfl⟩, by decide⟩

/-- linnet/linnetlaw01.Few -/
abbrev r26_0 : List CO := [
  ⟨some 2, .mv (.c (.p (.s (.slice none 0 0)))), none⟩]
abbrev r26_1 : List CO := [
  ⟨some 3, .mv (.t 0), none⟩,
  ⟨some 4, .len (.t 3), none⟩,
  ⟨some 5, .bin .gtr (.t 4) (.c (.p (.s (.int .i64 200)))), none⟩]
abbrev r26_2 : List CO := [
  ⟨some 6, .mv (.t 0), none⟩,
  ⟨some 7, .slice 1 (.t 6) none (some (.c (.p (.s (.int .i64 200))))), none⟩,
  ⟨some 2, .mv (.t 7), none⟩]
abbrev r26_3 : List CO := [
  ⟨some 8, .mv (.t 0), none⟩,
  ⟨some 2, .mv (.t 8), none⟩]
abbrev c26 : CC := .seq (.reg r26_0) (.seq (.seq (.reg r26_1) (.cond (.t 5) (.seq (.reg r26_2) (.ret)) (.skip))) (.rest [0] (.seq (.reg r26_3) (.ret))))
theorem F26 : Fun Tryd.prog 26 9 c26 [.tmp 2] 1 := ⟨⟨Tryd.f26, _, Tryd.func26, rfl, by kernel_rfl, Tryd.ntmps26, by kernel_rfl, by kernel_rfl⟩, by decide⟩

/-- linnet/editor.Check -/
abbrev r27_0 : List CO := [
  ⟨some 1, .box (.t 0), none⟩,
  ⟨some 2, .mv (.c (.p (.s (.int .i64 0)))), none⟩]
abbrev r27_1 : List CO := [
  ⟨some 3, .faddr 0 (.t 1), none⟩,
  ⟨some 4, .load true 2 (.t 3), none⟩,
  ⟨some 5, .call (.c (.fn (.func 46) [] [])) [.t 4], none⟩,
  ⟨some 2, .mv (.t 5), none⟩]
abbrev c27 : CC := .seq (.reg r27_0) (.seq (.reg r27_1) (.rest [2] (.ret)))
theorem F27 : Fun Tryd.prog 27 6 c27 [.tmp 2] 1 := ⟨⟨Tryd.f27, _, Tryd.func27, rfl, by kernel_rfl, Tryd.ntmps27, by kernel_rfl, by kernel_rfl⟩, by decide⟩

/-- (*linnet/editor.work).typed -/
abbrev r28_0 : List CO := [
  ⟨some 7, .mv (.t 0), none⟩,
  ⟨some 8, .nilchk (.t 7), none⟩,
  ⟨some 9, .faddr 0 (.t 8), none⟩,
  ⟨some 10, .faddr 0 (.t 9), none⟩,
  ⟨some 11, .load true 2 (.t 10), none⟩,
  ⟨some 12, .mv (.t 0), none⟩,
  ⟨some 13, .nilchk (.t 12), none⟩,
  ⟨some 14, .faddr 4 (.t 13), none⟩,
  ⟨some 15, .load false 1 (.t 14), none⟩,
  ⟨some 16, .mv (.t 0), none⟩,
  ⟨some 17, .nilchk (.t 16), none⟩,
  ⟨some 18, .faddr 0 (.t 17), none⟩,
  ⟨some 19, .faddr 2 (.t 18), none⟩,
  ⟨some 20, .load false 1 (.t 19), none⟩,
  ⟨some 21, .mv (.t 1), none⟩,
  ⟨some 22, .call (.c (.fn (.func 47) [] [])) [.t 11, .t 15, .t 20, .t 21], none⟩,
  ⟨some 6, .mv (.t 22), none⟩,
  ⟨some 23, .extract 0 (.t 6), none⟩,
  ⟨some 24, .extract 1 (.t 6), none⟩,
  ⟨some 4, .alloc ([.s (.slice none 0 0), .s (.int .i64 0)]), none⟩,
  ⟨none, .store 2 (.t 4) (.t 23), none⟩,
  ⟨some 5, .mv (.t 24), none⟩]
abbrev b28_0 : List (List Nat) := [[], [0], [1], [2], [3], [], [5], [6], [7], [], [9], [10], [11], [12], [], [4, 8, 13, 14], [15], [16], [16], [], [19, 17, 15, 0, 1, 2, 3, 4, 5, 6, 7, 8, 9, 10, 11, 12, 13, 14, 15, 16, 17, 19], [18, 20, 0, 1, 2, 3, 4, 5, 6, 7, 8, 9, 10, 11, 12, 13, 14, 15, 16, 17, 18, 19, 20]]
abbrev r28_1 : List CO := [
  ⟨some 25, .mv (.t 0), none⟩,
  ⟨some 26, .mv (.t 0), none⟩,
  ⟨some 27, .load true 2 (.t 4), none⟩,
  ⟨some 28, .mv (.t 5), none⟩,
  ⟨some 29, .un .not (.t 28), none⟩,
  ⟨some 30, .nilchk (.t 25), none⟩,
  ⟨some 31, .faddr 0 (.t 30), none⟩,
  ⟨some 32, .faddr 0 (.t 31), none⟩,
  ⟨none, .store 2 (.t 32) (.t 27), none⟩,
  ⟨some 33, .nilchk (.t 26), none⟩,
  ⟨some 34, .faddr 6 (.t 33), none⟩,
  ⟨none, .store 1 (.t 34) (.t 29), none⟩]
abbrev c28 : CC := .seq (.regd r28_0 b28_0) (.rest [0, 4, 5] (.reg r28_1))
theorem F28 : Fun Tryd.prog 28 35 c28 [] 2 := ⟨⟨Tryd.f28, _, Tryd.func28, rfl, by kernel_rfl, Tryd.ntmps28, by kernel_rfl, by kernel_rfl⟩, by decide⟩

/-- (*linnet/editor.work).means -/
abbrev r29_1 : List CO := [
  ⟨some 21, .mv (.t 1), none⟩,
  ⟨some 22, .bin .eql (.t 21) (.c (.p (.s (.int .i64 0)))), none⟩,
  ⟨some 23, .mv (.t 22), none⟩,
  ⟨some 24, .mv (.t 1), some (23, false)⟩,
  ⟨some 25, .bin .eql (.t 24) (.c (.p (.s (.int .i64 17)))), some (23, false)⟩,
  ⟨some 26, .pick (.t 23) (.c (.p (.s (.bool true)))) (.t 25), none⟩,
  ⟨some 27, .mv (.t 26), none⟩,
  ⟨some 28, .mv (.t 1), some (27, false)⟩,
  ⟨some 29, .bin .eql (.t 28) (.c (.p (.s (.int .i64 18)))), some (27, false)⟩,
  ⟨some 30, .pick (.t 27) (.c (.p (.s (.bool true)))) (.t 29), none⟩,
  ⟨some 20, .mv (.t 30), none⟩]
abbrev r29_2 : List CO := [
  ⟨some 31, .mv (.t 0), none⟩,
  ⟨some 32, .mv (.t 2), none⟩,
  ⟨some 33, .call (.c (.fn (.func 28) [] [])) [.t 31, .t 32], none⟩]
abbrev r29_3 : List CO := [
  ⟨some 35, .mv (.t 1), none⟩,
  ⟨some 36, .bin .eql (.t 35) (.c (.p (.s (.int .i64 31)))), none⟩,
  ⟨some 34, .mv (.t 36), none⟩]
abbrev r29_4 : List CO := [
  ⟨some 37, .mv (.t 0), none⟩,
  ⟨some 38, .mv (.t 0), none⟩,
  ⟨some 39, .nilchk (.t 38), none⟩,
  ⟨some 40, .faddr 0 (.t 39), none⟩,
  ⟨some 41, .faddr 0 (.t 40), none⟩,
  ⟨some 42, .faddr 0 (.t 41), none⟩,
  ⟨some 43, .load false 1 (.t 42), none⟩,
  ⟨some 44, .build ([.s (.int .i64 0), .s (.int .i64 0), .s (.slice none 0 0)]) [(0, 1, .c (.p (.s (.int .i64 1)))), (2, 1, .t 43)], none⟩,
  ⟨some 45, .call (.c (.fn (.func 48) [] [])) [.t 37, .t 44], none⟩]
abbrev r29_5 : List CO := [
  ⟨some 47, .mv (.t 1), none⟩,
  ⟨some 48, .bin .leq (.t 47) (.c (.p (.s (.int .i64 9)))), none⟩,
  ⟨some 46, .mv (.t 48), none⟩]
abbrev r29_6 : List CO := [
  ⟨some 49, .mv (.t 0), none⟩,
  ⟨some 50, .mv (.t 1), none⟩,
  ⟨some 51, .call (.c (.fn (.func 45) [] [])) [.t 49, .t 50], none⟩]
abbrev r29_7 : List CO := [
  ⟨some 53, .mv (.t 1), none⟩,
  ⟨some 54, .bin .eql (.t 53) (.c (.p (.s (.int .i64 14)))), none⟩,
  ⟨some 52, .mv (.t 54), none⟩]
abbrev r29_8 : List CO := [
  ⟨some 55, .mv (.t 0), none⟩,
  ⟨some 56, .nilchk (.t 55), none⟩,
  ⟨some 57, .faddr 0 (.t 56), none⟩,
  ⟨some 58, .faddr 3 (.t 57), none⟩,
  ⟨none, .store 1 (.t 58) (.c (.p (.s (.bool true)))), none⟩]
abbrev r29_9 : List CO := [
  ⟨some 60, .mv (.t 1), none⟩,
  ⟨some 61, .bin .eql (.t 60) (.c (.p (.s (.int .i64 25)))), none⟩,
  ⟨some 62, .mv (.t 61), none⟩,
  ⟨some 63, .mv (.t 1), some (62, false)⟩,
  ⟨some 64, .bin .eql (.t 63) (.c (.p (.s (.int .i64 26)))), some (62, false)⟩,
  ⟨some 65, .pick (.t 62) (.c (.p (.s (.bool true)))) (.t 64), none⟩,
  ⟨some 59, .mv (.t 65), none⟩]
abbrev r29_10 : List CO := [
  ⟨some 66, .mv (.t 0), none⟩,
  ⟨some 67, .mv (.t 1), none⟩,
  ⟨some 68, .bin .eql (.t 67) (.c (.p (.s (.int .i64 26)))), none⟩,
  ⟨some 69, .nilchk (.t 66), none⟩,
  ⟨some 70, .faddr 0 (.t 69), none⟩,
  ⟨some 71, .faddr 2 (.t 70), none⟩,
  ⟨none, .store 1 (.t 71) (.t 68), none⟩]
abbrev r29_0 : List CO := [
  ⟨some 7, .mv (.t 0), none⟩,
  ⟨some 8, .mv (.t 0), none⟩,
  ⟨some 9, .nilchk (.t 8), none⟩,
  ⟨some 10, .faddr 0 (.t 9), none⟩,
  ⟨some 11, .faddr 0 (.t 10), none⟩,
  ⟨some 12, .load true 2 (.t 11), none⟩,
  ⟨some 13, .mv (.t 1), none⟩,
  ⟨some 14, .call (.c (.fn (.func 49) [] [])) [.t 12, .t 13], none⟩,
  ⟨some 6, .mv (.t 14), none⟩,
  ⟨some 15, .extract 0 (.t 6), none⟩,
  ⟨some 16, .extract 1 (.t 6), none⟩,
  ⟨some 17, .nilchk (.t 7), none⟩,
  ⟨some 18, .faddr 0 (.t 17), none⟩,
  ⟨some 19, .faddr 0 (.t 18), none⟩,
  ⟨none, .store 2 (.t 19) (.t 15), none⟩]
abbrev k29_0 : CC := .seq (.reg r29_1) (.rest [0, 1, 2, 20] (.cond (.t 20) (.reg r29_2) (.seq (.reg r29_3) (.cond (.t 34) (.reg r29_4) (.seq (.reg r29_5) (.cond (.t 46) (.reg r29_6) (.seq (.reg r29_7) (.cond (.t 52) (.reg r29_8) (.seq (.reg r29_9) (.rest [0, 1, 59] (.cond (.t 59) (.reg r29_10) (.reg r29_0))))))))))))
abbrev c29 : CC := .block 0 k29_0
theorem F29 : Fun Tryd.prog 29 72 c29 [] 3 := ⟨⟨Tryd.f29, _, Tryd.func29, rfl, by kernel_rfl, Tryd.ntmps29, by kernel_rfl, by kernel_rfl⟩, by decide⟩

/-- linnet/table.Meaning -/
abbrev r30_0 : List CO := [
  ⟨some 2, .box (.t 0), none⟩,
  ⟨some 4, .mv (.c (.p (.s (.int .i64 0)))), none⟩]
abbrev r30_1 : List CO := [
  ⟨some 6, .mv (.t 1), none⟩,
  ⟨some 7, .bin .eql (.t 6) (.c (.p (.s (.int .u8 13)))), none⟩]
abbrev r30_2 : List CO := [
  ⟨some 4, .mv (.c (.p (.s (.int .i64 31)))), none⟩]
abbrev r30_3 : List CO := [
  ⟨some 5, .mv (.c (.p (.s (.int .i64 1)))), none⟩]
abbrev r30_4 : List CO := [
  ⟨some 8, .mv (.t 5), none⟩,
  ⟨some 9, .bin .lss (.t 8) (.c (.p (.s (.int .i64 31)))), none⟩]
abbrev r30_6 : List CO := [
  ⟨some 12, .mv (.t 5), none⟩,
  ⟨some 13, .iaddrA 2 31 (.t 2) (.t 12), none⟩,
  ⟨some 14, .faddr 0 (.t 13), none⟩,
  ⟨some 15, .load false 1 (.t 14), none⟩,
  ⟨some 16, .bin .neq (.t 15) (.c (.p (.s (.int .i64 0)))), none⟩,
  ⟨some 17, .mv (.t 16), none⟩,
  ⟨some 18, .mv (.t 5), some (17, true)⟩,
  ⟨some 19, .iaddrA 2 31 (.t 2) (.t 18), some (17, true)⟩,
  ⟨some 20, .faddr 1 (.t 19), some (17, true)⟩,
  ⟨some 21, .load false 1 (.t 20), some (17, true)⟩,
  ⟨some 22, .mv (.t 1), some (17, true)⟩,
  ⟨some 23, .bin .eql (.t 21) (.t 22), some (17, true)⟩,
  ⟨some 24, .pick (.t 17) (.t 23) (.c (.p (.s (.bool false)))), none⟩]
abbrev r30_7 : List CO := [
  ⟨some 25, .mv (.t 5), none⟩,
  ⟨some 4, .mv (.t 25), none⟩]
abbrev k30_1 : CC := .seq (.reg r30_6) (.rest [1, 2, 5, 24] (.cond (.t 24) (.seq (.reg r30_7) (.ret)) (.skip)))
abbrev r30_5 : List CO := [
  ⟨some 10, .mv (.t 5), none⟩,
  ⟨some 11, .bin .add (.t 10) (.c (.p (.s (.int .i64 1)))), none⟩,
  ⟨some 5, .mv (.t 11), none⟩]
abbrev l30_9 : CC := .seq (.seq (.reg r30_4) (.cond (.t 9) (.skip) (.exit 0))) (.seq (.block 1 k30_1) (.rest [1, 2, 5] (.reg r30_5)))
abbrev k30_0 : CC := .loop l30_9
abbrev r30_8 : List CO := [
  ⟨some 4, .mv (.c (.p (.s (.int .i64 0)))), none⟩]
abbrev c30 : CC := .seq (.reg r30_0) (.seq (.seq (.reg r30_1) (.cond (.t 7) (.seq (.reg r30_2) (.ret)) (.skip))) (.seq (.seq (.reg r30_3) (.block 0 k30_0)) (.rest [] (.seq (.reg r30_8) (.ret)))))
theorem F30 : Fun Tryd.prog 30 26 c30 [.tmp 4] 2 := ⟨⟨Tryd.f30, _, Tryd.func30, rfl, by kernel_rfl, Tryd.ntmps30, by kernel_rfl, by kernel_rfl⟩, by decide⟩

/-- (*linnet/talk.flow).pass -/
abbrev r31_0 : List CO := [
  ⟨some 3, .box (.t 1), none⟩]
abbrev r31_1 : List CO := [
  ⟨some 4, .mv (.t 0), none⟩,
  ⟨some 5, .mv (.t 0), none⟩,
  ⟨some 6, .nilchk (.t 5), none⟩,
  ⟨some 7, .faddr 63 (.t 6), none⟩,
  ⟨some 8, .load false 1 (.t 7), none⟩,
  ⟨some 9, .mv (.t 0), none⟩,
  ⟨some 10, .nilchk (.t 9), none⟩,
  ⟨some 11, .faddr 0 (.t 10), none⟩,
  ⟨some 12, .load true 62 (.t 11), none⟩,
  ⟨some 13, .load true 4 (.t 3), none⟩,
  ⟨some 14, .call (.c (.fn (.func 50) [] [])) [.t 12, .t 13], none⟩,
  ⟨some 15, .append 1 1 ([.s (.int .u8 0)]) (.t 8) (.t 14), none⟩,
  ⟨some 16, .nilchk (.t 4), none⟩,
  ⟨some 17, .faddr 63 (.t 16), none⟩,
  ⟨none, .store 1 (.t 17) (.t 15), none⟩]
abbrev b31_1 : List (List Nat) := [[], [], [1], [2], [3], [], [5], [6], [7], [], [8, 9], [4, 10, 10], [0, 0, 1, 2, 3, 4, 5, 6, 7, 8, 9, 10, 11], [12, 0, 1, 2, 3, 4, 5, 6, 7, 8, 9, 10, 11], [13, 11, 11, 0, 1, 2, 3, 4, 5, 6, 7, 8, 9, 10, 11]]
abbrev r31_2 : List CO := [
  ⟨some 18, .mv (.t 0), none⟩,
  ⟨some 19, .nilchk (.t 18), none⟩,
  ⟨some 20, .faddr 62 (.t 19), none⟩,
  ⟨some 21, .load false 1 (.t 20), none⟩,
  ⟨some 22, .nilchk (.t 21), none⟩,
  ⟨some 23, .faddr 4 (.t 22), none⟩,
  ⟨none, .store 1 (.t 23) (.c (.p (.s (.bool false)))), none⟩]
abbrev c31 : CC := .seq (.reg r31_0) (.seq (.regd r31_1 b31_1) (.rest [0] (.reg r31_2)))
theorem F31 : Fun Tryd.prog 31 24 c31 [] 2 := ⟨⟨Tryd.f31, _, Tryd.func31, rfl, by kernel_rfl, Tryd.ntmps31, by kernel_rfl, by kernel_rfl⟩, by decide⟩

/-- linnet/talk.zero -/
abbrev r32_0 : List CO := [
  ⟨some 1, .box (.t 0), none⟩,
  ⟨some 2, .mv (.c (.p (.s (.bool false)))), none⟩]
abbrev r32_1 : List CO := [
  ⟨some 3, .load true 4 (.t 1), none⟩,
  ⟨some 4, .build ([.s (.slice none 0 0), .s (.int .i64 0), .s (.bool false), .s (.bool false)]) [], none⟩,
  ⟨some 5, .call (.c (.fn (.func 12) [] [])) [.t 3, .t 4], none⟩,
  ⟨some 2, .mv (.t 5), none⟩]
abbrev c32 : CC := .seq (.reg r32_0) (.seq (.reg r32_1) (.rest [2] (.ret)))
theorem F32 : Fun Tryd.prog 32 6 c32 [.tmp 2] 1 := ⟨⟨Tryd.f32, _, Tryd.func32, rfl, by kernel_rfl, Tryd.ntmps32, by kernel_rfl, by kernel_rfl⟩, by decide⟩

/-- linnet/talk.signal -/
abbrev r33_0 : List CO := [
  ⟨some 3, .box (.t 0), none⟩,
  ⟨some 4, .box (.t 1), none⟩,
  ⟨some 6, .mv (.c (.p (.s (.int .i64 0)))), none⟩]
abbrev r33_1 : List CO := [
  ⟨some 8, .load true 62 (.t 3), none⟩,
  ⟨some 9, .mv (.t 2), none⟩,
  ⟨some 10, .call (.c (.fn (.func 30) [] [])) [.t 8, .t 9], none⟩,
  ⟨some 7, .mv (.t 10), none⟩]
abbrev r33_2 : List CO := [
  ⟨some 11, .faddr 3 (.t 4), none⟩,
  ⟨some 12, .load false 1 (.t 11), none⟩,
  ⟨some 13, .un .not (.t 12), none⟩,
  ⟨some 14, .mv (.t 13), none⟩,
  ⟨some 15, .mv (.t 7), some (14, true)⟩,
  ⟨some 16, .bin .leq (.t 15) (.c (.p (.s (.int .i64 9)))), some (14, true)⟩,
  ⟨some 17, .pick (.t 14) (.t 16) (.c (.p (.s (.bool false)))), none⟩]
abbrev r33_3 : List CO := [
  ⟨some 18, .mv (.t 7), none⟩,
  ⟨some 6, .mv (.t 18), none⟩]
abbrev r33_4 : List CO := [
  ⟨some 6, .mv (.c (.p (.s (.int .i64 0)))), none⟩]
abbrev c33 : CC := .seq (.reg r33_0) (.seq (.seq (.reg r33_1) (.rest [4, 7] (.seq (.reg r33_2) (.rest [7, 17] (.cond (.t 17) (.seq (.reg r33_3) (.ret)) (.skip)))))) (.rest [] (.seq (.reg r33_4) (.ret))))
theorem F33 : Fun Tryd.prog 33 19 c33 [.tmp 6] 3 := ⟨⟨Tryd.f33, _, Tryd.func33, rfl, by kernel_rfl, Tryd.ntmps33, by kernel_rfl, by kernel_rfl⟩, by decide⟩

/-- linnet/line.Same -/
abbrev r34_0 : List CO := [
  ⟨some 2, .box (.t 0), none⟩,
  ⟨some 3, .box (.t 1), none⟩,
  ⟨some 4, .mv (.c (.p (.s (.bool false)))), none⟩]
abbrev r34_1 : List CO := [
  ⟨some 5, .faddr 1 (.t 2), none⟩,
  ⟨some 6, .load false 1 (.t 5), none⟩,
  ⟨some 7, .faddr 1 (.t 3), none⟩,
  ⟨some 8, .load false 1 (.t 7), none⟩,
  ⟨some 9, .bin .eql (.t 6) (.t 8), none⟩,
  ⟨some 10, .mv (.t 9), none⟩,
  ⟨some 11, .faddr 0 (.t 2), some (10, true)⟩,
  ⟨some 12, .load false 1 (.t 11), some (10, true)⟩,
  ⟨some 13, .faddr 0 (.t 3), some (10, true)⟩,
  ⟨some 14, .load false 1 (.t 13), some (10, true)⟩,
  ⟨some 15, .call (.c (.fn (.func 44) [] [])) [.t 12, .t 14], some (10, true)⟩,
  ⟨some 16, .pick (.t 10) (.t 15) (.c (.p (.s (.bool false)))), none⟩,
  ⟨some 4, .mv (.t 16), none⟩]
abbrev c34 : CC := .seq (.reg r34_0) (.seq (.reg r34_1) (.rest [4] (.ret)))
theorem F34 : Fun Tryd.prog 34 17 c34 [.tmp 4] 2 := ⟨⟨Tryd.f34, _, Tryd.func34, rfl, by kernel_rfl, Tryd.ntmps34, by kernel_rfl, by kernel_rfl⟩, by decide⟩

/-- linnet/table.Standard -/
abbrev r35_0 : List CO := [
  ⟨some 0, .alloc (tz62), none⟩]
abbrev r35_1 : List CO := [
  ⟨some 1, .alloc (tz62), none⟩]
abbrev r35_2 : List CO := [
  ⟨some 4, .mv (.c (.p (.s (.int .i64 0)))), none⟩]
abbrev r35_3 : List CO := [
  ⟨some 5, .bin .lss (.t 4) (.c (.p (.s (.int .i64 31)))), none⟩]
abbrev r35_4 : List CO := [
  ⟨some 6, .mv (.t 4), none⟩,
  ⟨some 2, .mv (.t 6), none⟩]
abbrev r35_5 : List CO := [
  ⟨some 7, .mv (.t 2), none⟩,
  ⟨some 8, .iaddrA 1 31 (.g 0) (.t 7), none⟩,
  ⟨some 9, .load false 1 (.t 8), none⟩,
  ⟨some 3, .mv (.t 9), none⟩]
abbrev r35_6 : List CO := [
  ⟨some 10, .mv (.t 3), none⟩,
  ⟨some 11, .bin .gtr (.t 10) (.c (.p (.s (.int .u8 0)))), none⟩]
abbrev r35_7 : List CO := [
  ⟨some 12, .mv (.t 2), none⟩,
  ⟨some 13, .mv (.t 3), none⟩,
  ⟨some 14, .build ([.s (.int .i64 0), .s (.int .u8 0)]) [(0, 1, .c (.p (.s (.int .i64 2)))), (1, 1, .t 13)], none⟩,
  ⟨some 15, .iaddrA 2 31 (.t 1) (.t 12), none⟩,
  ⟨none, .store 2 (.t 15) (.t 14), none⟩]
abbrev k35_1 : CC := .seq (.reg r35_4) (.seq (.reg r35_5) (.rest [0, 1, 2, 3, 4] (.seq (.reg r35_6) (.cond (.t 11) (.reg r35_7) (.skip)))))
abbrev r35_8 : List CO := [
  ⟨some 16, .bin .add (.t 4) (.c (.p (.s (.int .i64 1)))), none⟩,
  ⟨some 4, .mv (.t 16), none⟩]
abbrev l35_10 : CC := .seq (.reg r35_3) (.seq (.cond (.t 5) (.skip) (.exit 0)) (.seq (.block 1 k35_1) (.rest [0, 1, 4] (.reg r35_8))))
abbrev k35_0 : CC := .loop l35_10
abbrev r35_9 : List CO := [
  ⟨some 17, .load true 62 (.t 1), none⟩,
  ⟨none, .store 62 (.t 0) (.t 17), none⟩]
abbrev c35 : CC := .seq (.reg r35_0) (.seq (.reg r35_1) (.seq (.seq (.reg r35_2) (.block 0 k35_0)) (.rest [0, 1] (.seq (.reg r35_9) (.ret)))))
theorem F35 : Fun Tryd.prog 35 18 c35 [.cell 0 true 62] 0 := ⟨⟨Tryd.f35, _, Tryd.func35, rfl, by kernel_rfl, Tryd.ntmps35, by kernel_rfl, by kernel_rfl⟩, by decide⟩

/-- linnet/linnetlaw13.One -/
abbrev r36_0 : List CO := [
  ⟨some 1, .box (.t 0), none⟩,
  ⟨some 2, .alloc ([.s (.slice none 0 0), .s (.int .i64 0), .s (.bool false), .s (.bool false)]), none⟩]
abbrev r36_1 : List CO := [
  ⟨some 3, .faddr 0 (.t 1), none⟩,
  ⟨some 4, .load true 2 (.t 3), none⟩,
  ⟨some 5, .call (.c (.fn (.func 51) [] [])) [.t 4], none⟩,
  ⟨some 6, .faddr 0 (.t 1), none⟩,
  ⟨none, .store 2 (.t 6) (.t 5), none⟩]
abbrev r36_2 : List CO := [
  ⟨some 7, .load true 4 (.t 1), none⟩,
  ⟨none, .store 4 (.t 2) (.t 7), none⟩]
abbrev c36 : CC := .seq (.reg r36_0) (.seq (.reg r36_1) (.rest [1, 2] (.seq (.reg r36_2) (.ret))))
theorem F36 : Fun Tryd.prog 36 8 c36 [.cell 2 true 4] 1 := ⟨⟨Tryd.f36, _, Tryd.func36, rfl, by kernel_rfl, Tryd.ntmps36, by kernel_rfl, by kernel_rfl⟩, by decide⟩

/-- linnet/linnetref14.Keys -/
abbrev r37_0 : List CO := [
  ⟨some 2, .box (.t 0), none⟩,
  ⟨some 3, .box (.t 1), none⟩,
  ⟨some 4, .mv (.c (.p (.s (.slice none 0 0)))), none⟩]
abbrev r37_1 : List CO := [
  ⟨some 9, .load true 4 (.t 3), none⟩,
  ⟨some 10, .call (.c (.fn (.func 19) [] [])) [.t 9], none⟩,
  ⟨some 11, .un .not (.t 10), none⟩]
abbrev r37_2 : List CO := [
  ⟨some 4, .mv (.c (.p (.s (.slice none 0 0)))), none⟩]
abbrev r37_3 : List CO := [
  ⟨some 12, .faddr 0 (.t 3), none⟩,
  ⟨some 13, .faddr 0 (.t 12), none⟩,
  ⟨some 14, .load false 1 (.t 13), none⟩,
  ⟨some 15, .faddr 0 (.t 3), none⟩,
  ⟨some 16, .faddr 1 (.t 15), none⟩,
  ⟨some 17, .load false 1 (.t 16), none⟩,
  ⟨some 18, .slice 1 (.t 14) none (some (.t 17)), none⟩,
  ⟨some 19, .faddr 0 (.t 3), none⟩,
  ⟨some 20, .faddr 0 (.t 19), none⟩,
  ⟨some 21, .load false 1 (.t 20), none⟩,
  ⟨some 22, .faddr 0 (.t 3), none⟩,
  ⟨some 23, .faddr 1 (.t 22), none⟩,
  ⟨some 24, .load false 1 (.t 23), none⟩,
  ⟨some 25, .slice 1 (.t 21) (some (.t 24)) none, none⟩,
  ⟨some 5, .mv (.t 18), none⟩,
  ⟨some 6, .mv (.t 25), none⟩]
abbrev b37_3 : List (List Nat) := [[], [0], [1], [], [3], [4], [2, 5], [], [7], [8], [], [10], [11], [9, 12], [6, 0, 1, 2, 3, 4, 5, 6], [13, 14, 0, 1, 2, 3, 4, 5, 6, 7, 8, 9, 10, 11, 12, 13, 14]]
abbrev r37_4 : List CO := [
  ⟨some 26, .load true 62 (.t 2), none⟩,
  ⟨some 27, .mv (.t 6), none⟩,
  ⟨some 28, .call (.c (.fn (.func 52) [] [])) [.t 26, .t 27], none⟩,
  ⟨some 7, .mv (.t 28), none⟩]
abbrev r37_5 : List CO := [
  ⟨some 29, .load true 62 (.t 2), none⟩,
  ⟨some 30, .call (.c (.fn (.func 53) [] [])) [.t 29, .c (.p (.s (.int .i64 23))), .c (.p (.s (.int .i64 1)))], none⟩,
  ⟨some 8, .mv (.t 30), none⟩]
abbrev r37_6 : List CO := [
  ⟨some 31, .mv (.t 8), none⟩,
  ⟨some 32, .len (.t 31), none⟩,
  ⟨some 33, .bin .eql (.t 32) (.c (.p (.s (.int .i64 0)))), none⟩]
abbrev r37_7 : List CO := [
  ⟨some 34, .load true 62 (.t 2), none⟩,
  ⟨some 35, .mv (.t 6), none⟩,
  ⟨some 36, .len (.t 35), none⟩,
  ⟨some 37, .call (.c (.fn (.func 53) [] [])) [.t 34, .c (.p (.s (.int .i64 19))), .t 36], none⟩,
  ⟨some 8, .mv (.t 37), none⟩]
abbrev r37_8 : List CO := [
  ⟨some 38, .mv (.t 8), none⟩,
  ⟨some 39, .len (.t 38), none⟩,
  ⟨some 40, .bin .eql (.t 39) (.c (.p (.s (.int .i64 0)))), none⟩]
abbrev r37_9 : List CO := [
  ⟨some 41, .load true 62 (.t 2), none⟩,
  ⟨some 42, .mv (.t 6), none⟩,
  ⟨some 43, .len (.t 42), none⟩,
  ⟨some 44, .call (.c (.fn (.func 53) [] [])) [.t 41, .c (.p (.s (.int .i64 21))), .t 43], none⟩,
  ⟨some 8, .mv (.t 44), none⟩]
abbrev r37_10 : List CO := [
  ⟨some 45, .mv (.t 6), none⟩,
  ⟨some 46, .len (.t 45), none⟩,
  ⟨some 47, .bin .gtr (.t 46) (.c (.p (.s (.int .i64 0)))), none⟩]
abbrev r37_11 : List CO := [
  ⟨some 48, .mv (.t 7), none⟩,
  ⟨some 49, .mv (.t 8), none⟩,
  ⟨some 50, .append 1 1 ([.s (.int .u8 0)]) (.t 48) (.t 49), none⟩,
  ⟨some 7, .mv (.t 50), none⟩]
abbrev r37_12 : List CO := [
  ⟨some 51, .mv (.t 7), none⟩,
  ⟨some 52, .load true 62 (.t 2), none⟩,
  ⟨some 53, .mv (.t 5), none⟩,
  ⟨some 54, .call (.c (.fn (.func 52) [] [])) [.t 52, .t 53], none⟩,
  ⟨some 55, .append 1 1 ([.s (.int .u8 0)]) (.t 51) (.t 54), none⟩,
  ⟨some 7, .mv (.t 55), none⟩]
abbrev r37_13 : List CO := [
  ⟨some 56, .faddr 2 (.t 3), none⟩,
  ⟨some 57, .load false 1 (.t 56), none⟩]
abbrev r37_14 : List CO := [
  ⟨some 58, .mv (.t 7), none⟩,
  ⟨some 59, .load true 62 (.t 2), none⟩,
  ⟨some 60, .call (.c (.fn (.func 53) [] [])) [.t 59, .c (.p (.s (.int .i64 26))), .c (.p (.s (.int .i64 1)))], none⟩,
  ⟨some 61, .append 1 1 ([.s (.int .u8 0)]) (.t 58) (.t 60), none⟩,
  ⟨some 7, .mv (.t 61), none⟩]
abbrev r37_15 : List CO := [
  ⟨some 62, .faddr 3 (.t 3), none⟩,
  ⟨some 63, .load false 1 (.t 62), none⟩]
abbrev r37_16 : List CO := [
  ⟨some 64, .mv (.t 7), none⟩,
  ⟨some 65, .load true 62 (.t 2), none⟩,
  ⟨some 66, .call (.c (.fn (.func 53) [] [])) [.t 65, .c (.p (.s (.int .i64 14))), .c (.p (.s (.int .i64 1)))], none⟩,
  ⟨some 67, .append 1 1 ([.s (.int .u8 0)]) (.t 64) (.t 66), none⟩,
  ⟨some 7, .mv (.t 67), none⟩]
abbrev r37_17 : List CO := [
  ⟨some 68, .mv (.t 7), none⟩,
  ⟨some 4, .mv (.t 68), none⟩]
abbrev c37 : CC := .seq (.reg r37_0) (.seq (.seq (.reg r37_1) (.cond (.t 11) (.seq (.reg r37_2) (.ret)) (.skip))) (.rest [2, 3] (.seq (.regd r37_3 b37_3) (.rest [2, 3, 5, 6] (.seq (.reg r37_4) (.rest [2, 3, 5, 6, 7] (.seq (.reg r37_5) (.seq (.seq (.reg r37_6) (.cond (.t 33) (.reg r37_7) (.skip))) (.rest [2, 3, 5, 6, 7, 8] (.seq (.seq (.reg r37_8) (.cond (.t 40) (.reg r37_9) (.skip))) (.rest [2, 3, 5, 6, 7, 8] (.seq (.seq (.reg r37_10) (.cond (.t 47) (.reg r37_11) (.skip))) (.rest [2, 3, 5, 7] (.seq (.reg r37_12) (.rest [2, 3, 7] (.seq (.seq (.reg r37_13) (.cond (.t 57) (.reg r37_14) (.skip))) (.rest [2, 3, 7] (.seq (.seq (.reg r37_15) (.cond (.t 63) (.reg r37_16) (.skip))) (.rest [7] (.seq (.reg r37_17) (.ret)))))))))))))))))))))
theorem F37 : Fun Tryd.prog 37 69 c37 [.tmp 4] 2 := ⟨⟨Tryd.f37, _, Tryd.func37, rfl, by kernel_rfl, Tryd.ntmps37, by kernel_rfl, by kernel_rfl⟩, by decide⟩

/-- linnet/linnetref13.Key -/
abbrev r38_0 : List CO := [
  ⟨some 4, .box (.t 0), none⟩,
  ⟨some 6, .box (.t 2), none⟩,
  ⟨some 8, .alloc ([.s (.slice none 0 0), .s (.int .i64 0), .s (.bool false), .s (.bool false)]), none⟩,
  ⟨some 9, .mv (.c (.p (.s (.slice none 0 0)))), none⟩,
  ⟨some 10, .mv (.c (.p (.s (.bool false)))), none⟩]
abbrev r38_1 : List CO := [
  ⟨some 16, .load true 62 (.t 4), none⟩,
  ⟨some 17, .mv (.t 3), none⟩,
  ⟨some 18, .call (.c (.fn (.func 40) [] [])) [.t 16, .t 17], none⟩,
  ⟨some 11, .mv (.t 18), none⟩]
abbrev r38_2 : List CO := [
  ⟨some 19, .faddr 3 (.t 6), none⟩,
  ⟨some 20, .load false 1 (.t 19), none⟩,
  ⟨some 21, .mv (.t 20), none⟩,
  ⟨some 22, .mv (.t 11), some (21, false)⟩,
  ⟨some 23, .bin .eql (.t 22) (.c (.p (.s (.int .i64 0)))), some (21, false)⟩,
  ⟨some 24, .pick (.t 21) (.c (.p (.s (.bool true)))) (.t 23), none⟩,
  ⟨some 25, .mv (.t 24), none⟩,
  ⟨some 26, .mv (.t 11), some (25, false)⟩,
  ⟨some 27, .bin .eql (.t 26) (.c (.p (.s (.int .i64 17)))), some (25, false)⟩,
  ⟨some 28, .pick (.t 25) (.c (.p (.s (.bool true)))) (.t 27), none⟩,
  ⟨some 29, .mv (.t 28), none⟩,
  ⟨some 30, .mv (.t 11), some (29, false)⟩,
  ⟨some 31, .bin .eql (.t 30) (.c (.p (.s (.int .i64 18)))), some (29, false)⟩,
  ⟨some 32, .pick (.t 29) (.c (.p (.s (.bool true)))) (.t 31), none⟩]
abbrev r38_3 : List CO := [
  ⟨some 33, .load true 4 (.t 6), none⟩,
  ⟨some 34, .mv (.t 1), none⟩,
  ⟨some 35, .mv (.t 3), none⟩,
  ⟨some 36, .call (.c (.fn (.func 54) [] [])) [.t 33, .t 34, .t 35], none⟩,
  ⟨some 37, .extract 0 (.t 36), none⟩,
  ⟨some 38, .extract 1 (.t 36), none⟩,
  ⟨some 39, .extract 2 (.t 36), none⟩,
  ⟨none, .store 4 (.t 8) (.t 37), none⟩,
  ⟨some 9, .mv (.t 38), none⟩,
  ⟨some 10, .mv (.t 39), none⟩]
abbrev r38_4 : List CO := [
  ⟨some 40, .mv (.t 11), none⟩,
  ⟨some 41, .bin .eql (.t 40) (.c (.p (.s (.int .i64 31)))), none⟩]
abbrev r38_5 : List CO := [
  ⟨some 42, .build ([.s (.slice none 0 0), .s (.int .i64 0), .s (.bool false), .s (.bool false)]) [], none⟩,
  ⟨some 43, .faddr 0 (.t 6), none⟩,
  ⟨some 44, .faddr 0 (.t 43), none⟩,
  ⟨some 45, .load false 1 (.t 44), none⟩,
  ⟨some 46, .build ([.s (.int .i64 0), .s (.int .i64 0), .s (.slice none 0 0)]) [(0, 1, .c (.p (.s (.int .i64 1)))), (2, 1, .t 45)], none⟩,
  ⟨some 47, .bslice 3 1 ([.s (.int .i64 0), .s (.int .i64 0), .s (.slice none 0 0)]) [(0, .t 46)], none⟩,
  ⟨none, .store 4 (.t 8) (.t 42), none⟩,
  ⟨some 9, .mv (.t 47), none⟩,
  ⟨some 10, .mv (.c (.p (.s (.bool false)))), none⟩]
abbrev b38_5 : List (List Nat) := [[], [], [1], [2], [3], [4], [0, 0], [5, 6, 0, 1, 2, 3, 4, 5, 6], [7, 0, 1, 2, 3, 4, 5, 6, 7]]
abbrev r38_6 : List CO := [
  ⟨some 48, .mv (.t 11), none⟩,
  ⟨some 49, .bin .leq (.t 48) (.c (.p (.s (.int .i64 9)))), none⟩]
abbrev r38_7 : List CO := [
  ⟨some 51, .load true 4 (.t 6), none⟩,
  ⟨some 52, .mv (.t 11), none⟩,
  ⟨some 53, .call (.c (.fn (.func 55) [] [])) [.t 51, .t 52], none⟩,
  ⟨some 50, .mv (.t 53), none⟩,
  ⟨some 54, .extract 0 (.t 50), none⟩,
  ⟨some 55, .extract 1 (.t 50), none⟩,
  ⟨some 12, .alloc ([.s (.slice none 0 0), .s (.int .i64 0), .s (.bool false), .s (.bool false)]), none⟩,
  ⟨none, .store 4 (.t 12) (.t 54), none⟩,
  ⟨some 13, .mv (.t 55), none⟩]
abbrev r38_8 : List CO := [
  ⟨some 56, .load true 4 (.t 12), none⟩,
  ⟨some 57, .mv (.t 13), none⟩,
  ⟨none, .store 4 (.t 8) (.t 56), none⟩,
  ⟨some 9, .mv (.t 57), none⟩,
  ⟨some 10, .mv (.c (.p (.s (.bool false)))), none⟩]
abbrev r38_9 : List CO := [
  ⟨some 58, .mv (.t 11), none⟩,
  ⟨some 59, .bin .eql (.t 58) (.c (.p (.s (.int .i64 14)))), none⟩]
abbrev r38_10 : List CO := [
  ⟨some 60, .faddr 0 (.t 6), none⟩,
  ⟨some 61, .load true 2 (.t 60), none⟩,
  ⟨some 62, .faddr 2 (.t 6), none⟩,
  ⟨some 63, .load false 1 (.t 62), none⟩,
  ⟨some 64, .build ([.s (.slice none 0 0), .s (.int .i64 0), .s (.bool false), .s (.bool false)]) [(0, 2, .t 61), (2, 1, .t 63), (3, 1, .c (.p (.s (.bool true))))], none⟩,
  ⟨none, .store 4 (.t 8) (.t 64), none⟩,
  ⟨some 9, .mv (.c (.p (.s (.slice none 0 0)))), none⟩,
  ⟨some 10, .mv (.c (.p (.s (.bool false)))), none⟩]
abbrev r38_11 : List CO := [
  ⟨some 65, .mv (.t 11), none⟩,
  ⟨some 66, .bin .eql (.t 65) (.c (.p (.s (.int .i64 25)))), none⟩,
  ⟨some 67, .mv (.t 66), none⟩,
  ⟨some 68, .mv (.t 11), some (67, false)⟩,
  ⟨some 69, .bin .eql (.t 68) (.c (.p (.s (.int .i64 26)))), some (67, false)⟩,
  ⟨some 70, .pick (.t 67) (.c (.p (.s (.bool true)))) (.t 69), none⟩]
abbrev r38_12 : List CO := [
  ⟨some 71, .faddr 0 (.t 6), none⟩,
  ⟨some 72, .load true 2 (.t 71), none⟩,
  ⟨some 73, .mv (.t 11), none⟩,
  ⟨some 74, .bin .eql (.t 73) (.c (.p (.s (.int .i64 26)))), none⟩,
  ⟨some 75, .build ([.s (.slice none 0 0), .s (.int .i64 0), .s (.bool false), .s (.bool false)]) [(0, 2, .t 72), (2, 1, .t 74)], none⟩,
  ⟨none, .store 4 (.t 8) (.t 75), none⟩,
  ⟨some 9, .mv (.c (.p (.s (.slice none 0 0)))), none⟩,
  ⟨some 10, .mv (.c (.p (.s (.bool false)))), none⟩]
abbrev r38_13 : List CO := [
  ⟨some 77, .faddr 0 (.t 6), none⟩,
  ⟨some 78, .load true 2 (.t 77), none⟩,
  ⟨some 79, .mv (.t 11), none⟩,
  ⟨some 80, .call (.c (.fn (.func 56) [] [])) [.t 78, .t 79], none⟩,
  ⟨some 76, .mv (.t 80), none⟩,
  ⟨some 81, .extract 0 (.t 76), none⟩,
  ⟨some 82, .extract 1 (.t 76), none⟩,
  ⟨some 14, .alloc ([.s (.slice none 0 0), .s (.int .i64 0)]), none⟩,
  ⟨none, .store 2 (.t 14) (.t 81), none⟩,
  ⟨some 15, .mv (.t 82), none⟩]
abbrev r38_14 : List CO := [
  ⟨some 83, .load true 2 (.t 14), none⟩,
  ⟨some 84, .faddr 2 (.t 6), none⟩,
  ⟨some 85, .load false 1 (.t 84), none⟩,
  ⟨some 86, .build ([.s (.slice none 0 0), .s (.int .i64 0), .s (.bool false), .s (.bool false)]) [(0, 2, .t 83), (2, 1, .t 85)], none⟩,
  ⟨none, .store 4 (.t 8) (.t 86), none⟩,
  ⟨some 9, .mv (.c (.p (.s (.slice none 0 0)))), none⟩,
  ⟨some 10, .mv (.c (.p (.s (.bool false)))), none⟩]
abbrev c38 : CC := .seq (.reg r38_0) (.rest [1, 3, 4, 6, 8] (.seq (.reg r38_1) (.rest [1, 3, 6, 8, 11] (.seq (.seq (.reg r38_2) (.rest [1, 3, 6, 8, 11, 32] (.cond (.t 32) (.seq (.reg r38_3) (.rest [8, 9, 10] (.ret))) (.skip)))) (.rest [6, 8, 11] (.seq (.seq (.reg r38_4) (.cond (.t 41) (.seq (.regd r38_5 b38_5) (.rest [8, 9, 10] (.ret))) (.skip))) (.rest [6, 8, 11] (.seq (.seq (.reg r38_6) (.cond (.t 49) (.seq (.reg r38_7) (.rest [8, 12, 13] (.seq (.reg r38_8) (.rest [8, 9, 10] (.ret))))) (.skip))) (.rest [6, 8, 11] (.seq (.seq (.reg r38_9) (.cond (.t 59) (.seq (.reg r38_10) (.rest [8, 9, 10] (.ret))) (.skip))) (.rest [6, 8, 11] (.seq (.seq (.reg r38_11) (.rest [6, 8, 11, 70] (.cond (.t 70) (.seq (.reg r38_12) (.rest [8, 9, 10] (.ret))) (.skip)))) (.rest [6, 8, 11] (.seq (.reg r38_13) (.rest [6, 8, 14] (.seq (.reg r38_14) (.rest [8, 9, 10] (.ret))))))))))))))))))
theorem F38 : Fun Tryd.prog 38 87 c38 [.cell 8 true 4, .tmp 9, .tmp 10] 4 := ⟨⟨Tryd.f38, _, Tryd.func38, rfl, by kernel_rfl, Tryd.ntmps38, by kernel_rfl, by kernel_rfl⟩, by decide⟩

/-- linnet/linnetref13.Same -/
abbrev r39_0 : List CO := [
  ⟨some 2, .box (.t 0), none⟩,
  ⟨some 3, .box (.t 1), none⟩,
  ⟨some 4, .mv (.c (.p (.s (.bool false)))), none⟩]
abbrev r39_1 : List CO := [
  ⟨some 5, .faddr 0 (.t 2), none⟩,
  ⟨some 6, .load true 2 (.t 5), none⟩,
  ⟨some 7, .faddr 0 (.t 3), none⟩,
  ⟨some 8, .load true 2 (.t 7), none⟩,
  ⟨some 9, .call (.c (.fn (.func 57) [] [])) [.t 6, .t 8], none⟩,
  ⟨some 10, .mv (.t 9), none⟩,
  ⟨some 11, .faddr 2 (.t 2), some (10, true)⟩,
  ⟨some 12, .load false 1 (.t 11), some (10, true)⟩,
  ⟨some 13, .faddr 2 (.t 3), some (10, true)⟩,
  ⟨some 14, .load false 1 (.t 13), some (10, true)⟩,
  ⟨some 15, .beq false (.t 12) (.t 14), some (10, true)⟩,
  ⟨some 16, .pick (.t 10) (.t 15) (.c (.p (.s (.bool false)))), none⟩,
  ⟨some 17, .mv (.t 16), none⟩,
  ⟨some 18, .faddr 3 (.t 2), some (17, true)⟩,
  ⟨some 19, .load false 1 (.t 18), some (17, true)⟩,
  ⟨some 20, .faddr 3 (.t 3), some (17, true)⟩,
  ⟨some 21, .load false 1 (.t 20), some (17, true)⟩,
  ⟨some 22, .beq false (.t 19) (.t 21), some (17, true)⟩,
  ⟨some 23, .pick (.t 17) (.t 22) (.c (.p (.s (.bool false)))), none⟩,
  ⟨some 4, .mv (.t 23), none⟩]
abbrev c39 : CC := .seq (.reg r39_0) (.seq (.reg r39_1) (.rest [4] (.ret)))
theorem F39 : Fun Tryd.prog 39 24 c39 [.tmp 4] 2 := ⟨⟨Tryd.f39, _, Tryd.func39, rfl, by kernel_rfl, Tryd.ntmps39, by kernel_rfl, by kernel_rfl⟩, by decide⟩

/-- linnet/linnetref08.Meaning -/
abbrev r40_0 : List CO := [
  ⟨some 2, .box (.t 0), none⟩,
  ⟨some 4, .mv (.c (.p (.s (.int .i64 0)))), none⟩]
abbrev r40_1 : List CO := [
  ⟨some 8, .mv (.t 1), none⟩,
  ⟨some 9, .bin .eql (.t 8) (.c (.p (.s (.int .u8 13)))), none⟩]
abbrev r40_2 : List CO := [
  ⟨some 4, .mv (.c (.p (.s (.int .i64 31)))), none⟩]
abbrev r40_3 : List CO := [
  ⟨some 5, .mv (.c (.p (.s (.int .i64 30)))), none⟩]
abbrev r40_4 : List CO := [
  ⟨some 10, .mv (.t 5), none⟩,
  ⟨some 11, .bin .geq (.t 10) (.c (.p (.s (.int .i64 1)))), none⟩]
abbrev r40_6 : List CO := [
  ⟨some 6, .mv (.c (.p (.s (.bool false)))), none⟩]
abbrev r40_7 : List CO := [
  ⟨some 7, .mv (.c (.p (.s (.int .i64 1)))), none⟩]
abbrev r40_8 : List CO := [
  ⟨some 14, .mv (.t 7), none⟩,
  ⟨some 15, .mv (.t 5), none⟩,
  ⟨some 16, .bin .lss (.t 14) (.t 15), none⟩]
abbrev r40_10 : List CO := [
  ⟨some 19, .mv (.t 6), none⟩,
  ⟨some 20, .mv (.t 19), none⟩,
  ⟨some 21, .mv (.t 7), some (20, false)⟩,
  ⟨some 22, .iaddrA 2 31 (.t 2) (.t 21), some (20, false)⟩,
  ⟨some 23, .faddr 0 (.t 22), some (20, false)⟩,
  ⟨some 24, .load false 1 (.t 23), some (20, false)⟩,
  ⟨some 25, .bin .neq (.t 24) (.c (.p (.s (.int .i64 0)))), some (20, false)⟩,
  ⟨some 26, .mv (.t 25), some (20, false)⟩,
  ⟨some 27, .mv (.t 7), some (26, true)⟩,
  ⟨some 28, .iaddrA 2 31 (.t 2) (.t 27), some (26, true)⟩,
  ⟨some 29, .faddr 1 (.t 28), some (26, true)⟩,
  ⟨some 30, .load false 1 (.t 29), some (26, true)⟩,
  ⟨some 31, .mv (.t 1), some (26, true)⟩,
  ⟨some 32, .bin .eql (.t 30) (.t 31), some (26, true)⟩,
  ⟨some 33, .pick (.t 26) (.t 32) (.c (.p (.s (.bool false)))), some (20, false)⟩,
  ⟨some 34, .pick (.t 20) (.c (.p (.s (.bool true)))) (.t 33), none⟩,
  ⟨some 6, .mv (.t 34), none⟩]
abbrev k40_3 : CC := .reg r40_10
abbrev r40_9 : List CO := [
  ⟨some 17, .mv (.t 7), none⟩,
  ⟨some 18, .bin .add (.t 17) (.c (.p (.s (.int .i64 1)))), none⟩,
  ⟨some 7, .mv (.t 18), none⟩]
abbrev l40_11 : CC := .seq (.seq (.reg r40_8) (.cond (.t 16) (.skip) (.exit 2))) (.seq (.block 3 k40_3) (.rest [1, 2, 5, 6, 7] (.reg r40_9)))
abbrev k40_2 : CC := .loop l40_11
abbrev r40_11 : List CO := [
  ⟨some 35, .mv (.t 5), none⟩,
  ⟨some 36, .iaddrA 2 31 (.t 2) (.t 35), none⟩,
  ⟨some 37, .faddr 0 (.t 36), none⟩,
  ⟨some 38, .load false 1 (.t 37), none⟩,
  ⟨some 39, .bin .neq (.t 38) (.c (.p (.s (.int .i64 0)))), none⟩,
  ⟨some 40, .mv (.t 39), none⟩,
  ⟨some 41, .mv (.t 5), some (40, true)⟩,
  ⟨some 42, .iaddrA 2 31 (.t 2) (.t 41), some (40, true)⟩,
  ⟨some 43, .faddr 1 (.t 42), some (40, true)⟩,
  ⟨some 44, .load false 1 (.t 43), some (40, true)⟩,
  ⟨some 45, .mv (.t 1), some (40, true)⟩,
  ⟨some 46, .bin .eql (.t 44) (.t 45), some (40, true)⟩,
  ⟨some 47, .pick (.t 40) (.t 46) (.c (.p (.s (.bool false)))), none⟩,
  ⟨some 48, .mv (.t 47), none⟩,
  ⟨some 49, .mv (.t 6), some (48, true)⟩,
  ⟨some 50, .un .not (.t 49), some (48, true)⟩,
  ⟨some 51, .pick (.t 48) (.t 50) (.c (.p (.s (.bool false)))), none⟩]
abbrev r40_12 : List CO := [
  ⟨some 52, .mv (.t 5), none⟩,
  ⟨some 4, .mv (.t 52), none⟩]
abbrev k40_1 : CC := .seq (.reg r40_6) (.seq (.seq (.reg r40_7) (.block 2 k40_2)) (.rest [1, 2, 5, 6] (.seq (.reg r40_11) (.rest [1, 2, 5, 51] (.cond (.t 51) (.seq (.reg r40_12) (.ret)) (.skip))))))
abbrev r40_5 : List CO := [
  ⟨some 12, .mv (.t 5), none⟩,
  ⟨some 13, .bin .sub (.t 12) (.c (.p (.s (.int .i64 1)))), none⟩,
  ⟨some 5, .mv (.t 13), none⟩]
abbrev l40_17 : CC := .seq (.seq (.reg r40_4) (.cond (.t 11) (.skip) (.exit 0))) (.seq (.block 1 k40_1) (.rest [1, 2, 5] (.reg r40_5)))
abbrev k40_0 : CC := .loop l40_17
abbrev r40_13 : List CO := [
  ⟨some 4, .mv (.c (.p (.s (.int .i64 0)))), none⟩]
abbrev c40 : CC := .seq (.reg r40_0) (.seq (.seq (.reg r40_1) (.cond (.t 9) (.seq (.reg r40_2) (.ret)) (.skip))) (.seq (.seq (.reg r40_3) (.block 0 k40_0)) (.rest [] (.seq (.reg r40_13) (.ret)))))
theorem F40 : Fun Tryd.prog 40 53 c40 [.tmp 4] 2 := ⟨⟨Tryd.f40, _, Tryd.func40, rfl, by kernel_rfl, Tryd.ntmps40, by kernel_rfl, by kernel_rfl⟩, by decide⟩

/-- linnet/linnetref12.May -/
abbrev r41_0 : List CO := [
  ⟨some 1, .box (.t 0), none⟩,
  ⟨some 2, .mv (.c (.p (.s (.bool false)))), none⟩]
abbrev r41_1 : List CO := [
  ⟨some 3, .faddr 0 (.t 1), none⟩,
  ⟨some 4, .load false 1 (.t 3), none⟩,
  ⟨some 5, .len (.t 4), none⟩,
  ⟨some 6, .bin .leq (.t 5) (.c (.p (.s (.int .i64 4096)))), none⟩,
  ⟨some 7, .mv (.t 6), none⟩,
  ⟨some 8, .faddr 1 (.t 1), some (7, true)⟩,
  ⟨some 9, .load false 1 (.t 8), some (7, true)⟩,
  ⟨some 10, .bin .geq (.t 9) (.c (.p (.s (.int .i64 0)))), some (7, true)⟩,
  ⟨some 11, .pick (.t 7) (.t 10) (.c (.p (.s (.bool false)))), none⟩,
  ⟨some 12, .mv (.t 11), none⟩,
  ⟨some 13, .faddr 1 (.t 1), some (12, true)⟩,
  ⟨some 14, .load false 1 (.t 13), some (12, true)⟩,
  ⟨some 15, .faddr 0 (.t 1), some (12, true)⟩,
  ⟨some 16, .load false 1 (.t 15), some (12, true)⟩,
  ⟨some 17, .len (.t 16), some (12, true)⟩,
  ⟨some 18, .bin .leq (.t 14) (.t 17), some (12, true)⟩,
  ⟨some 19, .pick (.t 12) (.t 18) (.c (.p (.s (.bool false)))), none⟩,
  ⟨some 2, .mv (.t 19), none⟩]
abbrev c41 : CC := .seq (.reg r41_0) (.seq (.reg r41_1) (.rest [2] (.ret)))
theorem F41 : Fun Tryd.prog 41 20 c41 [.tmp 2] 1 := ⟨⟨Tryd.f41, _, Tryd.func41, rfl, by kernel_rfl, Tryd.ntmps41, by kernel_rfl, by kernel_rfl⟩, by decide⟩

/-- slices.EqualFunc[[]linnet/api.Event,[]linnet/api.Event,linnet/api.Event,linnet/api.Event] -/
abbrev r42_0 : List CO := [
  ⟨some 6, .mv (.c (.p (.s (.bool false)))), none⟩]
abbrev r42_1 : List CO := [
  ⟨some 10, .mv (.t 0), none⟩,
  ⟨some 11, .len (.t 10), none⟩,
  ⟨some 12, .mv (.t 1), none⟩,
  ⟨some 13, .len (.t 12), none⟩,
  ⟨some 14, .bin .neq (.t 11) (.t 13), none⟩]
abbrev r42_2 : List CO := [
  ⟨some 6, .mv (.c (.p (.s (.bool false)))), none⟩]
abbrev r42_3 : List CO := [
  ⟨some 15, .mv (.t 0), none⟩,
  ⟨some 16, .len (.t 15), none⟩,
  ⟨some 17, .mv (.c (.p (.s (.int .i64 0)))), none⟩]
abbrev r42_4 : List CO := [
  ⟨some 18, .bin .lss (.t 17) (.t 16), none⟩]
abbrev r42_5 : List CO := [
  ⟨some 19, .mv (.t 17), none⟩,
  ⟨some 20, .iaddrS 3 (.t 15) (.t 17), none⟩,
  ⟨some 21, .load true 3 (.t 20), none⟩,
  ⟨some 8, .alloc ([.s (.int .i64 0), .s (.int .i64 0), .s (.slice none 0 0)]), none⟩,
  ⟨some 7, .mv (.t 19), none⟩,
  ⟨none, .store 3 (.t 8) (.t 21), none⟩]
abbrev r42_6 : List CO := [
  ⟨some 22, .mv (.t 1), none⟩,
  ⟨some 23, .mv (.t 7), none⟩,
  ⟨some 24, .iaddrS 3 (.t 22) (.t 23), none⟩,
  ⟨some 25, .load true 3 (.t 24), none⟩,
  ⟨some 9, .alloc ([.s (.int .i64 0), .s (.int .i64 0), .s (.slice none 0 0)]), none⟩,
  ⟨none, .store 3 (.t 9) (.t 25), none⟩]
abbrev r42_7 : List CO := [
  ⟨some 26, .mv (.t 2), none⟩,
  ⟨some 27, .load true 3 (.t 8), none⟩,
  ⟨some 28, .load true 3 (.t 9), none⟩,
  ⟨some 29, .call (.t 26) [.t 27, .t 28], none⟩,
  ⟨some 30, .un .not (.t 29), none⟩]
abbrev r42_8 : List CO := [
  ⟨some 6, .mv (.c (.p (.s (.bool false)))), none⟩]
abbrev k42_1 : CC := .seq (.reg r42_5) (.rest [1, 2, 7, 8, 15, 16, 17] (.seq (.reg r42_6) (.rest [1, 2, 8, 9, 15, 16, 17] (.seq (.reg r42_7) (.rest [1, 2, 15, 16, 17, 30] (.cond (.t 30) (.seq (.reg r42_8) (.ret)) (.skip)))))))
abbrev r42_9 : List CO := [
  ⟨some 31, .bin .add (.t 17) (.c (.p (.s (.int .i64 1)))), none⟩,
  ⟨some 17, .mv (.t 31), none⟩]
abbrev l42_11 : CC := .seq (.reg r42_4) (.seq (.cond (.t 18) (.skip) (.exit 0)) (.seq (.block 1 k42_1) (.rest [1, 2, 15, 16, 17] (.reg r42_9))))
abbrev k42_0 : CC := .loop l42_11
abbrev r42_10 : List CO := [
  ⟨some 6, .mv (.c (.p (.s (.bool true)))), none⟩]
abbrev c42 : CC := .seq (.reg r42_0) (.seq (.seq (.reg r42_1) (.rest [0, 1, 2, 14] (.cond (.t 14) (.seq (.reg r42_2) (.ret)) (.skip)))) (.rest [0, 1, 2] (.seq (.seq (.reg r42_3) (.block 0 k42_0)) (.rest [] (.seq (.reg r42_10) (.ret))))))
theorem F42 : Fun Tryd.prog 42 32 c42 [.tmp 6] 3 := ⟨⟨Tryd.f42, _, Tryd.func42, rfl, by kernel_rfl, Tryd.ntmps42, by kernel_rfl, by kernel_rfl⟩, by decide⟩

/-- linnet/editor.Alike$1 -/
abbrev r43_0 : List CO := [
  ⟨some 2, .box (.t 0), none⟩,
  ⟨some 3, .box (.t 1), none⟩,
  ⟨some 4, .mv (.c (.p (.s (.bool false)))), none⟩]
abbrev r43_1 : List CO := [
  ⟨some 5, .faddr 0 (.t 2), none⟩,
  ⟨some 6, .load false 1 (.t 5), none⟩,
  ⟨some 7, .faddr 0 (.t 3), none⟩,
  ⟨some 8, .load false 1 (.t 7), none⟩,
  ⟨some 9, .bin .eql (.t 6) (.t 8), none⟩,
  ⟨some 10, .mv (.t 9), none⟩,
  ⟨some 11, .faddr 1 (.t 2), some (10, true)⟩,
  ⟨some 12, .load false 1 (.t 11), some (10, true)⟩,
  ⟨some 13, .faddr 1 (.t 3), some (10, true)⟩,
  ⟨some 14, .load false 1 (.t 13), some (10, true)⟩,
  ⟨some 15, .bin .eql (.t 12) (.t 14), some (10, true)⟩,
  ⟨some 16, .pick (.t 10) (.t 15) (.c (.p (.s (.bool false)))), none⟩,
  ⟨some 17, .mv (.t 16), none⟩,
  ⟨some 18, .faddr 2 (.t 2), some (17, true)⟩,
  ⟨some 19, .load false 1 (.t 18), some (17, true)⟩,
  ⟨some 20, .faddr 2 (.t 3), some (17, true)⟩,
  ⟨some 21, .load false 1 (.t 20), some (17, true)⟩,
  ⟨some 22, .call (.c (.fn (.func 44) [] [])) [.t 19, .t 21], some (17, true)⟩,
  ⟨some 23, .pick (.t 17) (.t 22) (.c (.p (.s (.bool false)))), none⟩,
  ⟨some 4, .mv (.t 23), none⟩]
abbrev c43 : CC := .seq (.reg r43_0) (.seq (.reg r43_1) (.rest [4] (.ret)))
theorem F43 : Fun Tryd.prog 43 24 c43 [.tmp 4] 2 := ⟨⟨Tryd.f43, _, Tryd.func43, rfl, by kernel_rfl, Tryd.ntmps43, by kernel_rfl, by kernel_rfl⟩, by decide⟩

/-- bytes.Equal -/
abbrev r44_0 : List CO := [
  ⟨some 4, .mv (.c (.p (.s (.bool false)))), none⟩]
abbrev r44_1 : List CO := [
  ⟨some 5, .mv (.t 0), none⟩,
  ⟨some 6, .toStr (.t 5), none⟩,
  ⟨some 7, .mv (.t 1), none⟩,
  ⟨some 8, .toStr (.t 7), none⟩,
  ⟨some 9, .bin .eql (.t 6) (.t 8), none⟩,
  ⟨some 4, .mv (.t 9), none⟩]
abbrev c44 : CC := .seq (.reg r44_0) (.seq (.reg r44_1) (.rest [4] (.ret)))
theorem F44 : Fun Tryd.prog 44 10 c44 [.tmp 4] 2 := ⟨⟨Tryd.f44, _, Tryd.func44, rfl, by kernel_rfl, Tryd.ntmps44, by kernel_rfl, by kernel_rfl⟩, by decide⟩

/-- (*linnet/editor.work).signal -/
abbrev r45_0 : List CO := [
  ⟨some 6, .mv (.t 0), none⟩,
  ⟨some 7, .mkfn (.func 48) [.t 6] [], none⟩,
  ⟨some 4, .mv (.t 7), none⟩]
abbrev r45_1 : List CO := [
  ⟨some 8, .mv (.t 1), none⟩,
  ⟨some 9, .build ([.s (.int .i64 0), .s (.int .i64 0), .s (.slice none 0 0)]) [(0, 1, .c (.p (.s (.int .i64 3)))), (1, 1, .t 8)], none⟩,
  ⟨some 5, .alloc ([.s (.int .i64 0), .s (.int .i64 0), .s (.slice none 0 0)]), none⟩,
  ⟨none, .store 3 (.t 5) (.t 9), none⟩]
abbrev r45_2 : List CO := [
  ⟨some 10, .mv (.t 1), none⟩]
abbrev r45_3 : List CO := [
  ⟨some 12, .bin .eql (.t 10) (.c (.p (.s (.int .i64 4)))), none⟩,
  ⟨some 11, .mv (.t 12), none⟩]
abbrev r45_4 : List CO := [
  ⟨some 13, .bin .eql (.t 10) (.c (.p (.s (.int .i64 5)))), none⟩,
  ⟨some 11, .mv (.t 13), none⟩]
abbrev r45_5 : List CO := [
  ⟨some 14, .bin .eql (.t 10) (.c (.p (.s (.int .i64 6)))), none⟩,
  ⟨some 11, .mv (.t 14), none⟩]
abbrev r45_6 : List CO := [
  ⟨some 15, .mv (.t 0), none⟩,
  ⟨some 16, .mkfn (.func 58) [.t 15] [], none⟩,
  ⟨some 4, .mv (.t 16), none⟩]
abbrev r45_7 : List CO := [
  ⟨some 18, .bin .eql (.t 10) (.c (.p (.s (.int .i64 8)))), none⟩,
  ⟨some 17, .mv (.t 18), none⟩]
abbrev r45_8 : List CO := [
  ⟨some 19, .mv (.t 0), none⟩,
  ⟨some 20, .nilchk (.t 19), none⟩,
  ⟨some 21, .faddr 0 (.t 20), none⟩,
  ⟨some 22, .faddr 0 (.t 21), none⟩,
  ⟨some 23, .faddr 0 (.t 22), none⟩,
  ⟨some 24, .load false 1 (.t 23), none⟩,
  ⟨some 25, .len (.t 24), none⟩,
  ⟨some 26, .bin .gtr (.t 25) (.c (.p (.s (.int .i64 0)))), none⟩]
abbrev r45_9 : List CO := [
  ⟨some 27, .mv (.t 0), none⟩,
  ⟨some 28, .nilchk (.t 27), none⟩,
  ⟨some 29, .faddr 0 (.t 28), none⟩,
  ⟨some 30, .faddr 0 (.t 29), none⟩,
  ⟨some 31, .faddr 0 (.t 30), none⟩,
  ⟨some 32, .load false 1 (.t 31), none⟩,
  ⟨some 33, .build ([.s (.int .i64 0), .s (.int .i64 0), .s (.slice none 0 0)]) [(0, 1, .c (.p (.s (.int .i64 2)))), (2, 1, .t 32)], none⟩,
  ⟨none, .store 3 (.t 5) (.t 33), none⟩]
abbrev k45_0 : CC := .seq (.seq (.reg r45_3) (.cond (.t 11) (.skip) (.seq (.reg r45_4) (.cond (.t 11) (.skip) (.reg r45_5))))) (.rest [0, 4, 5, 10, 11] (.cond (.t 11) (.reg r45_6) (.seq (.reg r45_7) (.cond (.t 17) (.seq (.reg r45_8) (.rest [0, 4, 5, 26] (.cond (.t 26) (.reg r45_9) (.skip)))) (.skip)))))
abbrev r45_10 : List CO := [
  ⟨some 34, .mv (.t 4), none⟩,
  ⟨some 35, .load true 3 (.t 5), none⟩,
  ⟨some 36, .call (.t 34) [.t 35], none⟩]
abbrev c45 : CC := .seq (.reg r45_0) (.seq (.reg r45_1) (.rest [0, 1, 4, 5] (.seq (.seq (.reg r45_2) (.block 0 k45_0)) (.rest [4, 5] (.reg r45_10)))))
theorem F45 : Fun Tryd.prog 45 37 c45 [] 2 := ⟨⟨Tryd.f45, _, Tryd.func45, rfl, by kernel_rfl, Tryd.ntmps45, by kernel_rfl, by kernel_rfl⟩, by decide⟩

/-- linnet/line.Check -/
abbrev r46_0 : List CO := [
  ⟨some 1, .box (.t 0), none⟩,
  ⟨some 2, .mv (.c (.p (.s (.int .i64 0)))), none⟩]
abbrev r46_1 : List CO := [
  ⟨some 3, .faddr 0 (.t 1), none⟩,
  ⟨some 4, .load false 1 (.t 3), none⟩,
  ⟨some 5, .len (.t 4), none⟩,
  ⟨some 6, .bin .gtr (.t 5) (.c (.p (.s (.int .i64 4096)))), none⟩,
  ⟨some 7, .mv (.t 6), none⟩,
  ⟨some 8, .faddr 1 (.t 1), some (7, false)⟩,
  ⟨some 9, .load false 1 (.t 8), some (7, false)⟩,
  ⟨some 10, .bin .lss (.t 9) (.c (.p (.s (.int .i64 0)))), some (7, false)⟩,
  ⟨some 11, .pick (.t 7) (.c (.p (.s (.bool true)))) (.t 10), none⟩,
  ⟨some 12, .mv (.t 11), none⟩,
  ⟨some 13, .faddr 1 (.t 1), some (12, false)⟩,
  ⟨some 14, .load false 1 (.t 13), some (12, false)⟩,
  ⟨some 15, .faddr 0 (.t 1), some (12, false)⟩,
  ⟨some 16, .load false 1 (.t 15), some (12, false)⟩,
  ⟨some 17, .len (.t 16), some (12, false)⟩,
  ⟨some 18, .bin .gtr (.t 14) (.t 17), some (12, false)⟩,
  ⟨some 19, .pick (.t 12) (.c (.p (.s (.bool true)))) (.t 18), none⟩]
abbrev r46_2 : List CO := [
  ⟨some 2, .mv (.c (.p (.s (.int .i64 1)))), none⟩]
abbrev r46_3 : List CO := [
  ⟨some 2, .mv (.c (.p (.s (.int .i64 0)))), none⟩]
abbrev c46 : CC := .seq (.reg r46_0) (.seq (.seq (.reg r46_1) (.rest [19] (.cond (.t 19) (.seq (.reg r46_2) (.ret)) (.skip)))) (.rest [] (.seq (.reg r46_3) (.ret))))
theorem F46 : Fun Tryd.prog 46 20 c46 [.tmp 2] 1 := ⟨⟨Tryd.f46, _, Tryd.func46, rfl, by kernel_rfl, Tryd.ntmps46, by kernel_rfl, by kernel_rfl⟩, by decide⟩

/-- linnet/line.Type -/
abbrev r47_0 : List CO := [
  ⟨some 4, .box (.t 0), none⟩,
  ⟨some 8, .alloc ([.s (.slice none 0 0), .s (.int .i64 0)]), none⟩,
  ⟨some 9, .mv (.c (.p (.s (.bool false)))), none⟩]
abbrev r47_1 : List CO := [
  ⟨some 12, .load true 2 (.t 4), none⟩,
  ⟨some 13, .call (.c (.fn (.func 46) [] [])) [.t 12], none⟩,
  ⟨some 14, .bin .neq (.t 13) (.c (.p (.s (.int .i64 0)))), none⟩]
abbrev r47_2 : List CO := [
  ⟨some 15, .load true 2 (.t 4), none⟩,
  ⟨none, .store 2 (.t 8) (.t 15), none⟩,
  ⟨some 9, .mv (.c (.p (.s (.bool false)))), none⟩]
abbrev r47_3 : List CO := [
  ⟨some 10, .mv (.c (.p (.s (.int .i64 0)))), none⟩]
abbrev r47_4 : List CO := [
  ⟨some 16, .mv (.t 2), none⟩,
  ⟨some 17, .mv (.t 16), none⟩,
  ⟨some 18, .faddr 1 (.t 4), some (17, true)⟩,
  ⟨some 19, .load false 1 (.t 18), some (17, true)⟩,
  ⟨some 20, .faddr 0 (.t 4), some (17, true)⟩,
  ⟨some 21, .load false 1 (.t 20), some (17, true)⟩,
  ⟨some 22, .len (.t 21), some (17, true)⟩,
  ⟨some 23, .bin .lss (.t 19) (.t 22), some (17, true)⟩,
  ⟨some 24, .pick (.t 17) (.t 23) (.c (.p (.s (.bool false)))), none⟩]
abbrev r47_5 : List CO := [
  ⟨some 10, .mv (.c (.p (.s (.int .i64 1)))), none⟩]
abbrev r47_6 : List CO := [
  ⟨some 25, .faddr 0 (.t 4), none⟩,
  ⟨some 26, .load false 1 (.t 25), none⟩,
  ⟨some 27, .len (.t 26), none⟩,
  ⟨some 28, .mv (.t 1), none⟩,
  ⟨some 29, .minmax false (.t 28) (.c (.p (.s (.int .i64 4096)))), none⟩,
  ⟨some 30, .bin .geq (.t 27) (.t 29), none⟩]
abbrev r47_7 : List CO := [
  ⟨some 31, .load true 2 (.t 4), none⟩,
  ⟨none, .store 2 (.t 8) (.t 31), none⟩,
  ⟨some 9, .mv (.c (.p (.s (.bool false)))), none⟩]
abbrev r47_8 : List CO := [
  ⟨some 32, .faddr 0 (.t 4), none⟩,
  ⟨some 33, .load false 1 (.t 32), none⟩,
  ⟨some 34, .faddr 1 (.t 4), none⟩,
  ⟨some 35, .load false 1 (.t 34), none⟩,
  ⟨some 36, .slice 1 (.t 33) none (some (.t 35)), none⟩,
  ⟨some 37, .call (.c (.fn (.func 59) [] [])) [.t 36], none⟩,
  ⟨some 38, .mv (.t 3), none⟩,
  ⟨some 39, .bslice 1 1 ([.s (.int .u8 0)]) [(0, .t 38)], none⟩,
  ⟨some 40, .append 1 1 ([.s (.int .u8 0)]) (.t 37) (.t 39), none⟩,
  ⟨some 11, .mv (.t 40), none⟩]
abbrev r47_9 : List CO := [
  ⟨some 41, .mv (.t 11), none⟩,
  ⟨some 42, .faddr 0 (.t 4), none⟩,
  ⟨some 43, .load false 1 (.t 42), none⟩,
  ⟨some 44, .faddr 1 (.t 4), none⟩,
  ⟨some 45, .load false 1 (.t 44), none⟩,
  ⟨some 46, .mv (.t 10), none⟩,
  ⟨some 47, .bin .add (.t 45) (.t 46), none⟩,
  ⟨some 48, .slice 1 (.t 43) (some (.t 47)) none, none⟩,
  ⟨some 49, .append 1 1 ([.s (.int .u8 0)]) (.t 41) (.t 48), none⟩,
  ⟨some 50, .faddr 1 (.t 4), none⟩,
  ⟨some 51, .load false 1 (.t 50), none⟩,
  ⟨some 52, .bin .add (.t 51) (.c (.p (.s (.int .i64 1)))), none⟩,
  ⟨some 53, .build ([.s (.slice none 0 0), .s (.int .i64 0)]) [(0, 1, .t 49), (1, 1, .t 52)], none⟩,
  ⟨none, .store 2 (.t 8) (.t 53), none⟩,
  ⟨some 9, .mv (.c (.p (.s (.bool true)))), none⟩]
abbrev b47_9 : List (List Nat) := [[], [], [1], [], [3], [], [4, 5], [2, 6], [0, 7], [], [9], [10], [8, 11], [12, 8, 0, 1, 2, 3, 4, 5, 6, 7, 8, 9, 10, 11, 12], [13, 0, 1, 2, 3, 4, 5, 6, 7, 8, 9, 10, 11, 12, 13]]
abbrev c47 : CC := .seq (.reg r47_0) (.seq (.seq (.reg r47_1) (.cond (.t 14) (.seq (.reg r47_2) (.ret)) (.skip))) (.rest [1, 2, 3, 4, 8] (.seq (.reg r47_3) (.seq (.seq (.reg r47_4) (.rest [1, 3, 4, 8, 10, 24] (.cond (.t 24) (.reg r47_5) (.seq (.reg r47_6) (.rest [3, 4, 8, 10, 30] (.cond (.t 30) (.seq (.reg r47_7) (.ret)) (.skip))))))) (.rest [3, 4, 8, 10] (.seq (.reg r47_8) (.rest [4, 8, 10, 11] (.seq (.regd r47_9 b47_9) (.rest [8, 9] (.ret))))))))))
theorem F47 : Fun Tryd.prog 47 54 c47 [.cell 8 true 2, .tmp 9] 4 := ⟨⟨Tryd.f47, _, Tryd.func47, rfl, by kernel_rfl, Tryd.ntmps47, by kernel_rfl, by kernel_rfl⟩, by decide⟩

/-- (*linnet/editor.work).tell -/
abbrev r48_0 : List CO := [
  ⟨some 3, .box (.t 1), none⟩]
abbrev r48_1 : List CO := [
  ⟨some 4, .mv (.t 0), none⟩,
  ⟨some 5, .mv (.t 0), none⟩,
  ⟨some 6, .nilchk (.t 5), none⟩,
  ⟨some 7, .faddr 5 (.t 6), none⟩,
  ⟨some 8, .load false 1 (.t 7), none⟩,
  ⟨some 9, .load true 3 (.t 3), none⟩,
  ⟨some 10, .bslice 3 1 ([.s (.int .i64 0), .s (.int .i64 0), .s (.slice none 0 0)]) [(0, .t 9)], none⟩,
  ⟨some 11, .append 3 40 ([.s (.int .i64 0), .s (.int .i64 0), .s (.slice none 0 0)]) (.t 8) (.t 10), none⟩,
  ⟨some 12, .nilchk (.t 4), none⟩,
  ⟨some 13, .faddr 5 (.t 12), none⟩,
  ⟨none, .store 1 (.t 13) (.t 11), none⟩]
abbrev b48_1 : List (List Nat) := [[], [], [1], [2], [3], [], [5], [4, 6], [0, 0, 1, 2, 3, 4, 5, 6, 7], [8, 0, 1, 2, 3, 4, 5, 6, 7], [9, 7, 7, 0, 1, 2, 3, 4, 5, 6, 7]]
abbrev r48_2 : List CO := [
  ⟨some 14, .mv (.t 0), none⟩,
  ⟨some 15, .build ([.s (.slice none 0 0), .s (.int .i64 0), .s (.bool false), .s (.bool false)]) [], none⟩,
  ⟨some 16, .nilchk (.t 14), none⟩,
  ⟨some 17, .faddr 0 (.t 16), none⟩,
  ⟨none, .store 4 (.t 17) (.t 15), none⟩]
abbrev c48 : CC := .seq (.reg r48_0) (.seq (.regd r48_1 b48_1) (.rest [0] (.reg r48_2)))
theorem F48 : Fun Tryd.prog 48 18 c48 [] 2 := ⟨⟨Tryd.f48, _, Tryd.func48, rfl, by kernel_rfl, Tryd.ntmps48, by kernel_rfl, by kernel_rfl⟩, by decide⟩

/-- linnet/line.Do -/
abbrev r49_0 : List CO := [
  ⟨some 2, .box (.t 0), none⟩,
  ⟨some 4, .alloc ([.s (.slice none 0 0), .s (.int .i64 0)]), none⟩,
  ⟨some 5, .mv (.c (.p (.s (.bool false)))), none⟩]
abbrev r49_1 : List CO := [
  ⟨some 7, .call (.c (.fn (.func 60) [] [])) [], none⟩,
  ⟨some 8, .mv (.t 1), none⟩,
  ⟨some 9, .ext (.look (.nilFunc)) [.t 7, .t 8], none⟩,
  ⟨some 6, .mv (.t 9), none⟩]
abbrev r49_2 : List CO := [
  ⟨some 10, .load true 2 (.t 2), none⟩,
  ⟨some 11, .call (.c (.fn (.func 46) [] [])) [.t 10], none⟩,
  ⟨some 12, .bin .neq (.t 11) (.c (.p (.s (.int .i64 0)))), none⟩,
  ⟨some 13, .mv (.t 12), none⟩,
  ⟨some 14, .mv (.t 6), some (13, false)⟩,
  ⟨some 15, .ext (.fnil false) [.t 14], some (13, false)⟩,
  ⟨some 16, .pick (.t 13) (.c (.p (.s (.bool true)))) (.t 15), none⟩]
abbrev r49_3 : List CO := [
  ⟨some 17, .load true 2 (.t 2), none⟩,
  ⟨none, .store 2 (.t 4) (.t 17), none⟩,
  ⟨some 5, .mv (.c (.p (.s (.bool false)))), none⟩]
abbrev r49_4 : List CO := [
  ⟨some 18, .faddr 0 (.t 2), none⟩,
  ⟨some 19, .load false 1 (.t 18), none⟩,
  ⟨some 20, .call (.c (.fn (.func 59) [] [])) [.t 19], none⟩,
  ⟨some 21, .faddr 0 (.t 2), none⟩,
  ⟨none, .store 1 (.t 21) (.t 20), none⟩]
abbrev r49_5 : List CO := [
  ⟨some 22, .mv (.t 6), none⟩,
  ⟨some 23, .load true 2 (.t 2), none⟩,
  ⟨some 24, .call (.t 22) [.t 23], none⟩,
  ⟨none, .store 2 (.t 4) (.t 24), none⟩,
  ⟨some 5, .mv (.c (.p (.s (.bool true)))), none⟩]
abbrev c49 : CC := .seq (.reg r49_0) (.seq (.reg r49_1) (.rest [2, 4, 6] (.seq (.seq (.reg r49_2) (.rest [2, 4, 6, 16] (.cond (.t 16) (.seq (.reg r49_3) (.ret)) (.skip)))) (.rest [2, 4, 6] (.seq (.reg r49_4) (.rest [2, 4, 6] (.seq (.reg r49_5) (.rest [4, 5] (.ret)))))))))
theorem F49 : Fun Tryd.prog 49 25 c49 [.cell 4 true 2, .tmp 5] 2 := ⟨⟨Tryd.f49, _, Tryd.func49, rfl, by kernel_rfl, Tryd.ntmps49, by kernel_rfl, by kernel_rfl⟩, by decide⟩

/-- linnet/renew.Keys -/
abbrev r50_0 : List CO := [
  ⟨some 2, .box (.t 0), none⟩,
  ⟨some 3, .box (.t 1), none⟩,
  ⟨some 4, .mv (.c (.p (.s (.slice none 0 0)))), none⟩]
abbrev r50_1 : List CO := [
  ⟨some 9, .load true 4 (.t 3), none⟩,
  ⟨some 10, .call (.c (.fn (.func 27) [] [])) [.t 9], none⟩,
  ⟨some 11, .bin .neq (.t 10) (.c (.p (.s (.int .i64 0)))), none⟩]
abbrev r50_2 : List CO := [
  ⟨some 4, .mv (.c (.p (.s (.slice none 0 0)))), none⟩]
abbrev r50_3 : List CO := [
  ⟨some 5, .alloc ([.s (.slice none 0 0)]), none⟩]
abbrev r50_4 : List CO := [
  ⟨some 12, .mkfn (.func 61) [] [.t 2, .t 5], none⟩,
  ⟨some 6, .mv (.t 12), none⟩]
abbrev r50_5 : List CO := [
  ⟨some 13, .faddr 0 (.t 3), none⟩,
  ⟨some 14, .faddr 0 (.t 13), none⟩,
  ⟨some 15, .load false 1 (.t 14), none⟩,
  ⟨some 16, .faddr 0 (.t 3), none⟩,
  ⟨some 17, .faddr 1 (.t 16), none⟩,
  ⟨some 18, .load false 1 (.t 17), none⟩,
  ⟨some 19, .slice 1 (.t 15) (some (.t 18)) none, none⟩,
  ⟨some 7, .mv (.t 19), none⟩]
abbrev r50_6 : List CO := [
  ⟨some 20, .mv (.t 6), none⟩,
  ⟨some 21, .mv (.t 7), none⟩,
  ⟨some 22, .call (.t 20) [.t 21], none⟩]
abbrev r50_7 : List CO := [
  ⟨some 23, .mv (.t 7), none⟩,
  ⟨some 24, .len (.t 23), none⟩,
  ⟨some 8, .mv (.t 24), none⟩]
abbrev r50_8 : List CO := [
  ⟨some 25, .mv (.t 8), none⟩,
  ⟨some 26, .bin .gtr (.t 25) (.c (.p (.s (.int .i64 0)))), none⟩]
abbrev r50_9 : List CO := [
  ⟨some 27, .load false 1 (.t 5), none⟩,
  ⟨some 28, .load true 62 (.t 2), none⟩,
  ⟨some 29, .build ([.s (.int .i64 0), .s (.int .i64 0)]) [(0, 1, .c (.p (.s (.int .i64 23)))), (1, 1, .c (.p (.s (.int .i64 1))))], none⟩,
  ⟨some 30, .mv (.t 8), none⟩,
  ⟨some 31, .build ([.s (.int .i64 0), .s (.int .i64 0)]) [(0, 1, .c (.p (.s (.int .i64 19)))), (1, 1, .t 30)], none⟩,
  ⟨some 32, .mv (.t 8), none⟩,
  ⟨some 33, .build ([.s (.int .i64 0), .s (.int .i64 0)]) [(0, 1, .c (.p (.s (.int .i64 21)))), (1, 1, .t 32)], none⟩,
  ⟨some 34, .bslice 2 3 ([.s (.int .i64 0), .s (.int .i64 0)]) [(0, .t 29), (1, .t 31), (2, .t 33)], none⟩,
  ⟨some 35, .call (.c (.fn (.func 63) [] [])) [.t 28, .t 34], none⟩,
  ⟨some 36, .append 1 1 ([.s (.int .u8 0)]) (.t 27) (.t 35), none⟩,
  ⟨none, .store 1 (.t 5) (.t 36), none⟩]
abbrev b50_9 : List (List Nat) := [[], [], [], [], [3], [], [5], [2, 4, 6], [1, 7], [0, 8, 8], [9, 9, 0, 1, 2, 3, 4, 5, 6, 7, 8, 9]]
abbrev r50_10 : List CO := [
  ⟨some 37, .mv (.t 6), none⟩,
  ⟨some 38, .faddr 0 (.t 3), none⟩,
  ⟨some 39, .faddr 0 (.t 38), none⟩,
  ⟨some 40, .load false 1 (.t 39), none⟩,
  ⟨some 41, .faddr 0 (.t 3), none⟩,
  ⟨some 42, .faddr 1 (.t 41), none⟩,
  ⟨some 43, .load false 1 (.t 42), none⟩,
  ⟨some 44, .slice 1 (.t 40) none (some (.t 43)), none⟩,
  ⟨some 45, .call (.t 37) [.t 44], none⟩]
abbrev r50_11 : List CO := [
  ⟨some 46, .faddr 2 (.t 3), none⟩,
  ⟨some 47, .load false 1 (.t 46), none⟩]
abbrev r50_12 : List CO := [
  ⟨some 48, .load false 1 (.t 5), none⟩,
  ⟨some 49, .load true 62 (.t 2), none⟩,
  ⟨some 50, .build ([.s (.int .i64 0), .s (.int .i64 0)]) [(0, 1, .c (.p (.s (.int .i64 26)))), (1, 1, .c (.p (.s (.int .i64 1))))], none⟩,
  ⟨some 51, .bslice 2 1 ([.s (.int .i64 0), .s (.int .i64 0)]) [(0, .t 50)], none⟩,
  ⟨some 52, .call (.c (.fn (.func 63) [] [])) [.t 49, .t 51], none⟩,
  ⟨some 53, .append 1 1 ([.s (.int .u8 0)]) (.t 48) (.t 52), none⟩,
  ⟨none, .store 1 (.t 5) (.t 53), none⟩]
abbrev b50_12 : List (List Nat) := [[], [], [], [2], [1, 3], [0, 4, 4], [5, 5, 0, 1, 2, 3, 4, 5]]
abbrev r50_13 : List CO := [
  ⟨some 54, .faddr 3 (.t 3), none⟩,
  ⟨some 55, .load false 1 (.t 54), none⟩]
abbrev r50_14 : List CO := [
  ⟨some 56, .load false 1 (.t 5), none⟩,
  ⟨some 57, .load true 62 (.t 2), none⟩,
  ⟨some 58, .build ([.s (.int .i64 0), .s (.int .i64 0)]) [(0, 1, .c (.p (.s (.int .i64 14)))), (1, 1, .c (.p (.s (.int .i64 1))))], none⟩,
  ⟨some 59, .bslice 2 1 ([.s (.int .i64 0), .s (.int .i64 0)]) [(0, .t 58)], none⟩,
  ⟨some 60, .call (.c (.fn (.func 63) [] [])) [.t 57, .t 59], none⟩,
  ⟨some 61, .append 1 1 ([.s (.int .u8 0)]) (.t 56) (.t 60), none⟩,
  ⟨none, .store 1 (.t 5) (.t 61), none⟩]
abbrev b50_14 : List (List Nat) := [[], [], [], [2], [1, 3], [0, 4, 4], [5, 5, 0, 1, 2, 3, 4, 5]]
abbrev r50_15 : List CO := [
  ⟨some 62, .load false 1 (.t 5), none⟩,
  ⟨some 4, .mv (.t 62), none⟩]
abbrev c50 : CC := .seq (.reg r50_0) (.seq (.seq (.reg r50_1) (.cond (.t 11) (.seq (.reg r50_2) (.ret)) (.skip))) (.rest [2, 3] (.seq (.reg r50_3) (.seq (.reg r50_4) (.seq (.reg r50_5) (.rest [2, 3, 5, 6, 7] (.seq (.reg r50_6) (.seq (.seq (.reg r50_7) (.seq (.reg r50_8) (.cond (.t 26) (.regd r50_9 b50_9) (.skip)))) (.rest [2, 3, 5, 6] (.seq (.reg r50_10) (.rest [2, 3, 5] (.seq (.seq (.reg r50_11) (.cond (.t 47) (.regd r50_12 b50_12) (.skip))) (.rest [2, 3, 5] (.seq (.seq (.reg r50_13) (.cond (.t 55) (.regd r50_14 b50_14) (.skip))) (.rest [5] (.seq (.reg r50_15) (.ret)))))))))))))))))
theorem F50 : Fun Tryd.prog 50 63 c50 [.tmp 4] 2 := ⟨⟨Tryd.f50, _, Tryd.func50, rfl, by kernel_rfl, Tryd.ntmps50, by kernel_rfl, by kernel_rfl⟩, by decide⟩

/-- linnet/linnetlaw12.Few -/
abbrev r51_0 : List CO := [
  ⟨some 1, .box (.t 0), none⟩,
  ⟨some 2, .alloc ([.s (.slice none 0 0), .s (.int .i64 0)]), none⟩]
abbrev r51_1 : List CO := [
  ⟨some 3, .faddr 0 (.t 1), none⟩,
  ⟨some 4, .load false 1 (.t 3), none⟩,
  ⟨some 5, .len (.t 4), none⟩,
  ⟨some 6, .bin .gtr (.t 5) (.c (.p (.s (.int .i64 200)))), none⟩,
  ⟨some 7, .mv (.t 6), none⟩,
  ⟨some 8, .faddr 0 (.t 1), some (7, true)⟩,
  ⟨some 9, .load false 1 (.t 8), some (7, true)⟩,
  ⟨some 10, .len (.t 9), some (7, true)⟩,
  ⟨some 11, .bin .lss (.t 10) (.c (.p (.s (.int .i64 4000)))), some (7, true)⟩,
  ⟨some 12, .pick (.t 7) (.t 11) (.c (.p (.s (.bool false)))), none⟩,
  ⟨some 13, .mv (.t 12), none⟩,
  ⟨some 14, .faddr 0 (.t 1), some (13, false)⟩,
  ⟨some 15, .load false 1 (.t 14), some (13, false)⟩,
  ⟨some 16, .len (.t 15), some (13, false)⟩,
  ⟨some 17, .bin .gtr (.t 16) (.c (.p (.s (.int .i64 4100)))), some (13, false)⟩,
  ⟨some 18, .pick (.t 13) (.c (.p (.s (.bool true)))) (.t 17), none⟩]
abbrev r51_2 : List CO := [
  ⟨some 19, .faddr 0 (.t 1), none⟩,
  ⟨some 20, .load false 1 (.t 19), none⟩,
  ⟨some 21, .slice 1 (.t 20) none (some (.c (.p (.s (.int .i64 200))))), none⟩,
  ⟨some 22, .faddr 0 (.t 1), none⟩,
  ⟨none, .store 1 (.t 22) (.t 21), none⟩]
abbrev r51_3 : List CO := [
  ⟨some 23, .load true 2 (.t 1), none⟩,
  ⟨none, .store 2 (.t 2) (.t 23), none⟩]
abbrev c51 : CC := .seq (.reg r51_0) (.seq (.seq (.reg r51_1) (.rest [1, 2, 18] (.cond (.t 18) (.reg r51_2) (.skip)))) (.rest [1, 2] (.seq (.reg r51_3) (.ret))))
theorem F51 : Fun Tryd.prog 51 24 c51 [.cell 2 true 2] 1 := ⟨⟨Tryd.f51, _, Tryd.func51, rfl, by kernel_rfl, Tryd.ntmps51, by kernel_rfl, by kernel_rfl⟩, by decide⟩

/-- linnet/linnetref14.told -/
abbrev r52_0 : List CO := [
  ⟨some 2, .box (.t 0), none⟩,
  ⟨some 4, .mv (.c (.p (.s (.slice none 0 0)))), none⟩]
abbrev r52_1 : List CO := [
  ⟨some 5, .mv (.c (.p (.s (.slice none 0 0)))), none⟩]
abbrev r52_2 : List CO := [
  ⟨some 6, .mv (.c (.p (.s (.int .i64 0)))), none⟩]
abbrev r52_3 : List CO := [
  ⟨some 7, .mv (.t 6), none⟩,
  ⟨some 8, .mv (.t 1), none⟩,
  ⟨some 9, .len (.t 8), none⟩,
  ⟨some 10, .bin .lss (.t 7) (.t 9), none⟩]
abbrev r52_5 : List CO := [
  ⟨some 13, .load true 62 (.t 2), none⟩,
  ⟨some 14, .mv (.t 1), none⟩,
  ⟨some 15, .mv (.t 6), none⟩,
  ⟨some 16, .iaddrS 1 (.t 14) (.t 15), none⟩,
  ⟨some 17, .load false 1 (.t 16), none⟩,
  ⟨some 18, .call (.c (.fn (.func 64) [] [])) [.t 13, .t 17], none⟩,
  ⟨some 19, .un .not (.t 18), none⟩]
abbrev b52_5 : List (List Nat) := [[], [], [], [1, 2], [3], [0, 4], [5]]
abbrev r52_6 : List CO := [
  ⟨some 20, .mv (.t 5), none⟩,
  ⟨some 21, .load true 62 (.t 2), none⟩,
  ⟨some 22, .call (.c (.fn (.func 53) [] [])) [.t 21, .c (.p (.s (.int .i64 14))), .c (.p (.s (.int .i64 1)))], none⟩,
  ⟨some 23, .append 1 1 ([.s (.int .u8 0)]) (.t 20) (.t 22), none⟩,
  ⟨some 5, .mv (.t 23), none⟩]
abbrev r52_7 : List CO := [
  ⟨some 24, .mv (.t 5), none⟩,
  ⟨some 25, .mv (.t 1), none⟩,
  ⟨some 26, .mv (.t 6), none⟩,
  ⟨some 27, .iaddrS 1 (.t 25) (.t 26), none⟩,
  ⟨some 28, .load false 1 (.t 27), none⟩,
  ⟨some 29, .bslice 1 1 ([.s (.int .u8 0)]) [(0, .t 28)], none⟩,
  ⟨some 30, .append 1 1 ([.s (.int .u8 0)]) (.t 24) (.t 29), none⟩,
  ⟨some 5, .mv (.t 30), none⟩]
abbrev k52_1 : CC := .seq (.seq (.regd r52_5 b52_5) (.rest [1, 2, 5, 6, 19] (.cond (.t 19) (.reg r52_6) (.skip)))) (.rest [1, 2, 5, 6] (.reg r52_7))
abbrev r52_4 : List CO := [
  ⟨some 11, .mv (.t 6), none⟩,
  ⟨some 12, .bin .add (.t 11) (.c (.p (.s (.int .i64 1)))), none⟩,
  ⟨some 6, .mv (.t 12), none⟩]
abbrev l52_10 : CC := .seq (.seq (.reg r52_3) (.rest [1, 2, 5, 6, 10] (.cond (.t 10) (.skip) (.exit 0)))) (.rest [1, 2, 5, 6] (.seq (.block 1 k52_1) (.rest [1, 2, 5, 6] (.reg r52_4))))
abbrev k52_0 : CC := .loop l52_10
abbrev r52_8 : List CO := [
  ⟨some 31, .mv (.t 5), none⟩,
  ⟨some 4, .mv (.t 31), none⟩]
abbrev c52 : CC := .seq (.reg r52_0) (.seq (.reg r52_1) (.seq (.seq (.reg r52_2) (.block 0 k52_0)) (.rest [5] (.seq (.reg r52_8) (.ret)))))
theorem F52 : Fun Tryd.prog 52 32 c52 [.tmp 4] 2 := ⟨⟨Tryd.f52, _, Tryd.func52, rfl, by kernel_rfl, Tryd.ntmps52, by kernel_rfl, by kernel_rfl⟩, by decide⟩

/-- linnet/linnetref14.key -/
abbrev r53_0 : List CO := [
  ⟨some 3, .box (.t 0), none⟩,
  ⟨some 6, .mv (.c (.p (.s (.slice none 0 0)))), none⟩]
abbrev r53_1 : List CO := [
  ⟨some 10, .load true 62 (.t 3), none⟩,
  ⟨some 11, .mv (.t 1), none⟩,
  ⟨some 12, .call (.c (.fn (.func 65) [] [])) [.t 10, .t 11], none⟩,
  ⟨some 7, .mv (.t 12), none⟩]
abbrev r53_2 : List CO := [
  ⟨some 8, .mv (.c (.p (.s (.slice none 0 0)))), none⟩]
abbrev r53_3 : List CO := [
  ⟨some 9, .mv (.c (.p (.s (.int .i64 0)))), none⟩]
abbrev r53_4 : List CO := [
  ⟨some 13, .mv (.t 9), none⟩,
  ⟨some 14, .mv (.t 2), none⟩,
  ⟨some 15, .bin .lss (.t 13) (.t 14), none⟩,
  ⟨some 16, .mv (.t 15), none⟩,
  ⟨some 17, .mv (.t 7), some (16, true)⟩,
  ⟨some 18, .bin .lss (.t 17) (.c (.p (.s (.int .i64 256)))), some (16, true)⟩,
  ⟨some 19, .pick (.t 16) (.t 18) (.c (.p (.s (.bool false)))), none⟩]
abbrev r53_6 : List CO := [
  ⟨some 22, .mv (.t 8), none⟩,
  ⟨some 23, .mv (.t 7), none⟩,
  ⟨some 24, .toInt .u8 (.t 23), none⟩,
  ⟨some 25, .bslice 1 1 ([.s (.int .u8 0)]) [(0, .t 24)], none⟩,
  ⟨some 26, .append 1 1 ([.s (.int .u8 0)]) (.t 22) (.t 25), none⟩,
  ⟨some 8, .mv (.t 26), none⟩]
abbrev k53_1 : CC := .reg r53_6
abbrev r53_5 : List CO := [
  ⟨some 20, .mv (.t 9), none⟩,
  ⟨some 21, .bin .add (.t 20) (.c (.p (.s (.int .i64 1)))), none⟩,
  ⟨some 9, .mv (.t 21), none⟩]
abbrev l53_8 : CC := .seq (.seq (.reg r53_4) (.rest [2, 7, 8, 9, 19] (.cond (.t 19) (.skip) (.exit 0)))) (.rest [2, 7, 8, 9] (.seq (.block 1 k53_1) (.rest [2, 7, 8, 9] (.reg r53_5))))
abbrev k53_0 : CC := .loop l53_8
abbrev r53_7 : List CO := [
  ⟨some 27, .mv (.t 8), none⟩,
  ⟨some 6, .mv (.t 27), none⟩]
abbrev c53 : CC := .seq (.reg r53_0) (.seq (.reg r53_1) (.rest [2, 7] (.seq (.reg r53_2) (.seq (.seq (.reg r53_3) (.block 0 k53_0)) (.rest [8] (.seq (.reg r53_7) (.ret)))))))
theorem F53 : Fun Tryd.prog 53 28 c53 [.tmp 6] 3 := ⟨⟨Tryd.f53, _, Tryd.func53, rfl, by kernel_rfl, Tryd.ntmps53, by kernel_rfl, by kernel_rfl⟩, by decide⟩

/-- linnet/linnetref13.typed -/
abbrev r54_0 : List CO := [
  ⟨some 3, .box (.t 0), none⟩,
  ⟨some 6, .alloc ([.s (.slice none 0 0), .s (.int .i64 0), .s (.bool false), .s (.bool false)]), none⟩,
  ⟨some 7, .mv (.c (.p (.s (.slice none 0 0)))), none⟩,
  ⟨some 8, .mv (.c (.p (.s (.bool false)))), none⟩]
abbrev r54_1 : List CO := [
  ⟨some 12, .faddr 0 (.t 3), none⟩,
  ⟨some 13, .load true 2 (.t 12), none⟩,
  ⟨some 14, .mv (.t 1), none⟩,
  ⟨some 15, .faddr 2 (.t 3), none⟩,
  ⟨some 16, .load false 1 (.t 15), none⟩,
  ⟨some 17, .mv (.t 2), none⟩,
  ⟨some 18, .call (.c (.fn (.func 66) [] [])) [.t 13, .t 14, .t 16, .t 17], none⟩,
  ⟨some 11, .mv (.t 18), none⟩,
  ⟨some 19, .extract 0 (.t 11), none⟩,
  ⟨some 20, .extract 1 (.t 11), none⟩,
  ⟨some 9, .alloc ([.s (.slice none 0 0), .s (.int .i64 0)]), none⟩,
  ⟨none, .store 2 (.t 9) (.t 19), none⟩,
  ⟨some 10, .mv (.t 20), none⟩]
abbrev r54_2 : List CO := [
  ⟨some 21, .load true 2 (.t 9), none⟩,
  ⟨some 22, .faddr 2 (.t 3), none⟩,
  ⟨some 23, .load false 1 (.t 22), none⟩,
  ⟨some 24, .build ([.s (.slice none 0 0), .s (.int .i64 0), .s (.bool false), .s (.bool false)]) [(0, 2, .t 21), (2, 1, .t 23)], none⟩,
  ⟨some 25, .mv (.t 10), none⟩,
  ⟨some 26, .un .not (.t 25), none⟩,
  ⟨none, .store 4 (.t 6) (.t 24), none⟩,
  ⟨some 7, .mv (.c (.p (.s (.slice none 0 0)))), none⟩,
  ⟨some 8, .mv (.t 26), none⟩]
abbrev c54 : CC := .seq (.reg r54_0) (.rest [1, 2, 3, 6] (.seq (.reg r54_1) (.rest [3, 6, 9, 10] (.seq (.reg r54_2) (.rest [6, 7, 8] (.ret))))))
theorem F54 : Fun Tryd.prog 54 27 c54 [.cell 6 true 4, .tmp 7, .tmp 8] 3 := ⟨⟨Tryd.f54, _, Tryd.func54, rfl, by kernel_rfl, Tryd.ntmps54, by kernel_rfl, by kernel_rfl⟩, by decide⟩

/-- linnet/linnetref13.Signal -/
abbrev r55_0 : List CO := [
  ⟨some 2, .box (.t 0), none⟩,
  ⟨some 4, .alloc ([.s (.slice none 0 0), .s (.int .i64 0), .s (.bool false), .s (.bool false)]), none⟩,
  ⟨some 5, .mv (.c (.p (.s (.slice none 0 0)))), none⟩]
abbrev r55_1 : List CO := [
  ⟨some 7, .mv (.t 1), none⟩,
  ⟨some 8, .build ([.s (.int .i64 0), .s (.int .i64 0), .s (.slice none 0 0)]) [(0, 1, .c (.p (.s (.int .i64 3)))), (1, 1, .t 7)], none⟩,
  ⟨some 9, .bslice 3 1 ([.s (.int .i64 0), .s (.int .i64 0), .s (.slice none 0 0)]) [(0, .t 8)], none⟩,
  ⟨some 6, .mv (.t 9), none⟩]
abbrev r55_2 : List CO := [
  ⟨some 10, .mv (.t 1), none⟩,
  ⟨some 11, .bin .eql (.t 10) (.c (.p (.s (.int .i64 4)))), none⟩,
  ⟨some 12, .mv (.t 11), none⟩,
  ⟨some 13, .mv (.t 1), some (12, false)⟩,
  ⟨some 14, .bin .eql (.t 13) (.c (.p (.s (.int .i64 5)))), some (12, false)⟩,
  ⟨some 15, .pick (.t 12) (.c (.p (.s (.bool true)))) (.t 14), none⟩,
  ⟨some 16, .mv (.t 15), none⟩,
  ⟨some 17, .mv (.t 1), some (16, false)⟩,
  ⟨some 18, .bin .eql (.t 17) (.c (.p (.s (.int .i64 6)))), some (16, false)⟩,
  ⟨some 19, .pick (.t 16) (.c (.p (.s (.bool true)))) (.t 18), none⟩]
abbrev r55_3 : List CO := [
  ⟨some 20, .faddr 0 (.t 2), none⟩,
  ⟨some 21, .load true 2 (.t 20), none⟩,
  ⟨some 22, .faddr 2 (.t 2), none⟩,
  ⟨some 23, .load false 1 (.t 22), none⟩,
  ⟨some 24, .build ([.s (.slice none 0 0), .s (.int .i64 0), .s (.bool false), .s (.bool false)]) [(0, 2, .t 21), (2, 1, .t 23)], none⟩,
  ⟨some 25, .mv (.t 6), none⟩,
  ⟨none, .store 4 (.t 4) (.t 24), none⟩,
  ⟨some 5, .mv (.t 25), none⟩]
abbrev r55_4 : List CO := [
  ⟨some 26, .mv (.t 1), none⟩,
  ⟨some 27, .bin .eql (.t 26) (.c (.p (.s (.int .i64 8)))), none⟩,
  ⟨some 28, .mv (.t 27), none⟩,
  ⟨some 29, .faddr 0 (.t 2), some (28, true)⟩,
  ⟨some 30, .faddr 0 (.t 29), some (28, true)⟩,
  ⟨some 31, .load false 1 (.t 30), some (28, true)⟩,
  ⟨some 32, .len (.t 31), some (28, true)⟩,
  ⟨some 33, .bin .gtr (.t 32) (.c (.p (.s (.int .i64 0)))), some (28, true)⟩,
  ⟨some 34, .pick (.t 28) (.t 33) (.c (.p (.s (.bool false)))), none⟩]
abbrev r55_5 : List CO := [
  ⟨some 35, .build ([.s (.slice none 0 0), .s (.int .i64 0), .s (.bool false), .s (.bool false)]) [], none⟩,
  ⟨some 36, .faddr 0 (.t 2), none⟩,
  ⟨some 37, .faddr 0 (.t 36), none⟩,
  ⟨some 38, .load false 1 (.t 37), none⟩,
  ⟨some 39, .build ([.s (.int .i64 0), .s (.int .i64 0), .s (.slice none 0 0)]) [(0, 1, .c (.p (.s (.int .i64 2)))), (2, 1, .t 38)], none⟩,
  ⟨some 40, .bslice 3 1 ([.s (.int .i64 0), .s (.int .i64 0), .s (.slice none 0 0)]) [(0, .t 39)], none⟩,
  ⟨none, .store 4 (.t 4) (.t 35), none⟩,
  ⟨some 5, .mv (.t 40), none⟩]
abbrev b55_5 : List (List Nat) := [[], [], [1], [2], [3], [4], [0, 0], [5, 6, 0, 1, 2, 3, 4, 5, 6]]
abbrev r55_6 : List CO := [
  ⟨some 41, .build ([.s (.slice none 0 0), .s (.int .i64 0), .s (.bool false), .s (.bool false)]) [], none⟩,
  ⟨some 42, .mv (.t 6), none⟩,
  ⟨none, .store 4 (.t 4) (.t 41), none⟩,
  ⟨some 5, .mv (.t 42), none⟩]
abbrev c55 : CC := .seq (.reg r55_0) (.seq (.reg r55_1) (.rest [1, 2, 4, 6] (.seq (.seq (.reg r55_2) (.rest [1, 2, 4, 6, 19] (.cond (.t 19) (.seq (.reg r55_3) (.rest [4, 5] (.ret))) (.skip)))) (.rest [1, 2, 4, 6] (.seq (.seq (.reg r55_4) (.rest [2, 4, 6, 34] (.cond (.t 34) (.seq (.regd r55_5 b55_5) (.rest [4, 5] (.ret))) (.skip)))) (.rest [4, 6] (.seq (.reg r55_6) (.rest [4, 5] (.ret)))))))))
theorem F55 : Fun Tryd.prog 55 43 c55 [.cell 4 true 4, .tmp 5] 2 := ⟨⟨Tryd.f55, _, Tryd.func55, rfl, by kernel_rfl, Tryd.ntmps55, by kernel_rfl, by kernel_rfl⟩, by decide⟩

/-- linnet/linnetref12.Do -/
abbrev r56_0 : List CO := [
  ⟨some 2, .box (.t 0), none⟩,
  ⟨some 4, .alloc ([.s (.slice none 0 0), .s (.int .i64 0)]), none⟩,
  ⟨some 5, .mv (.c (.p (.s (.bool false)))), none⟩]
abbrev r56_1 : List CO := [
  ⟨some 8, .faddr 0 (.t 2), none⟩,
  ⟨some 9, .load false 1 (.t 8), none⟩,
  ⟨some 10, .faddr 1 (.t 2), none⟩,
  ⟨some 11, .load false 1 (.t 10), none⟩,
  ⟨some 12, .slice 1 (.t 9) none (some (.t 11)), none⟩,
  ⟨some 13, .faddr 0 (.t 2), none⟩,
  ⟨some 14, .load false 1 (.t 13), none⟩,
  ⟨some 15, .faddr 1 (.t 2), none⟩,
  ⟨some 16, .load false 1 (.t 15), none⟩,
  ⟨some 17, .slice 1 (.t 14) (some (.t 16)) none, none⟩,
  ⟨some 6, .mv (.t 12), none⟩,
  ⟨some 7, .mv (.t 17), none⟩]
abbrev b56_1 : List (List Nat) := [[], [0], [], [2], [1, 3], [], [5], [], [7], [6, 8], [4, 0, 1, 2, 3, 4], [9, 10, 0, 1, 2, 3, 4, 5, 6, 7, 8, 9, 10]]
abbrev r56_2 : List CO := [
  ⟨some 18, .mv (.t 1), none⟩]
abbrev r56_3 : List CO := [
  ⟨some 20, .bin .eql (.t 18) (.c (.p (.s (.int .i64 10)))), none⟩,
  ⟨some 19, .mv (.t 20), none⟩]
abbrev r56_4 : List CO := [
  ⟨some 21, .mv (.t 6), none⟩,
  ⟨some 22, .mv (.t 6), none⟩,
  ⟨some 23, .len (.t 22), none⟩,
  ⟨some 24, .bin .sub (.t 23) (.c (.p (.s (.int .i64 1)))), none⟩,
  ⟨some 25, .minmax true (.t 24) (.c (.p (.s (.int .i64 0)))), none⟩,
  ⟨some 26, .slice 1 (.t 21) none (some (.t 25)), none⟩,
  ⟨some 27, .mv (.t 7), none⟩,
  ⟨some 28, .call (.c (.fn (.func 67) [] [])) [.t 26, .t 27], none⟩,
  ⟨none, .store 2 (.t 4) (.t 28), none⟩,
  ⟨some 5, .mv (.c (.p (.s (.bool true)))), none⟩]
abbrev r56_5 : List CO := [
  ⟨some 30, .bin .eql (.t 18) (.c (.p (.s (.int .i64 11)))), none⟩,
  ⟨some 29, .mv (.t 30), none⟩]
abbrev r56_6 : List CO := [
  ⟨some 31, .build ([.s (.slice none 0 0), .s (.int .i64 0)]) [], none⟩,
  ⟨none, .store 2 (.t 4) (.t 31), none⟩,
  ⟨some 5, .mv (.c (.p (.s (.bool true)))), none⟩]
abbrev r56_7 : List CO := [
  ⟨some 33, .bin .eql (.t 18) (.c (.p (.s (.int .i64 12)))), none⟩,
  ⟨some 32, .mv (.t 33), none⟩]
abbrev r56_8 : List CO := [
  ⟨some 34, .mv (.t 6), none⟩,
  ⟨some 35, .load true 2 (.t 2), none⟩,
  ⟨some 36, .call (.c (.fn (.func 68) [] [])) [.t 35], none⟩,
  ⟨some 37, .slice 1 (.t 34) none (some (.t 36)), none⟩,
  ⟨some 38, .mv (.t 7), none⟩,
  ⟨some 39, .call (.c (.fn (.func 67) [] [])) [.t 37, .t 38], none⟩,
  ⟨none, .store 2 (.t 4) (.t 39), none⟩,
  ⟨some 5, .mv (.c (.p (.s (.bool true)))), none⟩]
abbrev r56_9 : List CO := [
  ⟨some 41, .bin .eql (.t 18) (.c (.p (.s (.int .i64 19)))), none⟩,
  ⟨some 40, .mv (.t 41), none⟩]
abbrev r56_10 : List CO := [
  ⟨some 42, .faddr 0 (.t 2), none⟩,
  ⟨some 43, .load false 1 (.t 42), none⟩,
  ⟨some 44, .faddr 1 (.t 2), none⟩,
  ⟨some 45, .load false 1 (.t 44), none⟩,
  ⟨some 46, .bin .sub (.t 45) (.c (.p (.s (.int .i64 1)))), none⟩,
  ⟨some 47, .minmax true (.t 46) (.c (.p (.s (.int .i64 0)))), none⟩,
  ⟨some 48, .build ([.s (.slice none 0 0), .s (.int .i64 0)]) [(0, 1, .t 43), (1, 1, .t 47)], none⟩,
  ⟨none, .store 2 (.t 4) (.t 48), none⟩,
  ⟨some 5, .mv (.c (.p (.s (.bool true)))), none⟩]
abbrev r56_11 : List CO := [
  ⟨some 50, .bin .eql (.t 18) (.c (.p (.s (.int .i64 20)))), none⟩,
  ⟨some 49, .mv (.t 50), none⟩]
abbrev r56_12 : List CO := [
  ⟨some 51, .faddr 0 (.t 2), none⟩,
  ⟨some 52, .load false 1 (.t 51), none⟩,
  ⟨some 53, .faddr 1 (.t 2), none⟩,
  ⟨some 54, .load false 1 (.t 53), none⟩,
  ⟨some 55, .bin .add (.t 54) (.c (.p (.s (.int .i64 1)))), none⟩,
  ⟨some 56, .faddr 0 (.t 2), none⟩,
  ⟨some 57, .load false 1 (.t 56), none⟩,
  ⟨some 58, .len (.t 57), none⟩,
  ⟨some 59, .minmax false (.t 55) (.t 58), none⟩,
  ⟨some 60, .build ([.s (.slice none 0 0), .s (.int .i64 0)]) [(0, 1, .t 52), (1, 1, .t 59)], none⟩,
  ⟨none, .store 2 (.t 4) (.t 60), none⟩,
  ⟨some 5, .mv (.c (.p (.s (.bool true)))), none⟩]
abbrev r56_13 : List CO := [
  ⟨some 62, .bin .eql (.t 18) (.c (.p (.s (.int .i64 21)))), none⟩,
  ⟨some 61, .mv (.t 62), none⟩]
abbrev r56_14 : List CO := [
  ⟨some 63, .faddr 0 (.t 2), none⟩,
  ⟨some 64, .load false 1 (.t 63), none⟩,
  ⟨some 65, .load true 2 (.t 2), none⟩,
  ⟨some 66, .call (.c (.fn (.func 68) [] [])) [.t 65], none⟩,
  ⟨some 67, .build ([.s (.slice none 0 0), .s (.int .i64 0)]) [(0, 1, .t 64), (1, 1, .t 66)], none⟩,
  ⟨none, .store 2 (.t 4) (.t 67), none⟩,
  ⟨some 5, .mv (.c (.p (.s (.bool true)))), none⟩]
abbrev b56_14 : List (List Nat) := [[], [0], [], [2], [1, 3], [4, 3, 0, 1, 2, 3, 4], [5, 0, 1, 2, 3, 4, 5]]
abbrev r56_15 : List CO := [
  ⟨some 69, .bin .eql (.t 18) (.c (.p (.s (.int .i64 22)))), none⟩,
  ⟨some 68, .mv (.t 69), none⟩]
abbrev r56_16 : List CO := [
  ⟨some 70, .faddr 0 (.t 2), none⟩,
  ⟨some 71, .load false 1 (.t 70), none⟩,
  ⟨some 72, .load true 2 (.t 2), none⟩,
  ⟨some 73, .call (.c (.fn (.func 69) [] [])) [.t 72], none⟩,
  ⟨some 74, .build ([.s (.slice none 0 0), .s (.int .i64 0)]) [(0, 1, .t 71), (1, 1, .t 73)], none⟩,
  ⟨none, .store 2 (.t 4) (.t 74), none⟩,
  ⟨some 5, .mv (.c (.p (.s (.bool true)))), none⟩]
abbrev b56_16 : List (List Nat) := [[], [0], [], [2], [1, 3], [4, 3, 0, 1, 2, 3, 4], [5, 0, 1, 2, 3, 4, 5]]
abbrev r56_17 : List CO := [
  ⟨some 76, .bin .eql (.t 18) (.c (.p (.s (.int .i64 23)))), none⟩,
  ⟨some 75, .mv (.t 76), none⟩]
abbrev r56_18 : List CO := [
  ⟨some 77, .faddr 0 (.t 2), none⟩,
  ⟨some 78, .load false 1 (.t 77), none⟩,
  ⟨some 79, .build ([.s (.slice none 0 0), .s (.int .i64 0)]) [(0, 1, .t 78)], none⟩,
  ⟨none, .store 2 (.t 4) (.t 79), none⟩,
  ⟨some 5, .mv (.c (.p (.s (.bool true)))), none⟩]
abbrev r56_19 : List CO := [
  ⟨some 81, .bin .eql (.t 18) (.c (.p (.s (.int .i64 24)))), none⟩,
  ⟨some 80, .mv (.t 81), none⟩]
abbrev r56_20 : List CO := [
  ⟨some 82, .faddr 0 (.t 2), none⟩,
  ⟨some 83, .load false 1 (.t 82), none⟩,
  ⟨some 84, .faddr 0 (.t 2), none⟩,
  ⟨some 85, .load false 1 (.t 84), none⟩,
  ⟨some 86, .len (.t 85), none⟩,
  ⟨some 87, .build ([.s (.slice none 0 0), .s (.int .i64 0)]) [(0, 1, .t 83), (1, 1, .t 86)], none⟩,
  ⟨none, .store 2 (.t 4) (.t 87), none⟩,
  ⟨some 5, .mv (.c (.p (.s (.bool true)))), none⟩]
abbrev r56_21 : List CO := [
  ⟨some 89, .bin .eql (.t 18) (.c (.p (.s (.int .i64 27)))), none⟩,
  ⟨some 88, .mv (.t 89), none⟩]
abbrev r56_22 : List CO := [
  ⟨some 90, .mv (.t 6), none⟩,
  ⟨some 91, .mv (.t 7), none⟩,
  ⟨some 92, .mv (.t 7), none⟩,
  ⟨some 93, .len (.t 92), none⟩,
  ⟨some 94, .minmax false (.c (.p (.s (.int .i64 1)))) (.t 93), none⟩,
  ⟨some 95, .slice 1 (.t 91) (some (.t 94)) none, none⟩,
  ⟨some 96, .call (.c (.fn (.func 67) [] [])) [.t 90, .t 95], none⟩,
  ⟨none, .store 2 (.t 4) (.t 96), none⟩,
  ⟨some 5, .mv (.c (.p (.s (.bool true)))), none⟩]
abbrev r56_23 : List CO := [
  ⟨some 98, .bin .eql (.t 18) (.c (.p (.s (.int .i64 28)))), none⟩,
  ⟨some 97, .mv (.t 98), none⟩]
abbrev r56_24 : List CO := [
  ⟨some 99, .mv (.t 6), none⟩,
  ⟨some 100, .faddr 0 (.t 2), none⟩,
  ⟨some 101, .load false 1 (.t 100), none⟩,
  ⟨some 102, .load true 2 (.t 2), none⟩,
  ⟨some 103, .call (.c (.fn (.func 69) [] [])) [.t 102], none⟩,
  ⟨some 104, .slice 1 (.t 101) (some (.t 103)) none, none⟩,
  ⟨some 105, .call (.c (.fn (.func 67) [] [])) [.t 99, .t 104], none⟩,
  ⟨none, .store 2 (.t 4) (.t 105), none⟩,
  ⟨some 5, .mv (.c (.p (.s (.bool true)))), none⟩]
abbrev b56_24 : List (List Nat) := [[], [], [1], [], [3], [2, 4], [0, 5, 4], [6, 6, 0, 1, 2, 3, 4, 5, 6], [7, 0, 1, 2, 3, 4, 5, 6, 7]]
abbrev r56_25 : List CO := [
  ⟨some 107, .bin .eql (.t 18) (.c (.p (.s (.int .i64 29)))), none⟩,
  ⟨some 106, .mv (.t 107), none⟩]
abbrev r56_26 : List CO := [
  ⟨some 108, .mv (.t 7), none⟩,
  ⟨some 109, .call (.c (.fn (.func 67) [] [])) [.c (.p (.s (.slice none 0 0))), .t 108], none⟩,
  ⟨none, .store 2 (.t 4) (.t 109), none⟩,
  ⟨some 5, .mv (.c (.p (.s (.bool true)))), none⟩]
abbrev r56_27 : List CO := [
  ⟨some 111, .bin .eql (.t 18) (.c (.p (.s (.int .i64 30)))), none⟩,
  ⟨some 110, .mv (.t 111), none⟩]
abbrev r56_28 : List CO := [
  ⟨some 112, .mv (.t 6), none⟩,
  ⟨some 113, .call (.c (.fn (.func 67) [] [])) [.t 112, .c (.p (.s (.slice none 0 0)))], none⟩,
  ⟨none, .store 2 (.t 4) (.t 113), none⟩,
  ⟨some 5, .mv (.c (.p (.s (.bool true)))), none⟩]
abbrev k56_0 : CC := .seq (.reg r56_3) (.cond (.t 19) (.seq (.reg r56_4) (.rest [4, 5] (.ret))) (.seq (.reg r56_5) (.cond (.t 29) (.seq (.reg r56_6) (.ret)) (.seq (.reg r56_7) (.cond (.t 32) (.seq (.reg r56_8) (.rest [4, 5] (.ret))) (.seq (.reg r56_9) (.cond (.t 40) (.seq (.reg r56_10) (.rest [4, 5] (.ret))) (.seq (.reg r56_11) (.cond (.t 49) (.seq (.reg r56_12) (.rest [4, 5] (.ret))) (.seq (.reg r56_13) (.cond (.t 61) (.seq (.regd r56_14 b56_14) (.rest [4, 5] (.ret))) (.seq (.reg r56_15) (.cond (.t 68) (.seq (.regd r56_16 b56_16) (.rest [4, 5] (.ret))) (.seq (.reg r56_17) (.cond (.t 75) (.seq (.reg r56_18) (.rest [4, 5] (.ret))) (.seq (.reg r56_19) (.cond (.t 80) (.seq (.reg r56_20) (.rest [4, 5] (.ret))) (.seq (.reg r56_21) (.cond (.t 88) (.seq (.reg r56_22) (.rest [4, 5] (.ret))) (.seq (.reg r56_23) (.cond (.t 97) (.seq (.regd r56_24 b56_24) (.rest [4, 5] (.ret))) (.seq (.reg r56_25) (.cond (.t 106) (.seq (.reg r56_26) (.rest [4, 5] (.ret))) (.seq (.reg r56_27) (.cond (.t 110) (.seq (.reg r56_28) (.rest [4, 5] (.ret))) (.skip))))))))))))))))))))))))))
abbrev r56_29 : List CO := [
  ⟨some 114, .load true 2 (.t 2), none⟩,
  ⟨none, .store 2 (.t 4) (.t 114), none⟩,
  ⟨some 5, .mv (.c (.p (.s (.bool false)))), none⟩]
abbrev c56 : CC := .seq (.reg r56_0) (.seq (.regd r56_1 b56_1) (.rest [1, 2, 4, 6, 7] (.seq (.seq (.reg r56_2) (.block 0 k56_0)) (.rest [2, 4] (.seq (.reg r56_29) (.ret))))))
theorem F56 : Fun Tryd.prog 56 115 c56 [.cell 4 true 2, .tmp 5] 2 := ⟨⟨Tryd.f56, _, Tryd.func56, rfl, by kernel_rfl, Tryd.ntmps56, by kernel_rfl, by kernel_rfl⟩, by decide⟩

/-- linnet/linnetref12.Same -/
abbrev r57_0 : List CO := [
  ⟨some 2, .box (.t 0), none⟩,
  ⟨some 3, .box (.t 1), none⟩,
  ⟨some 4, .mv (.c (.p (.s (.bool false)))), none⟩]
abbrev r57_1 : List CO := [
  ⟨some 5, .faddr 1 (.t 2), none⟩,
  ⟨some 6, .load false 1 (.t 5), none⟩,
  ⟨some 7, .faddr 1 (.t 3), none⟩,
  ⟨some 8, .load false 1 (.t 7), none⟩,
  ⟨some 9, .bin .eql (.t 6) (.t 8), none⟩,
  ⟨some 10, .mv (.t 9), none⟩,
  ⟨some 11, .faddr 0 (.t 2), some (10, true)⟩,
  ⟨some 12, .load false 1 (.t 11), some (10, true)⟩,
  ⟨some 13, .toStr (.t 12), some (10, true)⟩,
  ⟨some 14, .faddr 0 (.t 3), some (10, true)⟩,
  ⟨some 15, .load false 1 (.t 14), some (10, true)⟩,
  ⟨some 16, .toStr (.t 15), some (10, true)⟩,
  ⟨some 17, .bin .eql (.t 13) (.t 16), some (10, true)⟩,
  ⟨some 18, .pick (.t 10) (.t 17) (.c (.p (.s (.bool false)))), none⟩,
  ⟨some 4, .mv (.t 18), none⟩]
abbrev c57 : CC := .seq (.reg r57_0) (.seq (.reg r57_1) (.rest [4] (.ret)))
theorem F57 : Fun Tryd.prog 57 19 c57 [.tmp 4] 2 := ⟨⟨Tryd.f57, _, Tryd.func57, rfl, by kernel_rfl, Tryd.ntmps57, by kernel_rfl, by kernel_rfl⟩, by decide⟩

/-- (*linnet/editor.work).keep -/
abbrev r58_0 : List CO := [
  ⟨some 3, .box (.t 1), none⟩]
abbrev r58_1 : List CO := [
  ⟨some 4, .mv (.t 0), none⟩,
  ⟨some 5, .mv (.t 0), none⟩,
  ⟨some 6, .nilchk (.t 5), none⟩,
  ⟨some 7, .faddr 5 (.t 6), none⟩,
  ⟨some 8, .load false 1 (.t 7), none⟩,
  ⟨some 9, .load true 3 (.t 3), none⟩,
  ⟨some 10, .bslice 3 1 ([.s (.int .i64 0), .s (.int .i64 0), .s (.slice none 0 0)]) [(0, .t 9)], none⟩,
  ⟨some 11, .append 3 40 ([.s (.int .i64 0), .s (.int .i64 0), .s (.slice none 0 0)]) (.t 8) (.t 10), none⟩,
  ⟨some 12, .nilchk (.t 4), none⟩,
  ⟨some 13, .faddr 5 (.t 12), none⟩,
  ⟨none, .store 1 (.t 13) (.t 11), none⟩]
abbrev b58_1 : List (List Nat) := [[], [], [1], [2], [3], [], [5], [4, 6], [0, 0, 1, 2, 3, 4, 5, 6, 7], [8, 0, 1, 2, 3, 4, 5, 6, 7], [9, 7, 7, 0, 1, 2, 3, 4, 5, 6, 7]]
abbrev r58_2 : List CO := [
  ⟨some 14, .mv (.t 0), none⟩,
  ⟨some 15, .nilchk (.t 14), none⟩,
  ⟨some 16, .faddr 0 (.t 15), none⟩,
  ⟨some 17, .faddr 3 (.t 16), none⟩,
  ⟨none, .store 1 (.t 17) (.c (.p (.s (.bool false)))), none⟩]
abbrev c58 : CC := .seq (.reg r58_0) (.seq (.regd r58_1 b58_1) (.rest [0] (.reg r58_2)))
theorem F58 : Fun Tryd.prog 58 18 c58 [] 2 := ⟨⟨Tryd.f58, _, Tryd.func58, rfl, by kernel_rfl, Tryd.ntmps58, by kernel_rfl, by kernel_rfl⟩, by decide⟩

/-- bytes.Clone -/
abbrev r59_0 : List CO := [
  ⟨some 2, .mv (.c (.p (.s (.slice none 0 0)))), none⟩]
abbrev r59_1 : List CO := [
  ⟨some 3, .mv (.t 0), none⟩,
  ⟨some 4, .isnil false (.t 3), none⟩]
abbrev r59_2 : List CO := [
  ⟨some 2, .mv (.c (.p (.s (.slice none 0 0)))), none⟩]
abbrev r59_3 : List CO := [
  ⟨some 5, .bslice 1 0 ([.s (.int .u8 0)]) [], none⟩,
  ⟨some 6, .mv (.t 0), none⟩,
  ⟨some 7, .append 1 1 ([.s (.int .u8 0)]) (.t 5) (.t 6), none⟩,
  ⟨some 2, .mv (.t 7), none⟩]
abbrev c59 : CC := .seq (.reg r59_0) (.seq (.seq (.reg r59_1) (.cond (.t 4) (.seq (.reg r59_2) (.ret)) (.skip))) (.seq (.reg r59_3) (.rest [2] (.ret))))
theorem F59 : Fun Tryd.prog 59 8 c59 [.tmp 2] 1 := ⟨⟨Tryd.f59, _, Tryd.func59, rfl, by kernel_rfl, Tryd.ntmps59, by kernel_rfl, by kernel_rfl⟩, by decide⟩

/-- linnet/renew.Keys$1 -/
abbrev r61_0 : List CO := [
  ⟨some 6, .mv (.t 0), none⟩,
  ⟨some 7, .len (.t 6), none⟩,
  ⟨some 8, .mv (.c (.p (.s (.int .i64 0)))), none⟩]
abbrev r61_1 : List CO := [
  ⟨some 9, .bin .lss (.t 8) (.t 7), none⟩]
abbrev r61_2 : List CO := [
  ⟨some 10, .iaddrS 1 (.t 6) (.t 8), none⟩,
  ⟨some 11, .load false 1 (.t 10), none⟩,
  ⟨some 5, .mv (.t 11), none⟩]
abbrev r61_3 : List CO := [
  ⟨some 12, .load true 62 (.t 1), none⟩,
  ⟨some 13, .mv (.t 5), none⟩,
  ⟨some 14, .call (.c (.fn (.func 62) [] [])) [.t 12, .t 13], none⟩,
  ⟨some 15, .un .not (.t 14), none⟩]
abbrev r61_4 : List CO := [
  ⟨some 16, .load false 1 (.t 2), none⟩,
  ⟨some 17, .load true 62 (.t 1), none⟩,
  ⟨some 18, .build ([.s (.int .i64 0), .s (.int .i64 0)]) [(0, 1, .c (.p (.s (.int .i64 14)))), (1, 1, .c (.p (.s (.int .i64 1))))], none⟩,
  ⟨some 19, .bslice 2 1 ([.s (.int .i64 0), .s (.int .i64 0)]) [(0, .t 18)], none⟩,
  ⟨some 20, .call (.c (.fn (.func 63) [] [])) [.t 17, .t 19], none⟩,
  ⟨some 21, .append 1 1 ([.s (.int .u8 0)]) (.t 16) (.t 20), none⟩,
  ⟨none, .store 1 (.t 2) (.t 21), none⟩]
abbrev b61_4 : List (List Nat) := [[], [], [], [2], [1, 3], [0, 4, 4], [5, 5, 0, 1, 2, 3, 4, 5]]
abbrev r61_5 : List CO := [
  ⟨some 22, .load false 1 (.t 2), none⟩,
  ⟨some 23, .mv (.t 5), none⟩,
  ⟨some 24, .bslice 1 1 ([.s (.int .u8 0)]) [(0, .t 23)], none⟩,
  ⟨some 25, .append 1 1 ([.s (.int .u8 0)]) (.t 22) (.t 24), none⟩,
  ⟨none, .store 1 (.t 2) (.t 25), none⟩]
abbrev k61_1 : CC := .seq (.reg r61_2) (.seq (.seq (.reg r61_3) (.rest [1, 2, 5, 6, 7, 8, 15] (.cond (.t 15) (.regd r61_4 b61_4) (.skip)))) (.rest [1, 2, 5, 6, 7, 8] (.reg r61_5)))
abbrev r61_6 : List CO := [
  ⟨some 26, .bin .add (.t 8) (.c (.p (.s (.int .i64 1)))), none⟩,
  ⟨some 8, .mv (.t 26), none⟩]
abbrev l61_9 : CC := .seq (.reg r61_1) (.seq (.cond (.t 9) (.skip) (.exit 0)) (.seq (.block 1 k61_1) (.rest [1, 2, 6, 7, 8] (.reg r61_6))))
abbrev k61_0 : CC := .loop l61_9
abbrev c61 : CC := .seq (.reg r61_0) (.block 0 k61_0)
theorem F61 : Fun Tryd.prog 61 27 c61 [] 3 := ⟨⟨Tryd.f61, _, Tryd.func61, rfl, by kernel_rfl, Tryd.ntmps61, by kernel_rfl, by kernel_rfl⟩, by decide⟩

/-- linnet/renew.Plain -/
abbrev r62_0 : List CO := [
  ⟨some 2, .box (.t 0), none⟩,
  ⟨some 4, .mv (.c (.p (.s (.bool false)))), none⟩]
abbrev r62_1 : List CO := [
  ⟨some 6, .load true 62 (.t 2), none⟩,
  ⟨some 7, .mv (.t 1), none⟩,
  ⟨some 8, .call (.c (.fn (.func 30) [] [])) [.t 6, .t 7], none⟩,
  ⟨some 5, .mv (.t 8), none⟩]
abbrev r62_2 : List CO := [
  ⟨some 9, .mv (.t 5), none⟩,
  ⟨some 10, .bin .eql (.t 9) (.c (.p (.s (.int .i64 0)))), none⟩,
  ⟨some 11, .mv (.t 10), none⟩,
  ⟨some 12, .mv (.t 5), some (11, false)⟩,
  ⟨some 13, .bin .eql (.t 12) (.c (.p (.s (.int .i64 17)))), some (11, false)⟩,
  ⟨some 14, .pick (.t 11) (.c (.p (.s (.bool true)))) (.t 13), none⟩,
  ⟨some 15, .mv (.t 14), none⟩,
  ⟨some 16, .mv (.t 5), some (15, false)⟩,
  ⟨some 17, .bin .eql (.t 16) (.c (.p (.s (.int .i64 18)))), some (15, false)⟩,
  ⟨some 18, .pick (.t 15) (.c (.p (.s (.bool true)))) (.t 17), none⟩,
  ⟨some 4, .mv (.t 18), none⟩]
abbrev c62 : CC := .seq (.reg r62_0) (.seq (.reg r62_1) (.rest [5] (.seq (.reg r62_2) (.rest [4] (.ret)))))
theorem F62 : Fun Tryd.prog 62 19 c62 [.tmp 4] 2 := ⟨⟨Tryd.f62, _, Tryd.func62, rfl, by kernel_rfl, Tryd.ntmps62, by kernel_rfl, by kernel_rfl⟩, by decide⟩

/-- linnet/renew.first -/
abbrev r63_0 : List CO := [
  ⟨some 2, .box (.t 0), none⟩,
  ⟨some 4, .mv (.c (.p (.s (.slice none 0 0)))), none⟩]
abbrev r63_1 : List CO := [
  ⟨some 9, .mv (.t 1), none⟩,
  ⟨some 10, .len (.t 9), none⟩,
  ⟨some 11, .mv (.c (.p (.s (.int .i64 0)))), none⟩]
abbrev r63_2 : List CO := [
  ⟨some 12, .bin .lss (.t 11) (.t 10), none⟩]
abbrev r63_3 : List CO := [
  ⟨some 13, .iaddrS 2 (.t 9) (.t 11), none⟩,
  ⟨some 14, .load true 2 (.t 13), none⟩,
  ⟨some 6, .alloc ([.s (.int .i64 0), .s (.int .i64 0)]), none⟩,
  ⟨none, .store 2 (.t 6) (.t 14), none⟩]
abbrev r63_4 : List CO := [
  ⟨some 16, .load true 62 (.t 2), none⟩,
  ⟨some 17, .faddr 0 (.t 6), none⟩,
  ⟨some 18, .load false 1 (.t 17), none⟩,
  ⟨some 19, .call (.c (.fn (.func 87) [] [])) [.t 16, .t 18], none⟩,
  ⟨some 15, .mv (.t 19), none⟩,
  ⟨some 20, .extract 0 (.t 15), none⟩,
  ⟨some 21, .extract 1 (.t 15), none⟩,
  ⟨some 7, .mv (.t 20), none⟩,
  ⟨some 8, .mv (.t 21), none⟩]
abbrev r63_5 : List CO := [
  ⟨some 22, .mv (.t 8), none⟩]
abbrev r63_6 : List CO := [
  ⟨some 23, .mv (.t 7), none⟩,
  ⟨some 24, .bslice 1 1 ([.s (.int .u8 0)]) [(0, .t 23)], none⟩,
  ⟨some 25, .faddr 1 (.t 6), none⟩,
  ⟨some 26, .load false 1 (.t 25), none⟩,
  ⟨some 27, .call (.c (.fn (.func 88) [] [])) [.t 24, .t 26], none⟩,
  ⟨some 4, .mv (.t 27), none⟩]
abbrev k63_1 : CC := .seq (.reg r63_3) (.rest [2, 6, 9, 10, 11] (.seq (.reg r63_4) (.rest [2, 6, 7, 8, 9, 10, 11] (.seq (.reg r63_5) (.cond (.t 22) (.seq (.reg r63_6) (.rest [4] (.ret))) (.skip))))))
abbrev r63_7 : List CO := [
  ⟨some 28, .bin .add (.t 11) (.c (.p (.s (.int .i64 1)))), none⟩,
  ⟨some 11, .mv (.t 28), none⟩]
abbrev l63_9 : CC := .seq (.reg r63_2) (.seq (.cond (.t 12) (.skip) (.exit 0)) (.seq (.block 1 k63_1) (.rest [2, 9, 10, 11] (.reg r63_7))))
abbrev k63_0 : CC := .loop l63_9
abbrev r63_8 : List CO := [
  ⟨some 4, .mv (.c (.p (.s (.slice none 0 0)))), none⟩]
abbrev c63 : CC := .seq (.reg r63_0) (.seq (.seq (.reg r63_1) (.block 0 k63_0)) (.rest [] (.seq (.reg r63_8) (.ret))))
theorem F63 : Fun Tryd.prog 63 29 c63 [.tmp 4] 2 := ⟨⟨Tryd.f63, _, Tryd.func63, rfl, by kernel_rfl, Tryd.ntmps63, by kernel_rfl, by kernel_rfl⟩, by decide⟩

/-- linnet/linnetref14.Plain -/
abbrev r64_0 : List CO := [
  ⟨some 2, .box (.t 0), none⟩,
  ⟨some 4, .mv (.c (.p (.s (.bool false)))), none⟩]
abbrev r64_1 : List CO := [
  ⟨some 6, .load true 62 (.t 2), none⟩,
  ⟨some 7, .mv (.t 1), none⟩,
  ⟨some 8, .call (.c (.fn (.func 40) [] [])) [.t 6, .t 7], none⟩,
  ⟨some 5, .mv (.t 8), none⟩]
abbrev r64_2 : List CO := [
  ⟨some 9, .mv (.t 5), none⟩,
  ⟨some 10, .bin .eql (.t 9) (.c (.p (.s (.int .i64 0)))), none⟩,
  ⟨some 11, .mv (.t 10), none⟩,
  ⟨some 12, .mv (.t 5), some (11, false)⟩,
  ⟨some 13, .bin .eql (.t 12) (.c (.p (.s (.int .i64 17)))), some (11, false)⟩,
  ⟨some 14, .pick (.t 11) (.c (.p (.s (.bool true)))) (.t 13), none⟩,
  ⟨some 15, .mv (.t 14), none⟩,
  ⟨some 16, .mv (.t 5), some (15, false)⟩,
  ⟨some 17, .bin .eql (.t 16) (.c (.p (.s (.int .i64 18)))), some (15, false)⟩,
  ⟨some 18, .pick (.t 15) (.c (.p (.s (.bool true)))) (.t 17), none⟩,
  ⟨some 4, .mv (.t 18), none⟩]
abbrev c64 : CC := .seq (.reg r64_0) (.seq (.reg r64_1) (.rest [5] (.seq (.reg r64_2) (.rest [4] (.ret)))))
theorem F64 : Fun Tryd.prog 64 19 c64 [.tmp 4] 2 := ⟨⟨Tryd.f64, _, Tryd.func64, rfl, by kernel_rfl, Tryd.ntmps64, by kernel_rfl, by kernel_rfl⟩, by decide⟩

/-- linnet/linnetref08.Key -/
abbrev r65_0 : List CO := [
  ⟨some 2, .box (.t 0), none⟩,
  ⟨some 4, .mv (.c (.p (.s (.int .i64 0)))), none⟩]
abbrev r65_1 : List CO := [
  ⟨some 5, .mv (.c (.p (.s (.int .i64 0)))), none⟩]
abbrev r65_2 : List CO := [
  ⟨some 6, .mv (.t 5), none⟩,
  ⟨some 7, .bin .lss (.t 6) (.c (.p (.s (.int .i64 256)))), none⟩]
abbrev r65_4 : List CO := [
  ⟨some 10, .mv (.t 1), none⟩,
  ⟨some 11, .bin .geq (.t 10) (.c (.p (.s (.int .i64 1)))), none⟩,
  ⟨some 12, .mv (.t 11), none⟩,
  ⟨some 13, .load true 62 (.t 2), some (12, true)⟩,
  ⟨some 14, .mv (.t 5), some (12, true)⟩,
  ⟨some 15, .toInt .u8 (.t 14), some (12, true)⟩,
  ⟨some 16, .call (.c (.fn (.func 40) [] [])) [.t 13, .t 15], some (12, true)⟩,
  ⟨some 17, .mv (.t 1), some (12, true)⟩,
  ⟨some 18, .bin .eql (.t 16) (.t 17), some (12, true)⟩,
  ⟨some 19, .pick (.t 12) (.t 18) (.c (.p (.s (.bool false)))), none⟩]
abbrev r65_5 : List CO := [
  ⟨some 20, .mv (.t 5), none⟩,
  ⟨some 4, .mv (.t 20), none⟩]
abbrev k65_1 : CC := .seq (.reg r65_4) (.rest [1, 2, 5, 19] (.cond (.t 19) (.seq (.reg r65_5) (.ret)) (.skip)))
abbrev r65_3 : List CO := [
  ⟨some 8, .mv (.t 5), none⟩,
  ⟨some 9, .bin .add (.t 8) (.c (.p (.s (.int .i64 1)))), none⟩,
  ⟨some 5, .mv (.t 9), none⟩]
abbrev l65_7 : CC := .seq (.seq (.reg r65_2) (.cond (.t 7) (.skip) (.exit 0))) (.seq (.block 1 k65_1) (.rest [1, 2, 5] (.reg r65_3)))
abbrev k65_0 : CC := .loop l65_7
abbrev r65_6 : List CO := [
  ⟨some 4, .mv (.c (.p (.s (.int .i64 256)))), none⟩]
abbrev c65 : CC := .seq (.reg r65_0) (.seq (.seq (.reg r65_1) (.block 0 k65_0)) (.rest [] (.seq (.reg r65_6) (.ret))))
theorem F65 : Fun Tryd.prog 65 21 c65 [.tmp 4] 2 := ⟨⟨Tryd.f65, _, Tryd.func65, rfl, by kernel_rfl, Tryd.ntmps65, by kernel_rfl, by kernel_rfl⟩, by decide⟩

/-- linnet/linnetref12.Type -/
abbrev r66_0 : List CO := [
  ⟨some 4, .box (.t 0), none⟩,
  ⟨some 8, .alloc ([.s (.slice none 0 0), .s (.int .i64 0)]), none⟩,
  ⟨some 9, .mv (.c (.p (.s (.bool false)))), none⟩]
abbrev r66_1 : List CO := [
  ⟨some 12, .faddr 0 (.t 4), none⟩,
  ⟨some 13, .load false 1 (.t 12), none⟩,
  ⟨some 14, .faddr 1 (.t 4), none⟩,
  ⟨some 15, .load false 1 (.t 14), none⟩,
  ⟨some 16, .slice 1 (.t 13) none (some (.t 15)), none⟩,
  ⟨some 17, .faddr 0 (.t 4), none⟩,
  ⟨some 18, .load false 1 (.t 17), none⟩,
  ⟨some 19, .faddr 1 (.t 4), none⟩,
  ⟨some 20, .load false 1 (.t 19), none⟩,
  ⟨some 21, .slice 1 (.t 18) (some (.t 20)) none, none⟩,
  ⟨some 10, .mv (.t 16), none⟩,
  ⟨some 11, .mv (.t 21), none⟩]
abbrev b66_1 : List (List Nat) := [[], [0], [], [2], [1, 3], [], [5], [], [7], [6, 8], [4, 0, 1, 2, 3, 4], [9, 10, 0, 1, 2, 3, 4, 5, 6, 7, 8, 9, 10]]
abbrev r66_2 : List CO := [
  ⟨some 22, .mv (.t 2), none⟩,
  ⟨some 23, .mv (.t 22), none⟩,
  ⟨some 24, .mv (.t 11), some (23, true)⟩,
  ⟨some 25, .len (.t 24), some (23, true)⟩,
  ⟨some 26, .bin .gtr (.t 25) (.c (.p (.s (.int .i64 0)))), some (23, true)⟩,
  ⟨some 27, .pick (.t 23) (.t 26) (.c (.p (.s (.bool false)))), none⟩]
abbrev r66_3 : List CO := [
  ⟨some 28, .bslice 1 0 ([.s (.int .u8 0)]) [], none⟩,
  ⟨some 29, .mv (.t 10), none⟩,
  ⟨some 30, .append 1 1 ([.s (.int .u8 0)]) (.t 28) (.t 29), none⟩,
  ⟨some 31, .mv (.t 3), none⟩,
  ⟨some 32, .bslice 1 1 ([.s (.int .u8 0)]) [(0, .t 31)], none⟩,
  ⟨some 33, .append 1 1 ([.s (.int .u8 0)]) (.t 30) (.t 32), none⟩,
  ⟨some 34, .mv (.t 11), none⟩,
  ⟨some 35, .slice 1 (.t 34) (some (.c (.p (.s (.int .i64 1))))) none, none⟩,
  ⟨some 36, .call (.c (.fn (.func 67) [] [])) [.t 33, .t 35], none⟩,
  ⟨none, .store 2 (.t 8) (.t 36), none⟩,
  ⟨some 9, .mv (.c (.p (.s (.bool true)))), none⟩]
abbrev b66_3 : List (List Nat) := [[], [], [0, 1], [], [3], [2, 4, 2], [], [6], [5, 7, 5], [8, 8, 0, 1, 2, 3, 4, 5, 6, 7, 8], [9, 0, 1, 2, 3, 4, 5, 6, 7, 8, 9]]
abbrev r66_4 : List CO := [
  ⟨some 37, .faddr 0 (.t 4), none⟩,
  ⟨some 38, .load false 1 (.t 37), none⟩,
  ⟨some 39, .len (.t 38), none⟩,
  ⟨some 40, .mv (.t 1), none⟩,
  ⟨some 41, .bin .geq (.t 39) (.t 40), none⟩,
  ⟨some 42, .mv (.t 41), none⟩,
  ⟨some 43, .faddr 0 (.t 4), some (42, false)⟩,
  ⟨some 44, .load false 1 (.t 43), some (42, false)⟩,
  ⟨some 45, .len (.t 44), some (42, false)⟩,
  ⟨some 46, .bin .geq (.t 45) (.c (.p (.s (.int .i64 4096)))), some (42, false)⟩,
  ⟨some 47, .pick (.t 42) (.c (.p (.s (.bool true)))) (.t 46), none⟩]
abbrev r66_5 : List CO := [
  ⟨some 48, .load true 2 (.t 4), none⟩,
  ⟨none, .store 2 (.t 8) (.t 48), none⟩,
  ⟨some 9, .mv (.c (.p (.s (.bool false)))), none⟩]
abbrev r66_6 : List CO := [
  ⟨some 49, .bslice 1 0 ([.s (.int .u8 0)]) [], none⟩,
  ⟨some 50, .mv (.t 10), none⟩,
  ⟨some 51, .append 1 1 ([.s (.int .u8 0)]) (.t 49) (.t 50), none⟩,
  ⟨some 52, .mv (.t 3), none⟩,
  ⟨some 53, .bslice 1 1 ([.s (.int .u8 0)]) [(0, .t 52)], none⟩,
  ⟨some 54, .append 1 1 ([.s (.int .u8 0)]) (.t 51) (.t 53), none⟩,
  ⟨some 55, .mv (.t 11), none⟩,
  ⟨some 56, .call (.c (.fn (.func 67) [] [])) [.t 54, .t 55], none⟩,
  ⟨none, .store 2 (.t 8) (.t 56), none⟩,
  ⟨some 9, .mv (.c (.p (.s (.bool true)))), none⟩]
abbrev c66 : CC := .seq (.reg r66_0) (.seq (.regd r66_1 b66_1) (.rest [1, 2, 3, 4, 8, 10, 11] (.seq (.seq (.reg r66_2) (.rest [1, 3, 4, 8, 10, 11, 27] (.cond (.t 27) (.seq (.regd r66_3 b66_3) (.rest [8, 9] (.ret))) (.skip)))) (.rest [1, 3, 4, 8, 10, 11] (.seq (.seq (.reg r66_4) (.rest [3, 4, 8, 10, 11, 47] (.cond (.t 47) (.seq (.reg r66_5) (.ret)) (.skip)))) (.rest [3, 8, 10, 11] (.seq (.reg r66_6) (.rest [8, 9] (.ret)))))))))
theorem F66 : Fun Tryd.prog 66 57 c66 [.cell 8 true 2, .tmp 9] 4 := ⟨⟨Tryd.f66, _, Tryd.func66, rfl, by kernel_rfl, Tryd.ntmps66, by kernel_rfl, by kernel_rfl⟩, by decide⟩

/-- linnet/linnetref12.of -/
abbrev r67_0 : List CO := [
  ⟨some 4, .alloc ([.s (.slice none 0 0), .s (.int .i64 0)]), none⟩]
abbrev r67_1 : List CO := [
  ⟨some 5, .bslice 1 0 ([.s (.int .u8 0)]) [], none⟩,
  ⟨some 6, .mv (.t 0), none⟩,
  ⟨some 7, .append 1 1 ([.s (.int .u8 0)]) (.t 5) (.t 6), none⟩,
  ⟨some 8, .mv (.t 1), none⟩,
  ⟨some 9, .append 1 1 ([.s (.int .u8 0)]) (.t 7) (.t 8), none⟩,
  ⟨some 10, .mv (.t 0), none⟩,
  ⟨some 11, .len (.t 10), none⟩,
  ⟨some 12, .build ([.s (.slice none 0 0), .s (.int .i64 0)]) [(0, 1, .t 9), (1, 1, .t 11)], none⟩,
  ⟨none, .store 2 (.t 4) (.t 12), none⟩]
abbrev c67 : CC := .seq (.reg r67_0) (.seq (.reg r67_1) (.rest [4] (.ret)))
theorem F67 : Fun Tryd.prog 67 13 c67 [.cell 4 true 2] 2 := ⟨⟨Tryd.f67, _, Tryd.func67, rfl, by kernel_rfl, Tryd.ntmps67, by kernel_rfl, by kernel_rfl⟩, by decide⟩

/-- linnet/linnetref12.Back -/
abbrev r68_0 : List CO := [
  ⟨some 1, .box (.t 0), none⟩,
  ⟨some 2, .mv (.c (.p (.s (.int .i64 0)))), none⟩]
abbrev r68_1 : List CO := [
  ⟨some 4, .faddr 1 (.t 1), none⟩,
  ⟨some 5, .load false 1 (.t 4), none⟩,
  ⟨some 3, .mv (.t 5), none⟩]
abbrev r68_2 : List CO := [
  ⟨some 6, .mv (.t 3), none⟩,
  ⟨some 7, .bin .gtr (.t 6) (.c (.p (.s (.int .i64 0)))), none⟩,
  ⟨some 8, .mv (.t 7), none⟩,
  ⟨some 9, .faddr 0 (.t 1), some (8, true)⟩,
  ⟨some 10, .load false 1 (.t 9), some (8, true)⟩,
  ⟨some 11, .mv (.t 3), some (8, true)⟩,
  ⟨some 12, .bin .sub (.t 11) (.c (.p (.s (.int .i64 1)))), some (8, true)⟩,
  ⟨some 13, .iaddrS 1 (.t 10) (.t 12), some (8, true)⟩,
  ⟨some 14, .load false 1 (.t 13), some (8, true)⟩,
  ⟨some 15, .call (.c (.fn (.func 89) [] [])) [.t 14], some (8, true)⟩,
  ⟨some 16, .pick (.t 8) (.t 15) (.c (.p (.s (.bool false)))), none⟩]
abbrev r68_3 : List CO := [
  ⟨some 17, .mv (.t 3), none⟩,
  ⟨some 18, .bin .sub (.t 17) (.c (.p (.s (.int .i64 1)))), none⟩,
  ⟨some 3, .mv (.t 18), none⟩]
abbrev k68_1 : CC := .reg r68_3
abbrev l68_5 : CC := .seq (.seq (.reg r68_2) (.rest [1, 3, 16] (.cond (.t 16) (.skip) (.exit 0)))) (.rest [1, 3] (.block 1 k68_1))
abbrev k68_0 : CC := .loop l68_5
abbrev r68_4 : List CO := [
  ⟨some 19, .mv (.t 3), none⟩,
  ⟨some 20, .bin .gtr (.t 19) (.c (.p (.s (.int .i64 0)))), none⟩,
  ⟨some 21, .mv (.t 20), none⟩,
  ⟨some 22, .faddr 0 (.t 1), some (21, true)⟩,
  ⟨some 23, .load false 1 (.t 22), some (21, true)⟩,
  ⟨some 24, .mv (.t 3), some (21, true)⟩,
  ⟨some 25, .bin .sub (.t 24) (.c (.p (.s (.int .i64 1)))), some (21, true)⟩,
  ⟨some 26, .iaddrS 1 (.t 23) (.t 25), some (21, true)⟩,
  ⟨some 27, .load false 1 (.t 26), some (21, true)⟩,
  ⟨some 28, .call (.c (.fn (.func 89) [] [])) [.t 27], some (21, true)⟩,
  ⟨some 29, .un .not (.t 28), some (21, true)⟩,
  ⟨some 30, .pick (.t 21) (.t 29) (.c (.p (.s (.bool false)))), none⟩]
abbrev r68_5 : List CO := [
  ⟨some 31, .mv (.t 3), none⟩,
  ⟨some 32, .bin .sub (.t 31) (.c (.p (.s (.int .i64 1)))), none⟩,
  ⟨some 3, .mv (.t 32), none⟩]
abbrev k68_3 : CC := .reg r68_5
abbrev l68_10 : CC := .seq (.seq (.reg r68_4) (.rest [1, 3, 30] (.cond (.t 30) (.skip) (.exit 2)))) (.rest [1, 3] (.block 3 k68_3))
abbrev k68_2 : CC := .loop l68_10
abbrev r68_6 : List CO := [
  ⟨some 33, .mv (.t 3), none⟩,
  ⟨some 2, .mv (.t 33), none⟩]
abbrev c68 : CC := .seq (.reg r68_0) (.seq (.reg r68_1) (.seq (.block 0 k68_0) (.rest [1, 3] (.seq (.block 2 k68_2) (.rest [3] (.seq (.reg r68_6) (.ret)))))))
theorem F68 : Fun Tryd.prog 68 34 c68 [.tmp 2] 1 := ⟨⟨Tryd.f68, _, Tryd.func68, rfl, by kernel_rfl, Tryd.ntmps68, by kernel_rfl, by kernel_rfl⟩, by decide⟩

/-- linnet/linnetref12.On -/
abbrev r69_0 : List CO := [
  ⟨some 1, .box (.t 0), none⟩,
  ⟨some 2, .mv (.c (.p (.s (.int .i64 0)))), none⟩]
abbrev r69_1 : List CO := [
  ⟨some 4, .faddr 1 (.t 1), none⟩,
  ⟨some 5, .load false 1 (.t 4), none⟩,
  ⟨some 3, .mv (.t 5), none⟩]
abbrev r69_2 : List CO := [
  ⟨some 6, .mv (.t 3), none⟩,
  ⟨some 7, .faddr 0 (.t 1), none⟩,
  ⟨some 8, .load false 1 (.t 7), none⟩,
  ⟨some 9, .len (.t 8), none⟩,
  ⟨some 10, .bin .lss (.t 6) (.t 9), none⟩,
  ⟨some 11, .mv (.t 10), none⟩,
  ⟨some 12, .faddr 0 (.t 1), some (11, true)⟩,
  ⟨some 13, .load false 1 (.t 12), some (11, true)⟩,
  ⟨some 14, .mv (.t 3), some (11, true)⟩,
  ⟨some 15, .iaddrS 1 (.t 13) (.t 14), some (11, true)⟩,
  ⟨some 16, .load false 1 (.t 15), some (11, true)⟩,
  ⟨some 17, .call (.c (.fn (.func 89) [] [])) [.t 16], some (11, true)⟩,
  ⟨some 18, .un .not (.t 17), some (11, true)⟩,
  ⟨some 19, .pick (.t 11) (.t 18) (.c (.p (.s (.bool false)))), none⟩]
abbrev r69_3 : List CO := [
  ⟨some 20, .mv (.t 3), none⟩,
  ⟨some 21, .bin .add (.t 20) (.c (.p (.s (.int .i64 1)))), none⟩,
  ⟨some 3, .mv (.t 21), none⟩]
abbrev k69_1 : CC := .reg r69_3
abbrev l69_5 : CC := .seq (.seq (.reg r69_2) (.rest [1, 3, 19] (.cond (.t 19) (.skip) (.exit 0)))) (.rest [1, 3] (.block 1 k69_1))
abbrev k69_0 : CC := .loop l69_5
abbrev r69_4 : List CO := [
  ⟨some 22, .mv (.t 3), none⟩,
  ⟨some 23, .faddr 0 (.t 1), none⟩,
  ⟨some 24, .load false 1 (.t 23), none⟩,
  ⟨some 25, .len (.t 24), none⟩,
  ⟨some 26, .bin .lss (.t 22) (.t 25), none⟩,
  ⟨some 27, .mv (.t 26), none⟩,
  ⟨some 28, .faddr 0 (.t 1), some (27, true)⟩,
  ⟨some 29, .load false 1 (.t 28), some (27, true)⟩,
  ⟨some 30, .mv (.t 3), some (27, true)⟩,
  ⟨some 31, .iaddrS 1 (.t 29) (.t 30), some (27, true)⟩,
  ⟨some 32, .load false 1 (.t 31), some (27, true)⟩,
  ⟨some 33, .call (.c (.fn (.func 89) [] [])) [.t 32], some (27, true)⟩,
  ⟨some 34, .pick (.t 27) (.t 33) (.c (.p (.s (.bool false)))), none⟩]
abbrev r69_5 : List CO := [
  ⟨some 35, .mv (.t 3), none⟩,
  ⟨some 36, .bin .add (.t 35) (.c (.p (.s (.int .i64 1)))), none⟩,
  ⟨some 3, .mv (.t 36), none⟩]
abbrev k69_3 : CC := .reg r69_5
abbrev l69_10 : CC := .seq (.seq (.reg r69_4) (.rest [1, 3, 34] (.cond (.t 34) (.skip) (.exit 2)))) (.rest [1, 3] (.block 3 k69_3))
abbrev k69_2 : CC := .loop l69_10
abbrev r69_6 : List CO := [
  ⟨some 37, .mv (.t 3), none⟩,
  ⟨some 2, .mv (.t 37), none⟩]
abbrev c69 : CC := .seq (.reg r69_0) (.seq (.reg r69_1) (.seq (.block 0 k69_0) (.rest [1, 3] (.seq (.block 2 k69_2) (.rest [3] (.seq (.reg r69_6) (.ret)))))))
theorem F69 : Fun Tryd.prog 69 38 c69 [.tmp 2] 1 := ⟨⟨Tryd.f69, _, Tryd.func69, rfl, by kernel_rfl, Tryd.ntmps69, by kernel_rfl, by kernel_rfl⟩, by decide⟩

/-- linnet/line.does$1 -/
abbrev r70_0 : List CO := [
  ⟨some 1, .box (.t 0), none⟩,
  ⟨some 2, .alloc ([.s (.slice none 0 0), .s (.int .i64 0)]), none⟩]
abbrev r70_1 : List CO := [
  ⟨some 3, .load true 2 (.t 1), none⟩,
  ⟨some 4, .faddr 1 (.t 1), none⟩,
  ⟨some 5, .load false 1 (.t 4), none⟩,
  ⟨some 6, .bin .sub (.t 5) (.c (.p (.s (.int .i64 1)))), none⟩,
  ⟨some 7, .minmax true (.t 6) (.c (.p (.s (.int .i64 0)))), none⟩,
  ⟨some 8, .faddr 1 (.t 1), none⟩,
  ⟨some 9, .load false 1 (.t 8), none⟩,
  ⟨some 10, .call (.c (.fn (.func 71) [] [])) [.t 3, .t 7, .t 9], none⟩,
  ⟨none, .store 2 (.t 2) (.t 10), none⟩]
abbrev c70 : CC := .seq (.reg r70_0) (.seq (.reg r70_1) (.rest [2] (.ret)))
theorem F70 : Fun Tryd.prog 70 11 c70 [.cell 2 true 2] 1 := ⟨⟨Tryd.f70, _, Tryd.func70, rfl, by kernel_rfl, Tryd.ntmps70, by kernel_rfl, by kernel_rfl⟩, by decide⟩

/-- linnet/line.cut -/
abbrev r71_0 : List CO := [
  ⟨some 3, .box (.t 0), none⟩,
  ⟨some 6, .alloc ([.s (.slice none 0 0), .s (.int .i64 0)]), none⟩]
abbrev r71_1 : List CO := [
  ⟨some 7, .faddr 0 (.t 3), none⟩,
  ⟨some 8, .load false 1 (.t 7), none⟩,
  ⟨some 9, .mv (.t 1), none⟩,
  ⟨some 10, .slice 1 (.t 8) none (some (.t 9)), none⟩,
  ⟨some 11, .call (.c (.fn (.func 59) [] [])) [.t 10], none⟩,
  ⟨some 12, .faddr 0 (.t 3), none⟩,
  ⟨some 13, .load false 1 (.t 12), none⟩,
  ⟨some 14, .mv (.t 2), none⟩,
  ⟨some 15, .slice 1 (.t 13) (some (.t 14)) none, none⟩,
  ⟨some 16, .append 1 1 ([.s (.int .u8 0)]) (.t 11) (.t 15), none⟩,
  ⟨some 17, .mv (.t 1), none⟩,
  ⟨some 18, .build ([.s (.slice none 0 0), .s (.int .i64 0)]) [(0, 1, .t 16), (1, 1, .t 17)], none⟩,
  ⟨none, .store 2 (.t 6) (.t 18), none⟩]
abbrev b71_1 : List (List Nat) := [[], [0], [], [1, 2], [3], [], [5], [], [6, 7], [4, 8, 4], [], [9, 10], [11, 9, 0, 1, 2, 3, 4, 5, 6, 7, 8, 9, 10, 11]]
abbrev c71 : CC := .seq (.reg r71_0) (.seq (.regd r71_1 b71_1) (.rest [6] (.ret)))
theorem F71 : Fun Tryd.prog 71 19 c71 [.cell 6 true 2] 3 := ⟨⟨Tryd.f71, _, Tryd.func71, rfl, by kernel_rfl, Tryd.ntmps71, by kernel_rfl, by kernel_rfl⟩, by decide⟩

/-- linnet/line.does$2 -/
abbrev r72_0 : List CO := [
  ⟨some 1, .box (.t 0), none⟩,
  ⟨some 2, .alloc ([.s (.slice none 0 0), .s (.int .i64 0)]), none⟩]
abbrev r72_1 : List CO := [
  ⟨some 3, .load true 2 (.t 1), none⟩,
  ⟨some 4, .faddr 1 (.t 1), none⟩,
  ⟨some 5, .load false 1 (.t 4), none⟩,
  ⟨some 6, .faddr 1 (.t 1), none⟩,
  ⟨some 7, .load false 1 (.t 6), none⟩,
  ⟨some 8, .bin .add (.t 7) (.c (.p (.s (.int .i64 1)))), none⟩,
  ⟨some 9, .faddr 0 (.t 1), none⟩,
  ⟨some 10, .load false 1 (.t 9), none⟩,
  ⟨some 11, .len (.t 10), none⟩,
  ⟨some 12, .minmax false (.t 8) (.t 11), none⟩,
  ⟨some 13, .call (.c (.fn (.func 71) [] [])) [.t 3, .t 5, .t 12], none⟩,
  ⟨none, .store 2 (.t 2) (.t 13), none⟩]
abbrev c72 : CC := .seq (.reg r72_0) (.seq (.reg r72_1) (.rest [2] (.ret)))
theorem F72 : Fun Tryd.prog 72 14 c72 [.cell 2 true 2] 1 := ⟨⟨Tryd.f72, _, Tryd.func72, rfl, by kernel_rfl, Tryd.ntmps72, by kernel_rfl, by kernel_rfl⟩, by decide⟩

/-- linnet/line.does$3 -/
abbrev r73_0 : List CO := [
  ⟨some 1, .box (.t 0), none⟩,
  ⟨some 2, .alloc ([.s (.slice none 0 0), .s (.int .i64 0)]), none⟩]
abbrev r73_1 : List CO := [
  ⟨some 3, .load true 2 (.t 1), none⟩,
  ⟨some 4, .load true 2 (.t 1), none⟩,
  ⟨some 5, .call (.c (.fn (.func 74) [] [])) [.t 4], none⟩,
  ⟨some 6, .faddr 1 (.t 1), none⟩,
  ⟨some 7, .load false 1 (.t 6), none⟩,
  ⟨some 8, .call (.c (.fn (.func 71) [] [])) [.t 3, .t 5, .t 7], none⟩,
  ⟨none, .store 2 (.t 2) (.t 8), none⟩]
abbrev b73_1 : List (List Nat) := [[], [], [1], [], [3], [0, 2, 4, 2], [5, 5, 0, 1, 2, 3, 4, 5]]
abbrev c73 : CC := .seq (.reg r73_0) (.seq (.regd r73_1 b73_1) (.rest [2] (.ret)))
theorem F73 : Fun Tryd.prog 73 9 c73 [.cell 2 true 2] 1 := ⟨⟨Tryd.f73, _, Tryd.func73, rfl, by kernel_rfl, Tryd.ntmps73, by kernel_rfl, by kernel_rfl⟩, by decide⟩

/-- linnet/line.Back -/
abbrev r74_0 : List CO := [
  ⟨some 1, .box (.t 0), none⟩,
  ⟨some 2, .mv (.c (.p (.s (.int .i64 0)))), none⟩]
abbrev r74_1 : List CO := [
  ⟨some 4, .load true 2 (.t 1), none⟩,
  ⟨some 5, .call (.c (.fn (.func 46) [] [])) [.t 4], none⟩,
  ⟨some 6, .bin .neq (.t 5) (.c (.p (.s (.int .i64 0)))), none⟩]
abbrev r74_2 : List CO := [
  ⟨some 2, .mv (.c (.p (.s (.int .i64 0)))), none⟩]
abbrev r74_3 : List CO := [
  ⟨some 7, .faddr 0 (.t 1), none⟩,
  ⟨some 8, .load false 1 (.t 7), none⟩,
  ⟨some 9, .faddr 1 (.t 1), none⟩,
  ⟨some 10, .load false 1 (.t 9), none⟩,
  ⟨some 11, .slice 1 (.t 8) none (some (.t 10)), none⟩,
  ⟨some 12, .call (.c (.fn (.func 90) [] [])) [.t 11, .c (.p (.s (.string { data := #[32, 9] })))], none⟩,
  ⟨some 13, .len (.t 12), none⟩,
  ⟨some 3, .mv (.t 13), none⟩]
abbrev r74_4 : List CO := [
  ⟨some 14, .mv (.t 3), none⟩,
  ⟨some 15, .bin .gtr (.t 14) (.c (.p (.s (.int .i64 0)))), none⟩,
  ⟨some 16, .mv (.t 15), none⟩,
  ⟨some 17, .faddr 0 (.t 1), some (16, true)⟩,
  ⟨some 18, .load false 1 (.t 17), some (16, true)⟩,
  ⟨some 19, .mv (.t 3), some (16, true)⟩,
  ⟨some 20, .bin .sub (.t 19) (.c (.p (.s (.int .i64 1)))), some (16, true)⟩,
  ⟨some 21, .iaddrS 1 (.t 18) (.t 20), some (16, true)⟩,
  ⟨some 22, .load false 1 (.t 21), some (16, true)⟩,
  ⟨some 23, .call (.c (.fn (.func 91) [] [])) [.t 22], some (16, true)⟩,
  ⟨some 24, .un .not (.t 23), some (16, true)⟩,
  ⟨some 25, .pick (.t 16) (.t 24) (.c (.p (.s (.bool false)))), none⟩]
abbrev r74_5 : List CO := [
  ⟨some 26, .mv (.t 3), none⟩,
  ⟨some 27, .bin .sub (.t 26) (.c (.p (.s (.int .i64 1)))), none⟩,
  ⟨some 3, .mv (.t 27), none⟩]
abbrev k74_1 : CC := .reg r74_5
abbrev l74_7 : CC := .seq (.seq (.reg r74_4) (.rest [1, 3, 25] (.cond (.t 25) (.skip) (.exit 0)))) (.rest [1, 3] (.block 1 k74_1))
abbrev k74_0 : CC := .loop l74_7
abbrev r74_6 : List CO := [
  ⟨some 28, .mv (.t 3), none⟩,
  ⟨some 2, .mv (.t 28), none⟩]
abbrev c74 : CC := .seq (.reg r74_0) (.seq (.seq (.reg r74_1) (.cond (.t 6) (.seq (.reg r74_2) (.ret)) (.skip))) (.rest [1] (.seq (.reg r74_3) (.rest [1, 3] (.seq (.block 0 k74_0) (.rest [3] (.seq (.reg r74_6) (.ret))))))))
theorem F74 : Fun Tryd.prog 74 29 c74 [.tmp 2] 1 := ⟨⟨Tryd.f74, _, Tryd.func74, rfl, by kernel_rfl, Tryd.ntmps74, by kernel_rfl, by kernel_rfl⟩, by decide⟩

/-- linnet/line.does$4 -/
abbrev r75_0 : List CO := [
  ⟨some 1, .box (.t 0), none⟩,
  ⟨some 2, .alloc ([.s (.slice none 0 0), .s (.int .i64 0)]), none⟩]
abbrev r75_1 : List CO := [
  ⟨some 3, .load true 2 (.t 1), none⟩,
  ⟨some 4, .faddr 1 (.t 1), none⟩,
  ⟨some 5, .load false 1 (.t 4), none⟩,
  ⟨some 6, .load true 2 (.t 1), none⟩,
  ⟨some 7, .call (.c (.fn (.func 76) [] [])) [.t 6], none⟩,
  ⟨some 8, .call (.c (.fn (.func 71) [] [])) [.t 3, .t 5, .t 7], none⟩,
  ⟨none, .store 2 (.t 2) (.t 8), none⟩]
abbrev b75_1 : List (List Nat) := [[], [], [1], [], [3], [0, 2, 4, 4], [5, 5, 0, 1, 2, 3, 4, 5]]
abbrev c75 : CC := .seq (.reg r75_0) (.seq (.regd r75_1 b75_1) (.rest [2] (.ret)))
theorem F75 : Fun Tryd.prog 75 9 c75 [.cell 2 true 2] 1 := ⟨⟨Tryd.f75, _, Tryd.func75, rfl, by kernel_rfl, Tryd.ntmps75, by kernel_rfl, by kernel_rfl⟩, by decide⟩

/-- linnet/line.On -/
abbrev r76_0 : List CO := [
  ⟨some 1, .box (.t 0), none⟩,
  ⟨some 2, .mv (.c (.p (.s (.int .i64 0)))), none⟩]
abbrev r76_1 : List CO := [
  ⟨some 4, .load true 2 (.t 1), none⟩,
  ⟨some 5, .call (.c (.fn (.func 46) [] [])) [.t 4], none⟩,
  ⟨some 6, .bin .neq (.t 5) (.c (.p (.s (.int .i64 0)))), none⟩]
abbrev r76_2 : List CO := [
  ⟨some 2, .mv (.c (.p (.s (.int .i64 0)))), none⟩]
abbrev r76_3 : List CO := [
  ⟨some 7, .faddr 1 (.t 1), none⟩,
  ⟨some 8, .load false 1 (.t 7), none⟩,
  ⟨some 3, .mv (.t 8), none⟩]
abbrev r76_4 : List CO := [
  ⟨some 9, .mv (.t 3), none⟩,
  ⟨some 10, .faddr 0 (.t 1), none⟩,
  ⟨some 11, .load false 1 (.t 10), none⟩,
  ⟨some 12, .len (.t 11), none⟩,
  ⟨some 13, .bin .lss (.t 9) (.t 12), none⟩,
  ⟨some 14, .mv (.t 13), none⟩,
  ⟨some 15, .faddr 0 (.t 1), some (14, true)⟩,
  ⟨some 16, .load false 1 (.t 15), some (14, true)⟩,
  ⟨some 17, .mv (.t 3), some (14, true)⟩,
  ⟨some 18, .iaddrS 1 (.t 16) (.t 17), some (14, true)⟩,
  ⟨some 19, .load false 1 (.t 18), some (14, true)⟩,
  ⟨some 20, .call (.c (.fn (.func 91) [] [])) [.t 19], some (14, true)⟩,
  ⟨some 21, .un .not (.t 20), some (14, true)⟩,
  ⟨some 22, .pick (.t 14) (.t 21) (.c (.p (.s (.bool false)))), none⟩]
abbrev r76_5 : List CO := [
  ⟨some 23, .mv (.t 3), none⟩,
  ⟨some 24, .bin .add (.t 23) (.c (.p (.s (.int .i64 1)))), none⟩,
  ⟨some 3, .mv (.t 24), none⟩]
abbrev k76_1 : CC := .reg r76_5
abbrev l76_7 : CC := .seq (.seq (.reg r76_4) (.rest [1, 3, 22] (.cond (.t 22) (.skip) (.exit 0)))) (.rest [1, 3] (.block 1 k76_1))
abbrev k76_0 : CC := .loop l76_7
abbrev r76_6 : List CO := [
  ⟨some 25, .mv (.t 3), none⟩,
  ⟨some 26, .faddr 0 (.t 1), none⟩,
  ⟨some 27, .load false 1 (.t 26), none⟩,
  ⟨some 28, .len (.t 27), none⟩,
  ⟨some 29, .bin .lss (.t 25) (.t 28), none⟩,
  ⟨some 30, .mv (.t 29), none⟩,
  ⟨some 31, .faddr 0 (.t 1), some (30, true)⟩,
  ⟨some 32, .load false 1 (.t 31), some (30, true)⟩,
  ⟨some 33, .mv (.t 3), some (30, true)⟩,
  ⟨some 34, .iaddrS 1 (.t 32) (.t 33), some (30, true)⟩,
  ⟨some 35, .load false 1 (.t 34), some (30, true)⟩,
  ⟨some 36, .call (.c (.fn (.func 91) [] [])) [.t 35], some (30, true)⟩,
  ⟨some 37, .pick (.t 30) (.t 36) (.c (.p (.s (.bool false)))), none⟩]
abbrev r76_7 : List CO := [
  ⟨some 38, .mv (.t 3), none⟩,
  ⟨some 39, .bin .add (.t 38) (.c (.p (.s (.int .i64 1)))), none⟩,
  ⟨some 3, .mv (.t 39), none⟩]
abbrev k76_3 : CC := .reg r76_7
abbrev l76_12 : CC := .seq (.seq (.reg r76_6) (.rest [1, 3, 37] (.cond (.t 37) (.skip) (.exit 2)))) (.rest [1, 3] (.block 3 k76_3))
abbrev k76_2 : CC := .loop l76_12
abbrev r76_8 : List CO := [
  ⟨some 40, .mv (.t 3), none⟩,
  ⟨some 2, .mv (.t 40), none⟩]
abbrev c76 : CC := .seq (.reg r76_0) (.seq (.seq (.reg r76_1) (.cond (.t 6) (.seq (.reg r76_2) (.ret)) (.skip))) (.rest [1] (.seq (.reg r76_3) (.seq (.block 0 k76_0) (.rest [1, 3] (.seq (.block 2 k76_2) (.rest [3] (.seq (.reg r76_8) (.ret)))))))))
theorem F76 : Fun Tryd.prog 76 41 c76 [.tmp 2] 1 := ⟨⟨Tryd.f76, _, Tryd.func76, rfl, by kernel_rfl, Tryd.ntmps76, by kernel_rfl, by kernel_rfl⟩, by decide⟩

/-- linnet/line.does$5 -/
abbrev r77_0 : List CO := [
  ⟨some 1, .box (.t 0), none⟩,
  ⟨some 2, .alloc ([.s (.slice none 0 0), .s (.int .i64 0)]), none⟩]
abbrev r77_1 : List CO := [
  ⟨some 3, .load true 2 (.t 1), none⟩,
  ⟨some 4, .faddr 1 (.t 1), none⟩,
  ⟨some 5, .load false 1 (.t 4), none⟩,
  ⟨some 6, .call (.c (.fn (.func 71) [] [])) [.t 3, .c (.p (.s (.int .i64 0))), .t 5], none⟩,
  ⟨none, .store 2 (.t 2) (.t 6), none⟩]
abbrev c77 : CC := .seq (.reg r77_0) (.seq (.reg r77_1) (.rest [2] (.ret)))
theorem F77 : Fun Tryd.prog 77 7 c77 [.cell 2 true 2] 1 := ⟨⟨Tryd.f77, _, Tryd.func77, rfl, by kernel_rfl, Tryd.ntmps77, by kernel_rfl, by kernel_rfl⟩, by decide⟩

/-- linnet/line.does$6 -/
abbrev r78_0 : List CO := [
  ⟨some 1, .box (.t 0), none⟩,
  ⟨some 2, .alloc ([.s (.slice none 0 0), .s (.int .i64 0)]), none⟩]
abbrev r78_1 : List CO := [
  ⟨some 3, .load true 2 (.t 1), none⟩,
  ⟨some 4, .faddr 1 (.t 1), none⟩,
  ⟨some 5, .load false 1 (.t 4), none⟩,
  ⟨some 6, .faddr 0 (.t 1), none⟩,
  ⟨some 7, .load false 1 (.t 6), none⟩,
  ⟨some 8, .len (.t 7), none⟩,
  ⟨some 9, .call (.c (.fn (.func 71) [] [])) [.t 3, .t 5, .t 8], none⟩,
  ⟨none, .store 2 (.t 2) (.t 9), none⟩]
abbrev c78 : CC := .seq (.reg r78_0) (.seq (.reg r78_1) (.rest [2] (.ret)))
theorem F78 : Fun Tryd.prog 78 10 c78 [.cell 2 true 2] 1 := ⟨⟨Tryd.f78, _, Tryd.func78, rfl, by kernel_rfl, Tryd.ntmps78, by kernel_rfl, by kernel_rfl⟩, by decide⟩

/-- linnet/line.does$7 -/
abbrev r79_0 : List CO := [
  ⟨some 1, .box (.t 0), none⟩,
  ⟨some 2, .alloc ([.s (.slice none 0 0), .s (.int .i64 0)]), none⟩]
abbrev r79_1 : List CO := [
  ⟨some 3, .build ([.s (.slice none 0 0), .s (.int .i64 0)]) [], none⟩,
  ⟨none, .store 2 (.t 2) (.t 3), none⟩]
abbrev c79 : CC := .seq (.reg r79_0) (.seq (.reg r79_1) (.ret))
theorem F79 : Fun Tryd.prog 79 4 c79 [.cell 2 true 2] 1 := ⟨⟨Tryd.f79, _, Tryd.func79, rfl, by kernel_rfl, Tryd.ntmps79, by kernel_rfl, by kernel_rfl⟩, by decide⟩

/-- linnet/line.does$8 -/
abbrev r80_0 : List CO := [
  ⟨some 1, .box (.t 0), none⟩,
  ⟨some 2, .alloc ([.s (.slice none 0 0), .s (.int .i64 0)]), none⟩]
abbrev r80_1 : List CO := [
  ⟨some 3, .load true 2 (.t 1), none⟩,
  ⟨some 4, .faddr 1 (.t 1), none⟩,
  ⟨some 5, .load false 1 (.t 4), none⟩,
  ⟨some 6, .bin .sub (.t 5) (.c (.p (.s (.int .i64 1)))), none⟩,
  ⟨some 7, .call (.c (.fn (.func 81) [] [])) [.t 3, .t 6], none⟩,
  ⟨none, .store 2 (.t 2) (.t 7), none⟩]
abbrev c80 : CC := .seq (.reg r80_0) (.seq (.reg r80_1) (.rest [2] (.ret)))
theorem F80 : Fun Tryd.prog 80 8 c80 [.cell 2 true 2] 1 := ⟨⟨Tryd.f80, _, Tryd.func80, rfl, by kernel_rfl, Tryd.ntmps80, by kernel_rfl, by kernel_rfl⟩, by decide⟩

/-- linnet/line.to -/
abbrev r81_0 : List CO := [
  ⟨some 2, .box (.t 0), none⟩,
  ⟨some 4, .alloc ([.s (.slice none 0 0), .s (.int .i64 0)]), none⟩]
abbrev r81_1 : List CO := [
  ⟨some 5, .faddr 0 (.t 2), none⟩,
  ⟨some 6, .load false 1 (.t 5), none⟩,
  ⟨some 7, .mv (.t 1), none⟩,
  ⟨some 8, .faddr 0 (.t 2), none⟩,
  ⟨some 9, .load false 1 (.t 8), none⟩,
  ⟨some 10, .len (.t 9), none⟩,
  ⟨some 11, .minmax false (.t 7) (.t 10), none⟩,
  ⟨some 12, .minmax true (.c (.p (.s (.int .i64 0)))) (.t 11), none⟩,
  ⟨some 13, .build ([.s (.slice none 0 0), .s (.int .i64 0)]) [(0, 1, .t 6), (1, 1, .t 12)], none⟩,
  ⟨none, .store 2 (.t 4) (.t 13), none⟩]
abbrev c81 : CC := .seq (.reg r81_0) (.seq (.reg r81_1) (.rest [4] (.ret)))
theorem F81 : Fun Tryd.prog 81 14 c81 [.cell 4 true 2] 2 := ⟨⟨Tryd.f81, _, Tryd.func81, rfl, by kernel_rfl, Tryd.ntmps81, by kernel_rfl, by kernel_rfl⟩, by decide⟩

/-- linnet/line.does$9 -/
abbrev r82_0 : List CO := [
  ⟨some 1, .box (.t 0), none⟩,
  ⟨some 2, .alloc ([.s (.slice none 0 0), .s (.int .i64 0)]), none⟩]
abbrev r82_1 : List CO := [
  ⟨some 3, .load true 2 (.t 1), none⟩,
  ⟨some 4, .faddr 1 (.t 1), none⟩,
  ⟨some 5, .load false 1 (.t 4), none⟩,
  ⟨some 6, .bin .add (.t 5) (.c (.p (.s (.int .i64 1)))), none⟩,
  ⟨some 7, .call (.c (.fn (.func 81) [] [])) [.t 3, .t 6], none⟩,
  ⟨none, .store 2 (.t 2) (.t 7), none⟩]
abbrev c82 : CC := .seq (.reg r82_0) (.seq (.reg r82_1) (.rest [2] (.ret)))
theorem F82 : Fun Tryd.prog 82 8 c82 [.cell 2 true 2] 1 := ⟨⟨Tryd.f82, _, Tryd.func82, rfl, by kernel_rfl, Tryd.ntmps82, by kernel_rfl, by kernel_rfl⟩, by decide⟩

/-- linnet/line.does$10 -/
abbrev r83_0 : List CO := [
  ⟨some 1, .box (.t 0), none⟩,
  ⟨some 2, .alloc ([.s (.slice none 0 0), .s (.int .i64 0)]), none⟩]
abbrev r83_1 : List CO := [
  ⟨some 3, .load true 2 (.t 1), none⟩,
  ⟨some 4, .load true 2 (.t 1), none⟩,
  ⟨some 5, .call (.c (.fn (.func 74) [] [])) [.t 4], none⟩,
  ⟨some 6, .call (.c (.fn (.func 81) [] [])) [.t 3, .t 5], none⟩,
  ⟨none, .store 2 (.t 2) (.t 6), none⟩]
abbrev b83_1 : List (List Nat) := [[], [], [1], [0, 2, 2], [3, 3, 0, 1, 2, 3]]
abbrev c83 : CC := .seq (.reg r83_0) (.seq (.regd r83_1 b83_1) (.rest [2] (.ret)))
theorem F83 : Fun Tryd.prog 83 7 c83 [.cell 2 true 2] 1 := ⟨⟨Tryd.f83, _, Tryd.func83, rfl, by kernel_rfl, Tryd.ntmps83, by kernel_rfl, by kernel_rfl⟩, by decide⟩

/-- linnet/line.does$11 -/
abbrev r84_0 : List CO := [
  ⟨some 1, .box (.t 0), none⟩,
  ⟨some 2, .alloc ([.s (.slice none 0 0), .s (.int .i64 0)]), none⟩]
abbrev r84_1 : List CO := [
  ⟨some 3, .load true 2 (.t 1), none⟩,
  ⟨some 4, .load true 2 (.t 1), none⟩,
  ⟨some 5, .call (.c (.fn (.func 76) [] [])) [.t 4], none⟩,
  ⟨some 6, .call (.c (.fn (.func 81) [] [])) [.t 3, .t 5], none⟩,
  ⟨none, .store 2 (.t 2) (.t 6), none⟩]
abbrev b84_1 : List (List Nat) := [[], [], [1], [0, 2, 2], [3, 3, 0, 1, 2, 3]]
abbrev c84 : CC := .seq (.reg r84_0) (.seq (.regd r84_1 b84_1) (.rest [2] (.ret)))
theorem F84 : Fun Tryd.prog 84 7 c84 [.cell 2 true 2] 1 := ⟨⟨Tryd.f84, _, Tryd.func84, rfl, by kernel_rfl, Tryd.ntmps84, by kernel_rfl, by kernel_rfl⟩, by decide⟩

/-- linnet/line.does$12 -/
abbrev r85_0 : List CO := [
  ⟨some 1, .box (.t 0), none⟩,
  ⟨some 2, .alloc ([.s (.slice none 0 0), .s (.int .i64 0)]), none⟩]
abbrev r85_1 : List CO := [
  ⟨some 3, .load true 2 (.t 1), none⟩,
  ⟨some 4, .call (.c (.fn (.func 81) [] [])) [.t 3, .c (.p (.s (.int .i64 0)))], none⟩,
  ⟨none, .store 2 (.t 2) (.t 4), none⟩]
abbrev c85 : CC := .seq (.reg r85_0) (.seq (.reg r85_1) (.ret))
theorem F85 : Fun Tryd.prog 85 5 c85 [.cell 2 true 2] 1 := ⟨⟨Tryd.f85, _, Tryd.func85, rfl, by kernel_rfl, Tryd.ntmps85, by kernel_rfl, by kernel_rfl⟩, by decide⟩

/-- linnet/line.does$13 -/
abbrev r86_0 : List CO := [
  ⟨some 1, .box (.t 0), none⟩,
  ⟨some 2, .alloc ([.s (.slice none 0 0), .s (.int .i64 0)]), none⟩]
abbrev r86_1 : List CO := [
  ⟨some 3, .load true 2 (.t 1), none⟩,
  ⟨some 4, .faddr 0 (.t 1), none⟩,
  ⟨some 5, .load false 1 (.t 4), none⟩,
  ⟨some 6, .len (.t 5), none⟩,
  ⟨some 7, .call (.c (.fn (.func 81) [] [])) [.t 3, .t 6], none⟩,
  ⟨none, .store 2 (.t 2) (.t 7), none⟩]
abbrev c86 : CC := .seq (.reg r86_0) (.seq (.reg r86_1) (.rest [2] (.ret)))
theorem F86 : Fun Tryd.prog 86 8 c86 [.cell 2 true 2] 1 := ⟨⟨Tryd.f86, _, Tryd.func86, rfl, by kernel_rfl, Tryd.ntmps86, by kernel_rfl, by kernel_rfl⟩, by decide⟩

/-- linnet/table.Key -/
abbrev r87_0 : List CO := [
  ⟨some 2, .box (.t 0), none⟩,
  ⟨some 4, .mv (.c (.p (.s (.int .u8 0)))), none⟩,
  ⟨some 5, .mv (.c (.p (.s (.bool false)))), none⟩]
abbrev r87_1 : List CO := [
  ⟨some 7, .mv (.t 1), none⟩,
  ⟨some 8, .bin .eql (.t 7) (.c (.p (.s (.int .i64 31)))), none⟩,
  ⟨some 6, .mv (.t 8), none⟩]
abbrev r87_2 : List CO := [
  ⟨some 4, .mv (.c (.p (.s (.int .u8 13)))), none⟩,
  ⟨some 5, .mv (.c (.p (.s (.bool true)))), none⟩]
abbrev r87_3 : List CO := [
  ⟨some 10, .mv (.t 1), none⟩,
  ⟨some 11, .bin .lss (.t 10) (.c (.p (.s (.int .i64 1)))), none⟩,
  ⟨some 12, .mv (.t 11), none⟩,
  ⟨some 13, .mv (.t 1), some (12, false)⟩,
  ⟨some 14, .bin .geq (.t 13) (.c (.p (.s (.int .i64 31)))), some (12, false)⟩,
  ⟨some 15, .pick (.t 12) (.c (.p (.s (.bool true)))) (.t 14), none⟩,
  ⟨some 16, .mv (.t 15), none⟩,
  ⟨some 17, .mv (.t 1), some (16, false)⟩,
  ⟨some 18, .iaddrA 2 31 (.t 2) (.t 17), some (16, false)⟩,
  ⟨some 19, .faddr 0 (.t 18), some (16, false)⟩,
  ⟨some 20, .load false 1 (.t 19), some (16, false)⟩,
  ⟨some 21, .bin .eql (.t 20) (.c (.p (.s (.int .i64 0)))), some (16, false)⟩,
  ⟨some 22, .pick (.t 16) (.c (.p (.s (.bool true)))) (.t 21), none⟩,
  ⟨some 23, .mv (.t 22), none⟩,
  ⟨some 24, .load true 62 (.t 2), some (23, false)⟩,
  ⟨some 25, .mv (.t 1), some (23, false)⟩,
  ⟨some 26, .iaddrA 2 31 (.t 2) (.t 25), some (23, false)⟩,
  ⟨some 27, .faddr 1 (.t 26), some (23, false)⟩,
  ⟨some 28, .load false 1 (.t 27), some (23, false)⟩,
  ⟨some 29, .call (.c (.fn (.func 30) [] [])) [.t 24, .t 28], some (23, false)⟩,
  ⟨some 30, .mv (.t 1), some (23, false)⟩,
  ⟨some 31, .bin .neq (.t 29) (.t 30), some (23, false)⟩,
  ⟨some 32, .pick (.t 23) (.c (.p (.s (.bool true)))) (.t 31), none⟩,
  ⟨some 9, .mv (.t 32), none⟩]
abbrev b87_3 : List (List Nat) := [[], [0], [1], [2], [3, 2], [2, 4], [5, 2], [6], [7, 6], [8, 6], [9, 6], [10, 6], [6, 11], [12, 6], [13], [13], [15, 13], [16, 13], [17, 13], [14, 18, 13, 13], [13], [19, 20, 13], [13, 21], [22, 19]]
abbrev r87_4 : List CO := [
  ⟨some 4, .mv (.c (.p (.s (.int .u8 0)))), none⟩,
  ⟨some 5, .mv (.c (.p (.s (.bool false)))), none⟩]
abbrev k87_0 : CC := .seq (.reg r87_1) (.cond (.t 6) (.seq (.reg r87_2) (.ret)) (.seq (.regd r87_3 b87_3) (.rest [1, 2, 9] (.cond (.t 9) (.seq (.reg r87_4) (.ret)) (.skip)))))
abbrev r87_5 : List CO := [
  ⟨some 33, .mv (.t 1), none⟩,
  ⟨some 34, .iaddrA 2 31 (.t 2) (.t 33), none⟩,
  ⟨some 35, .faddr 1 (.t 34), none⟩,
  ⟨some 36, .load false 1 (.t 35), none⟩,
  ⟨some 4, .mv (.t 36), none⟩,
  ⟨some 5, .mv (.c (.p (.s (.bool true)))), none⟩]
abbrev c87 : CC := .seq (.reg r87_0) (.seq (.block 0 k87_0) (.rest [1, 2] (.seq (.reg r87_5) (.rest [4, 5] (.ret)))))
theorem F87 : Fun Tryd.prog 87 37 c87 [.tmp 4, .tmp 5] 2 := ⟨⟨Tryd.f87, _, Tryd.func87, rfl, by kernel_rfl, Tryd.ntmps87, by kernel_rfl, by kernel_rfl⟩, by decide⟩

/-- bytes.Repeat -/
abbrev r88_0 : List CO := [
  ⟨some 4, .mv (.c (.p (.s (.slice none 0 0)))), none⟩]
abbrev r88_1 : List CO := [
  ⟨some 12, .mv (.t 1), none⟩,
  ⟨some 13, .bin .eql (.t 12) (.c (.p (.s (.int .i64 0)))), none⟩]
abbrev r88_2 : List CO := [
  ⟨some 14, .bslice 1 0 ([.s (.int .u8 0)]) [], none⟩,
  ⟨some 4, .mv (.t 14), none⟩]
abbrev r88_3 : List CO := [
  ⟨some 15, .mv (.t 1), none⟩,
  ⟨some 16, .bin .lss (.t 15) (.c (.p (.s (.int .i64 0)))), none⟩]
abbrev r88_4 : List CO := [
  ⟨some 17, .mkif 9 (.c (.p (.s (.string { data := #[98, 121, 116, 101, 115, 58, 32, 110, 101, 103, 97, 116, 105, 118, 101, 32, 82, 101, 112, 101, 97, 116, 32, 99, 111, 117, 110, 116] })))), none⟩,
  ⟨none, .panic (.t 17), none⟩]
abbrev r88_5 : List CO := [
  ⟨some 19, .mv (.t 0), none⟩,
  ⟨some 20, .len (.t 19), none⟩,
  ⟨some 21, .toInt .u64 (.t 20), none⟩,
  ⟨some 22, .mv (.t 1), none⟩,
  ⟨some 23, .toInt .u64 (.t 22), none⟩,
  ⟨some 24, .call (.c (.fn (.func 92) [] [])) [.t 21, .t 23], none⟩,
  ⟨some 18, .mv (.t 24), none⟩,
  ⟨some 25, .extract 0 (.t 18), none⟩,
  ⟨some 26, .extract 1 (.t 18), none⟩,
  ⟨some 5, .mv (.t 25), none⟩,
  ⟨some 6, .mv (.t 26), none⟩]
abbrev r88_6 : List CO := [
  ⟨some 27, .mv (.t 5), none⟩,
  ⟨some 28, .bin .gtr (.t 27) (.c (.p (.s (.int .u64 0)))), none⟩,
  ⟨some 29, .mv (.t 28), none⟩,
  ⟨some 30, .mv (.t 6), some (29, false)⟩,
  ⟨some 31, .bin .gtr (.t 30) (.c (.p (.s (.int .u64 9223372036854775807)))), some (29, false)⟩,
  ⟨some 32, .pick (.t 29) (.c (.p (.s (.bool true)))) (.t 31), none⟩]
abbrev r88_7 : List CO := [
  ⟨some 33, .mkif 9 (.c (.p (.s (.string { data := #[98, 121, 116, 101, 115, 58, 32, 82, 101, 112, 101, 97, 116, 32, 111, 117, 116, 112, 117, 116, 32, 108, 101, 110, 103, 116, 104, 32, 111, 118, 101, 114, 102, 108, 111, 119] })))), none⟩,
  ⟨none, .panic (.t 33), none⟩]
abbrev r88_8 : List CO := [
  ⟨some 34, .mv (.t 6), none⟩,
  ⟨some 35, .toInt .i64 (.t 34), none⟩,
  ⟨some 7, .mv (.t 35), none⟩]
abbrev r88_9 : List CO := [
  ⟨some 36, .mv (.t 0), none⟩,
  ⟨some 37, .len (.t 36), none⟩,
  ⟨some 38, .bin .eql (.t 37) (.c (.p (.s (.int .i64 0)))), none⟩]
abbrev r88_10 : List CO := [
  ⟨some 39, .bslice 1 0 ([.s (.int .u8 0)]) [], none⟩,
  ⟨some 4, .mv (.t 39), none⟩]
abbrev r88_11 : List CO := [
  ⟨some 40, .mv (.t 7), none⟩,
  ⟨some 8, .mv (.t 40), none⟩]
abbrev r88_12 : List CO := [
  ⟨some 41, .mv (.t 8), none⟩,
  ⟨some 42, .bin .gtr (.t 41) (.c (.p (.s (.int .i64 8192)))), none⟩]
abbrev r88_13 : List CO := [
  ⟨some 43, .mv (.t 0), none⟩,
  ⟨some 44, .len (.t 43), none⟩,
  ⟨some 45, .bin .quo (.c (.p (.s (.int .i64 8192)))) (.t 44), none⟩,
  ⟨some 46, .mv (.t 0), none⟩,
  ⟨some 47, .len (.t 46), none⟩,
  ⟨some 48, .bin .mul (.t 45) (.t 47), none⟩,
  ⟨some 8, .mv (.t 48), none⟩]
abbrev r88_14 : List CO := [
  ⟨some 49, .mv (.t 8), none⟩,
  ⟨some 50, .bin .eql (.t 49) (.c (.p (.s (.int .i64 0)))), none⟩]
abbrev r88_15 : List CO := [
  ⟨some 51, .mv (.t 0), none⟩,
  ⟨some 52, .len (.t 51), none⟩,
  ⟨some 8, .mv (.t 52), none⟩]
abbrev r88_16 : List CO := [
  ⟨some 53, .mv (.t 7), none⟩,
  ⟨some 54, .ext .mkz [.t 53], none⟩,
  ⟨some 55, .mv (.t 7), none⟩,
  ⟨some 56, .mv (.t 7), none⟩,
  ⟨some 57, .ext (.slice3 1 false) [.t 54, .t 55, .t 56], none⟩,
  ⟨some 9, .mv (.t 57), none⟩]
abbrev r88_17 : List CO := [
  ⟨some 58, .mv (.t 9), none⟩,
  ⟨some 59, .mv (.t 0), none⟩,
  ⟨some 60, .ext (.copy 1) [.t 58, .t 59], none⟩,
  ⟨some 10, .mv (.t 60), none⟩]
abbrev r88_18 : List CO := [
  ⟨some 61, .mv (.t 10), none⟩,
  ⟨some 62, .mv (.t 7), none⟩,
  ⟨some 63, .bin .lss (.t 61) (.t 62), none⟩]
abbrev r88_19 : List CO := [
  ⟨some 64, .mv (.t 10), none⟩,
  ⟨some 65, .mv (.t 8), none⟩,
  ⟨some 66, .minmax false (.t 64) (.t 65), none⟩,
  ⟨some 11, .mv (.t 66), none⟩]
abbrev r88_20 : List CO := [
  ⟨some 67, .mv (.t 10), none⟩,
  ⟨some 68, .mv (.t 9), none⟩,
  ⟨some 69, .mv (.t 10), none⟩,
  ⟨some 70, .slice 1 (.t 68) (some (.t 69)) none, none⟩,
  ⟨some 71, .mv (.t 9), none⟩,
  ⟨some 72, .mv (.t 11), none⟩,
  ⟨some 73, .slice 1 (.t 71) none (some (.t 72)), none⟩,
  ⟨some 74, .ext (.copy 1) [.t 70, .t 73], none⟩,
  ⟨some 75, .bin .add (.t 67) (.t 74), none⟩,
  ⟨some 10, .mv (.t 75), none⟩]
abbrev b88_20 : List (List Nat) := [[], [], [], [1, 2], [], [], [4, 5], [3, 6], [0, 7], [8, 7, 0, 1, 2, 3, 4, 5, 6, 7, 8]]
abbrev k88_1 : CC := .seq (.reg r88_19) (.rest [7, 8, 9, 10, 11] (.regd r88_20 b88_20))
abbrev l88_23 : CC := .seq (.seq (.reg r88_18) (.cond (.t 63) (.skip) (.exit 0))) (.block 1 k88_1)
abbrev k88_0 : CC := .loop l88_23
abbrev r88_21 : List CO := [
  ⟨some 76, .mv (.t 9), none⟩,
  ⟨some 4, .mv (.t 76), none⟩]
abbrev c88 : CC := .seq (.reg r88_0) (.seq (.seq (.reg r88_1) (.cond (.t 13) (.seq (.reg r88_2) (.ret)) (.skip))) (.rest [0, 1] (.seq (.seq (.reg r88_3) (.cond (.t 16) (.reg r88_4) (.skip))) (.rest [0, 1] (.seq (.reg r88_5) (.rest [0, 5, 6] (.seq (.seq (.reg r88_6) (.rest [0, 6, 32] (.cond (.t 32) (.reg r88_7) (.skip)))) (.rest [0, 6] (.seq (.reg r88_8) (.seq (.seq (.reg r88_9) (.cond (.t 38) (.seq (.reg r88_10) (.ret)) (.skip))) (.rest [0, 7] (.seq (.reg r88_11) (.seq (.seq (.reg r88_12) (.cond (.t 42) (.seq (.reg r88_13) (.rest [0, 7, 8] (.seq (.reg r88_14) (.cond (.t 50) (.reg r88_15) (.skip))))) (.skip))) (.rest [0, 7, 8] (.seq (.reg r88_16) (.rest [0, 7, 8, 9] (.seq (.reg r88_17) (.rest [7, 8, 9, 10] (.seq (.block 0 k88_0) (.rest [9] (.seq (.reg r88_21) (.ret))))))))))))))))))))))
theorem F88 : Fun Tryd.prog 88 77 c88 [.tmp 4] 2 := ⟨⟨Tryd.f88, _, Tryd.func88, rfl, by kernel_rfl, Tryd.ntmps88, by kernel_rfl, by kernel_rfl⟩, by decide⟩

/-- linnet/linnetref12.blank -/
abbrev r89_0 : List CO := [
  ⟨some 2, .mv (.c (.p (.s (.bool false)))), none⟩]
abbrev r89_1 : List CO := [
  ⟨some 3, .mv (.t 0), none⟩,
  ⟨some 4, .bin .eql (.t 3) (.c (.p (.s (.int .u8 32)))), none⟩,
  ⟨some 5, .mv (.t 4), none⟩,
  ⟨some 6, .mv (.t 0), some (5, false)⟩,
  ⟨some 7, .bin .eql (.t 6) (.c (.p (.s (.int .u8 9)))), some (5, false)⟩,
  ⟨some 8, .pick (.t 5) (.c (.p (.s (.bool true)))) (.t 7), none⟩,
  ⟨some 2, .mv (.t 8), none⟩]
abbrev c89 : CC := .seq (.reg r89_0) (.seq (.reg r89_1) (.rest [2] (.ret)))
theorem F89 : Fun Tryd.prog 89 9 c89 [.tmp 2] 1 := ⟨⟨Tryd.f89, _, Tryd.func89, rfl, by kernel_rfl, Tryd.ntmps89, by kernel_rfl, by kernel_rfl⟩, by decide⟩

/-- bytes.TrimRight -/
abbrev r90_0 : List CO := [
  ⟨some 4, .mv (.c (.p (.s (.slice none 0 0)))), none⟩]
abbrev r90_1 : List CO := [
  ⟨some 7, .mv (.t 0), none⟩,
  ⟨some 8, .len (.t 7), none⟩,
  ⟨some 9, .bin .eql (.t 8) (.c (.p (.s (.int .i64 0)))), none⟩,
  ⟨some 10, .mv (.t 9), none⟩,
  ⟨some 11, .mv (.t 1), some (10, false)⟩,
  ⟨some 12, .bin .eql (.t 11) (.c (.p (.s (.string { data := #[] })))), some (10, false)⟩,
  ⟨some 13, .pick (.t 10) (.c (.p (.s (.bool true)))) (.t 12), none⟩]
abbrev r90_2 : List CO := [
  ⟨some 14, .mv (.t 0), none⟩,
  ⟨some 4, .mv (.t 14), none⟩]
abbrev r90_3 : List CO := [
  ⟨some 15, .mv (.t 1), none⟩,
  ⟨some 16, .slen (.t 15), none⟩,
  ⟨some 17, .bin .eql (.t 16) (.c (.p (.s (.int .i64 1)))), none⟩,
  ⟨some 18, .mv (.t 17), none⟩,
  ⟨some 19, .mv (.t 1), some (18, true)⟩,
  ⟨some 20, .sindex (.t 19) (.c (.p (.s (.int .i64 0)))), some (18, true)⟩,
  ⟨some 21, .bin .lss (.t 20) (.c (.p (.s (.int .u8 128)))), some (18, true)⟩,
  ⟨some 22, .pick (.t 18) (.t 21) (.c (.p (.s (.bool false)))), none⟩]
abbrev r90_4 : List CO := [
  ⟨some 23, .mv (.t 0), none⟩,
  ⟨some 24, .mv (.t 1), none⟩,
  ⟨some 25, .sindex (.t 24) (.c (.p (.s (.int .i64 0)))), none⟩,
  ⟨some 26, .call (.c (.fn (.func 94) [] [])) [.t 23, .t 25], none⟩,
  ⟨some 4, .mv (.t 26), none⟩]
abbrev r90_5 : List CO := [
  ⟨some 28, .mv (.t 1), none⟩,
  ⟨some 29, .call (.c (.fn (.func 95) [] [])) [.t 28], none⟩,
  ⟨some 27, .mv (.t 29), none⟩,
  ⟨some 30, .extract 0 (.t 27), none⟩,
  ⟨some 31, .extract 1 (.t 27), none⟩,
  ⟨some 5, .alloc (List.replicate 256 (.s (.bool false))), none⟩,
  ⟨none, .store 256 (.t 5) (.t 30), none⟩,
  ⟨some 6, .mv (.t 31), none⟩]
abbrev r90_6 : List CO := [
  ⟨some 32, .mv (.t 6), none⟩]
abbrev r90_7 : List CO := [
  ⟨some 33, .mv (.t 0), none⟩,
  ⟨some 34, .call (.c (.fn (.func 96) [] [])) [.t 33, .t 5], none⟩,
  ⟨some 4, .mv (.t 34), none⟩]
abbrev r90_8 : List CO := [
  ⟨some 35, .mv (.t 0), none⟩,
  ⟨some 36, .mv (.t 1), none⟩,
  ⟨some 37, .call (.c (.fn (.func 97) [] [])) [.t 35, .t 36], none⟩,
  ⟨some 4, .mv (.t 37), none⟩]
abbrev c90 : CC := .seq (.reg r90_0) (.seq (.seq (.reg r90_1) (.rest [0, 1, 13] (.cond (.t 13) (.seq (.reg r90_2) (.ret)) (.skip)))) (.rest [0, 1] (.seq (.seq (.reg r90_3) (.rest [0, 1, 22] (.cond (.t 22) (.seq (.reg r90_4) (.rest [4] (.ret))) (.skip)))) (.rest [0, 1] (.seq (.seq (.reg r90_5) (.rest [0, 1, 5, 6] (.seq (.reg r90_6) (.cond (.t 32) (.seq (.reg r90_7) (.ret)) (.skip))))) (.rest [0, 1] (.seq (.reg r90_8) (.rest [4] (.ret)))))))))
theorem F90 : Fun Tryd.prog 90 38 c90 [.tmp 4] 2 := ⟨⟨Tryd.f90, _, Tryd.func90, rfl, by kernel_rfl, Tryd.ntmps90, by kernel_rfl, by kernel_rfl⟩, by decide⟩

/-- linnet/line.blank -/
abbrev r91_0 : List CO := [
  ⟨some 2, .mv (.c (.p (.s (.bool false)))), none⟩]
abbrev r91_1 : List CO := [
  ⟨some 3, .mv (.t 0), none⟩,
  ⟨some 4, .bin .eql (.t 3) (.c (.p (.s (.int .u8 32)))), none⟩,
  ⟨some 5, .mv (.t 4), none⟩,
  ⟨some 6, .mv (.t 0), some (5, false)⟩,
  ⟨some 7, .bin .eql (.t 6) (.c (.p (.s (.int .u8 9)))), some (5, false)⟩,
  ⟨some 8, .pick (.t 5) (.c (.p (.s (.bool true)))) (.t 7), none⟩,
  ⟨some 2, .mv (.t 8), none⟩]
abbrev c91 : CC := .seq (.reg r91_0) (.seq (.reg r91_1) (.rest [2] (.ret)))
theorem F91 : Fun Tryd.prog 91 9 c91 [.tmp 2] 1 := ⟨⟨Tryd.f91, _, Tryd.func91, rfl, by kernel_rfl, Tryd.ntmps91, by kernel_rfl, by kernel_rfl⟩, by decide⟩

/-- math/bits.Mul -/
abbrev r92_0 : List CO := [
  ⟨some 4, .mv (.c (.p (.s (.int .u64 0)))), none⟩,
  ⟨some 5, .mv (.c (.p (.s (.int .u64 0)))), none⟩]
abbrev r92_1 : List CO := [
  ⟨some 11, .mv (.t 0), none⟩,
  ⟨some 12, .toInt .u32 (.t 11), none⟩,
  ⟨some 13, .mv (.t 1), none⟩,
  ⟨some 14, .toInt .u32 (.t 13), none⟩,
  ⟨some 15, .call (.c (.fn (.func 98) [] [])) [.t 12, .t 14], none⟩,
  ⟨some 10, .mv (.t 15), none⟩,
  ⟨some 16, .extract 0 (.t 10), none⟩,
  ⟨some 17, .extract 1 (.t 10), none⟩,
  ⟨some 6, .mv (.t 16), none⟩,
  ⟨some 7, .mv (.t 17), none⟩]
abbrev r92_2 : List CO := [
  ⟨some 18, .mv (.t 6), none⟩,
  ⟨some 19, .toInt .u64 (.t 18), none⟩,
  ⟨some 20, .mv (.t 7), none⟩,
  ⟨some 21, .toInt .u64 (.t 20), none⟩,
  ⟨some 4, .mv (.t 19), none⟩,
  ⟨some 5, .mv (.t 21), none⟩]
abbrev r92_3 : List CO := [
  ⟨some 23, .mv (.t 0), none⟩,
  ⟨some 24, .mv (.t 1), none⟩,
  ⟨some 25, .call (.c (.fn (.func 99) [] [])) [.t 23, .t 24], none⟩,
  ⟨some 22, .mv (.t 25), none⟩,
  ⟨some 26, .extract 0 (.t 22), none⟩,
  ⟨some 27, .extract 1 (.t 22), none⟩,
  ⟨some 8, .mv (.t 26), none⟩,
  ⟨some 9, .mv (.t 27), none⟩]
abbrev r92_4 : List CO := [
  ⟨some 28, .mv (.t 8), none⟩,
  ⟨some 29, .mv (.t 9), none⟩,
  ⟨some 4, .mv (.t 28), none⟩,
  ⟨some 5, .mv (.t 29), none⟩]
abbrev c92 : CC := .seq (.reg r92_0) (.seq (.cond (.c (.p (.s (.bool false)))) (.seq (.reg r92_1) (.rest [6, 7] (.seq (.reg r92_2) (.rest [4, 5] (.ret))))) (.skip)) (.rest [0, 1] (.seq (.reg r92_3) (.rest [8, 9] (.seq (.reg r92_4) (.rest [4, 5] (.ret)))))))
theorem F92 : Fun Tryd.prog 92 30 c92 [.tmp 4, .tmp 5] 2 := ⟨⟨Tryd.f92, _, Tryd.func92, rfl, by kernel_rfl, Tryd.ntmps92, by kernel_rfl, by kernel_rfl⟩, by decide⟩

/-- bytes.trimRightByte -/
abbrev r94_0 : List CO := [
  ⟨some 4, .mv (.c (.p (.s (.slice none 0 0)))), none⟩]
abbrev r94_1 : List CO := [
  ⟨some 5, .mv (.t 0), none⟩,
  ⟨some 6, .len (.t 5), none⟩,
  ⟨some 7, .bin .gtr (.t 6) (.c (.p (.s (.int .i64 0)))), none⟩,
  ⟨some 8, .mv (.t 7), none⟩,
  ⟨some 9, .mv (.t 0), some (8, true)⟩,
  ⟨some 10, .mv (.t 0), some (8, true)⟩,
  ⟨some 11, .len (.t 10), some (8, true)⟩,
  ⟨some 12, .bin .sub (.t 11) (.c (.p (.s (.int .i64 1)))), some (8, true)⟩,
  ⟨some 13, .iaddrS 1 (.t 9) (.t 12), some (8, true)⟩,
  ⟨some 14, .load false 1 (.t 13), some (8, true)⟩,
  ⟨some 15, .mv (.t 1), some (8, true)⟩,
  ⟨some 16, .bin .eql (.t 14) (.t 15), some (8, true)⟩,
  ⟨some 17, .pick (.t 8) (.t 16) (.c (.p (.s (.bool false)))), none⟩]
abbrev r94_2 : List CO := [
  ⟨some 18, .mv (.t 0), none⟩,
  ⟨some 19, .mv (.t 0), none⟩,
  ⟨some 20, .len (.t 19), none⟩,
  ⟨some 21, .bin .sub (.t 20) (.c (.p (.s (.int .i64 1)))), none⟩,
  ⟨some 22, .slice 1 (.t 18) none (some (.t 21)), none⟩,
  ⟨some 0, .mv (.t 22), none⟩]
abbrev k94_1 : CC := .reg r94_2
abbrev l94_4 : CC := .seq (.seq (.reg r94_1) (.rest [0, 1, 17] (.cond (.t 17) (.skip) (.exit 0)))) (.rest [0, 1] (.block 1 k94_1))
abbrev k94_0 : CC := .loop l94_4
abbrev r94_3 : List CO := [
  ⟨some 23, .mv (.t 0), none⟩,
  ⟨some 4, .mv (.t 23), none⟩]
abbrev c94 : CC := .seq (.reg r94_0) (.seq (.block 0 k94_0) (.rest [0] (.seq (.reg r94_3) (.ret))))
theorem F94 : Fun Tryd.prog 94 24 c94 [.tmp 4] 2 := ⟨⟨Tryd.f94, _, Tryd.func94, rfl, by kernel_rfl, Tryd.ntmps94, by kernel_rfl, by kernel_rfl⟩, by decide⟩

/-- bytes.makeASCIISet -/
abbrev r95_0 : List CO := [
  ⟨some 2, .alloc (List.replicate 256 (.s (.bool false))), none⟩,
  ⟨some 3, .mv (.c (.p (.s (.bool false)))), none⟩]
abbrev r95_1 : List CO := [
  ⟨some 4, .mv (.c (.p (.s (.int .i64 0)))), none⟩]
abbrev r95_2 : List CO := [
  ⟨some 6, .mv (.t 4), none⟩,
  ⟨some 7, .mv (.t 0), none⟩,
  ⟨some 8, .slen (.t 7), none⟩,
  ⟨some 9, .bin .lss (.t 6) (.t 8), none⟩]
abbrev r95_4 : List CO := [
  ⟨some 12, .mv (.t 0), none⟩,
  ⟨some 13, .mv (.t 4), none⟩,
  ⟨some 14, .sindex (.t 12) (.t 13), none⟩,
  ⟨some 5, .mv (.t 14), none⟩]
abbrev r95_5 : List CO := [
  ⟨some 15, .mv (.t 5), none⟩,
  ⟨some 16, .bin .geq (.t 15) (.c (.p (.s (.int .u8 128)))), none⟩]
abbrev r95_6 : List CO := [
  ⟨some 17, .load true 256 (.t 2), none⟩,
  ⟨none, .store 256 (.t 2) (.t 17), none⟩,
  ⟨some 3, .mv (.c (.p (.s (.bool false)))), none⟩]
abbrev r95_7 : List CO := [
  ⟨some 18, .mv (.t 5), none⟩,
  ⟨some 19, .iaddrA 1 256 (.t 2) (.t 18), none⟩,
  ⟨none, .store 1 (.t 19) (.c (.p (.s (.bool true)))), none⟩]
abbrev k95_1 : CC := .seq (.reg r95_4) (.rest [0, 2, 4, 5] (.seq (.seq (.reg r95_5) (.cond (.t 16) (.seq (.reg r95_6) (.ret)) (.skip))) (.rest [0, 2, 4, 5] (.reg r95_7))))
abbrev r95_3 : List CO := [
  ⟨some 10, .mv (.t 4), none⟩,
  ⟨some 11, .bin .add (.t 10) (.c (.p (.s (.int .i64 1)))), none⟩,
  ⟨some 4, .mv (.t 11), none⟩]
abbrev l95_9 : CC := .seq (.seq (.reg r95_2) (.rest [0, 2, 4, 9] (.cond (.t 9) (.skip) (.exit 0)))) (.rest [0, 2, 4] (.seq (.block 1 k95_1) (.rest [0, 2, 4] (.reg r95_3))))
abbrev k95_0 : CC := .loop l95_9
abbrev r95_8 : List CO := [
  ⟨some 20, .load true 256 (.t 2), none⟩,
  ⟨none, .store 256 (.t 2) (.t 20), none⟩,
  ⟨some 3, .mv (.c (.p (.s (.bool true)))), none⟩]
abbrev c95 : CC := .seq (.reg r95_0) (.seq (.seq (.reg r95_1) (.block 0 k95_0)) (.rest [2] (.seq (.reg r95_8) (.ret))))
theorem F95 : Fun Tryd.prog 95 21 c95 [.cell 2 true 256, .tmp 3] 1 := ⟨⟨Tryd.f95, _, Tryd.func95, rfl, by kernel_rfl, Tryd.ntmps95, by kernel_rfl, by kernel_rfl⟩, by decide⟩

/-- bytes.trimRightASCII -/
abbrev r96_0 : List CO := [
  ⟨some 4, .mv (.c (.p (.s (.slice none 0 0)))), none⟩]
abbrev r96_1 : List CO := [
  ⟨some 5, .mv (.t 0), none⟩,
  ⟨some 6, .len (.t 5), none⟩,
  ⟨some 7, .bin .gtr (.t 6) (.c (.p (.s (.int .i64 0)))), none⟩]
abbrev r96_2 : List CO := [
  ⟨some 8, .mv (.t 1), none⟩,
  ⟨some 9, .mv (.t 0), none⟩,
  ⟨some 10, .mv (.t 0), none⟩,
  ⟨some 11, .len (.t 10), none⟩,
  ⟨some 12, .bin .sub (.t 11) (.c (.p (.s (.int .i64 1)))), none⟩,
  ⟨some 13, .iaddrS 1 (.t 9) (.t 12), none⟩,
  ⟨some 14, .load false 1 (.t 13), none⟩,
  ⟨some 15, .call (.c (.fn (.func 100) [] [])) [.t 8, .t 14], none⟩,
  ⟨some 16, .un .not (.t 15), none⟩]
abbrev r96_3 : List CO := [
  ⟨some 17, .mv (.t 0), none⟩,
  ⟨some 18, .mv (.t 0), none⟩,
  ⟨some 19, .len (.t 18), none⟩,
  ⟨some 20, .bin .sub (.t 19) (.c (.p (.s (.int .i64 1)))), none⟩,
  ⟨some 21, .slice 1 (.t 17) none (some (.t 20)), none⟩,
  ⟨some 0, .mv (.t 21), none⟩]
abbrev k96_1 : CC := .seq (.seq (.reg r96_2) (.rest [0, 1, 16] (.cond (.t 16) (.exit 0) (.skip)))) (.rest [0, 1] (.reg r96_3))
abbrev l96_5 : CC := .seq (.seq (.reg r96_1) (.cond (.t 7) (.skip) (.exit 0))) (.block 1 k96_1)
abbrev k96_0 : CC := .loop l96_5
abbrev r96_4 : List CO := [
  ⟨some 22, .mv (.t 0), none⟩,
  ⟨some 4, .mv (.t 22), none⟩]
abbrev c96 : CC := .seq (.reg r96_0) (.seq (.block 0 k96_0) (.rest [0] (.seq (.reg r96_4) (.ret))))
theorem F96 : Fun Tryd.prog 96 23 c96 [.tmp 4] 2 := ⟨⟨Tryd.f96, _, Tryd.func96, rfl, by kernel_rfl, Tryd.ntmps96, by kernel_rfl, by kernel_rfl⟩, by decide⟩

/-- math/bits.Mul64 -/
abbrev r99_0 : List CO := [
  ⟨some 4, .mv (.c (.p (.s (.int .u64 0)))), none⟩,
  ⟨some 5, .mv (.c (.p (.s (.int .u64 0)))), none⟩]
abbrev r99_1 : List CO := [
  ⟨some 14, .mv (.t 0), none⟩,
  ⟨some 15, .bin .and (.t 14) (.c (.p (.s (.int .u64 4294967295)))), none⟩,
  ⟨some 6, .mv (.t 15), none⟩]
abbrev r99_2 : List CO := [
  ⟨some 16, .mv (.t 0), none⟩,
  ⟨some 17, .bin .shr (.t 16) (.c (.p (.s (.int .u64 32)))), none⟩,
  ⟨some 7, .mv (.t 17), none⟩]
abbrev r99_3 : List CO := [
  ⟨some 18, .mv (.t 1), none⟩,
  ⟨some 19, .bin .and (.t 18) (.c (.p (.s (.int .u64 4294967295)))), none⟩,
  ⟨some 8, .mv (.t 19), none⟩]
abbrev r99_4 : List CO := [
  ⟨some 20, .mv (.t 1), none⟩,
  ⟨some 21, .bin .shr (.t 20) (.c (.p (.s (.int .u64 32)))), none⟩,
  ⟨some 9, .mv (.t 21), none⟩]
abbrev r99_5 : List CO := [
  ⟨some 22, .mv (.t 6), none⟩,
  ⟨some 23, .mv (.t 8), none⟩,
  ⟨some 24, .bin .mul (.t 22) (.t 23), none⟩,
  ⟨some 10, .mv (.t 24), none⟩]
abbrev r99_6 : List CO := [
  ⟨some 25, .mv (.t 7), none⟩,
  ⟨some 26, .mv (.t 8), none⟩,
  ⟨some 27, .bin .mul (.t 25) (.t 26), none⟩,
  ⟨some 28, .mv (.t 10), none⟩,
  ⟨some 29, .bin .shr (.t 28) (.c (.p (.s (.int .u64 32)))), none⟩,
  ⟨some 30, .bin .add (.t 27) (.t 29), none⟩,
  ⟨some 11, .mv (.t 30), none⟩]
abbrev r99_7 : List CO := [
  ⟨some 31, .mv (.t 11), none⟩,
  ⟨some 32, .bin .and (.t 31) (.c (.p (.s (.int .u64 4294967295)))), none⟩,
  ⟨some 12, .mv (.t 32), none⟩]
abbrev r99_8 : List CO := [
  ⟨some 33, .mv (.t 11), none⟩,
  ⟨some 34, .bin .shr (.t 33) (.c (.p (.s (.int .u64 32)))), none⟩,
  ⟨some 13, .mv (.t 34), none⟩]
abbrev r99_9 : List CO := [
  ⟨some 35, .mv (.t 12), none⟩,
  ⟨some 36, .mv (.t 6), none⟩,
  ⟨some 37, .mv (.t 9), none⟩,
  ⟨some 38, .bin .mul (.t 36) (.t 37), none⟩,
  ⟨some 39, .bin .add (.t 35) (.t 38), none⟩,
  ⟨some 12, .mv (.t 39), none⟩]
abbrev r99_10 : List CO := [
  ⟨some 40, .mv (.t 7), none⟩,
  ⟨some 41, .mv (.t 9), none⟩,
  ⟨some 42, .bin .mul (.t 40) (.t 41), none⟩,
  ⟨some 43, .mv (.t 13), none⟩,
  ⟨some 44, .bin .add (.t 42) (.t 43), none⟩,
  ⟨some 45, .mv (.t 12), none⟩,
  ⟨some 46, .bin .shr (.t 45) (.c (.p (.s (.int .u64 32)))), none⟩,
  ⟨some 47, .bin .add (.t 44) (.t 46), none⟩,
  ⟨some 4, .mv (.t 47), none⟩]
abbrev r99_11 : List CO := [
  ⟨some 48, .mv (.t 0), none⟩,
  ⟨some 49, .mv (.t 1), none⟩,
  ⟨some 50, .bin .mul (.t 48) (.t 49), none⟩,
  ⟨some 5, .mv (.t 50), none⟩]
abbrev c99 : CC := .seq (.reg r99_0) (.seq (.reg r99_1) (.seq (.reg r99_2) (.seq (.reg r99_3) (.seq (.reg r99_4) (.seq (.reg r99_5) (.rest [0, 1, 6, 7, 8, 9, 10] (.seq (.reg r99_6) (.rest [0, 1, 6, 7, 9, 11] (.seq (.reg r99_7) (.seq (.reg r99_8) (.seq (.reg r99_9) (.rest [0, 1, 7, 9, 12, 13] (.seq (.reg r99_10) (.rest [0, 1, 4] (.seq (.reg r99_11) (.rest [4, 5] (.ret)))))))))))))))))
theorem F99 : Fun Tryd.prog 99 51 c99 [.tmp 4, .tmp 5] 2 := ⟨⟨Tryd.f99, _, Tryd.func99, rfl, by kernel_rfl, Tryd.ntmps99, by kernel_rfl, by kernel_rfl⟩, by decide⟩

/-- (*bytes.asciiSet).contains -/
abbrev r100_0 : List CO := [
  ⟨some 4, .mv (.c (.p (.s (.bool false)))), none⟩]
abbrev r100_1 : List CO := [
  ⟨some 5, .mv (.t 0), none⟩,
  ⟨some 6, .mv (.t 1), none⟩,
  ⟨some 7, .nilchk (.t 5), none⟩,
  ⟨some 8, .iaddrA 1 256 (.t 7) (.t 6), none⟩,
  ⟨some 9, .load false 1 (.t 8), none⟩,
  ⟨some 4, .mv (.t 9), none⟩]
abbrev c100 : CC := .seq (.reg r100_0) (.seq (.reg r100_1) (.rest [4] (.ret)))
theorem F100 : Fun Tryd.prog 100 10 c100 [.tmp 4] 2 := ⟨⟨Tryd.f100, _, Tryd.func100, rfl, by kernel_rfl, Tryd.ntmps100, by kernel_rfl, by kernel_rfl⟩, by decide⟩

end Go.Proofs.YtmkblhinpnodaaaDoor
