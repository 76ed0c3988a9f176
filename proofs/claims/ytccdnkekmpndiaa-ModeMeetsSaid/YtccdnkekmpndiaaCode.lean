/- Code of functions of the given program in compact form, printed by a program of this repository (wip/tools/gen.py) out of what Lean prints of the loaded functions; each is checked by the kernel. -/
import Derived.Test.YtccdnkekmpndiaaZ3
import Derived.Test.YtccdnkekmpndiaaProg
import Derived.KernelRfl
namespace Go.Proofs.Ytccdnkekmpndiaa
open Go Go.Shade

/-- linnet/linnetlaw16.ModeTakes -/
abbrev r3_0 : List CO := [
  ⟨some 2, .box (.t 0), none⟩,
  ⟨some 3, .box (.t 1), none⟩,
  ⟨some 4, .mv (.c (.p (.s (.bool false)))), none⟩]
abbrev r3_1 : List CO := [
  ⟨some 11, .load true 36 (.t 3), none⟩,
  ⟨some 12, .call (.c (.fn (.func 9) [] [])) [.t 11], none⟩,
  ⟨none, .store 36 (.t 3) (.t 12), none⟩]
abbrev r3_2 : List CO := [
  ⟨some 14, .load true 35 (.t 2), none⟩,
  ⟨some 15, .load true 36 (.t 3), none⟩,
  ⟨some 16, .call (.c (.fn (.func 10) [] [])) [.t 14, .t 15], none⟩,
  ⟨some 13, .mv (.t 16), none⟩,
  ⟨some 17, .extract 0 (.t 13), none⟩,
  ⟨some 18, .extract 1 (.t 13), none⟩,
  ⟨some 19, .extract 2 (.t 13), none⟩,
  ⟨some 5, .alloc ([.s (.int .i64 0), .s (.int .u8 0), .s (.int .u8 0), .s (.int .u8 0), .s (.int .u8 0), .s (.int .u8 0), .s (.int .u8 0), .s (.int .u8 0), .s (.int .u8 0), .s (.int .u8 0), .s (.int .u8 0), .s (.int .u8 0), .s (.int .u8 0), .s (.int .u8 0), .s (.int .u8 0), .s (.int .u8 0), .s (.int .u8 0), .s (.int .u8 0), .s (.int .u8 0), .s (.int .u8 0), .s (.int .u8 0), .s (.int .u8 0), .s (.int .u8 0), .s (.int .u8 0), .s (.int .u8 0), .s (.int .u8 0), .s (.int .u8 0), .s (.int .u8 0), .s (.int .u8 0), .s (.int .u8 0), .s (.int .u8 0), .s (.int .u8 0), .s (.int .u8 0), .s (.bool false), .s (.bool false)]), none⟩,
  ⟨none, .store 35 (.t 5) (.t 17), none⟩,
  ⟨some 6, .mv (.t 18), none⟩,
  ⟨some 7, .mv (.t 19), none⟩]
abbrev r3_3 : List CO := [
  ⟨some 20, .load true 35 (.t 2), none⟩,
  ⟨some 21, .call (.c (.fn (.func 11) [] [])) [.t 20], none⟩,
  ⟨some 22, .bin .eql (.t 21) (.c (.p (.s (.int .i64 0)))), none⟩,
  ⟨some 23, .load true 35 (.t 2), none⟩,
  ⟨some 24, .call (.c (.fn (.func 12) [] [])) [.t 23], none⟩,
  ⟨some 25, .beq true (.t 22) (.t 24), none⟩]
abbrev b3_3 : List (List Nat) := [[], [0], [1], [], [3, 1], [2, 4]]
abbrev r3_4 : List CO := [
  ⟨some 4, .mv (.c (.p (.s (.bool false)))), none⟩]
abbrev r3_5 : List CO := [
  ⟨some 26, .load true 35 (.t 2), none⟩,
  ⟨some 27, .call (.c (.fn (.func 12) [] [])) [.t 26], none⟩,
  ⟨some 28, .un .not (.t 27), none⟩,
  ⟨some 29, .mv (.t 28), none⟩,
  ⟨some 30, .load true 36 (.t 3), some (29, false)⟩,
  ⟨some 31, .call (.c (.fn (.func 13) [] [])) [.t 30], some (29, false)⟩,
  ⟨some 32, .un .not (.t 31), some (29, false)⟩,
  ⟨some 33, .pick (.t 29) (.c (.p (.s (.bool true)))) (.t 32), none⟩]
abbrev r3_6 : List CO := [
  ⟨some 34, .load true 35 (.t 5), none⟩,
  ⟨some 35, .load true 35 (.t 2), none⟩,
  ⟨some 36, .eqs false [0, 0, 0, 0, 0, 0, 0, 0, 0, 0, 0, 0, 0, 0, 0, 0, 0, 0, 0, 0, 0, 0, 0, 0, 0, 0, 0, 0, 0, 0, 0, 0, 0, 1, 1] (.t 34) (.t 35), none⟩,
  ⟨some 37, .mv (.t 36), none⟩,
  ⟨some 38, .mv (.t 6), some (37, true)⟩,
  ⟨some 39, .len (.t 38), some (37, true)⟩,
  ⟨some 40, .bin .eql (.t 39) (.c (.p (.s (.int .i64 0)))), some (37, true)⟩,
  ⟨some 41, .pick (.t 37) (.t 40) (.c (.p (.s (.bool false)))), none⟩,
  ⟨some 42, .mv (.t 41), none⟩,
  ⟨some 43, .mv (.t 7), some (42, true)⟩,
  ⟨some 44, .bin .eql (.t 43) (.c (.p (.s (.int .i64 1)))), some (42, true)⟩,
  ⟨some 45, .pick (.t 42) (.t 44) (.c (.p (.s (.bool false)))), none⟩,
  ⟨some 46, .mv (.t 45), none⟩,
  ⟨some 47, .call (.c (.fn (.func 14) [] [])) [], some (46, true)⟩,
  ⟨some 48, .pick (.t 46) (.t 47) (.c (.p (.s (.bool false)))), none⟩,
  ⟨some 4, .mv (.t 48), none⟩]
abbrev r3_7 : List CO := [
  ⟨some 50, .load true 35 (.t 2), none⟩,
  ⟨some 51, .load true 36 (.t 3), none⟩,
  ⟨some 52, .call (.c (.fn (.func 15) [] [])) [.t 50, .t 51], none⟩,
  ⟨some 49, .mv (.t 52), none⟩,
  ⟨some 53, .extract 0 (.t 49), none⟩,
  ⟨some 54, .extract 1 (.t 49), none⟩,
  ⟨some 55, .extract 2 (.t 49), none⟩,
  ⟨some 8, .alloc ([.s (.int .i64 0), .s (.int .u8 0), .s (.int .u8 0), .s (.int .u8 0), .s (.int .u8 0), .s (.int .u8 0), .s (.int .u8 0), .s (.int .u8 0), .s (.int .u8 0), .s (.int .u8 0), .s (.int .u8 0), .s (.int .u8 0), .s (.int .u8 0), .s (.int .u8 0), .s (.int .u8 0), .s (.int .u8 0), .s (.int .u8 0), .s (.int .u8 0), .s (.int .u8 0), .s (.int .u8 0), .s (.int .u8 0), .s (.int .u8 0), .s (.int .u8 0), .s (.int .u8 0), .s (.int .u8 0), .s (.int .u8 0), .s (.int .u8 0), .s (.int .u8 0), .s (.int .u8 0), .s (.int .u8 0), .s (.int .u8 0), .s (.int .u8 0), .s (.int .u8 0), .s (.bool false), .s (.bool false)]), none⟩,
  ⟨none, .store 35 (.t 8) (.t 53), none⟩,
  ⟨some 9, .mv (.t 54), none⟩,
  ⟨some 10, .mv (.t 55), none⟩]
abbrev r3_8 : List CO := [
  ⟨some 56, .load true 35 (.t 5), none⟩,
  ⟨some 57, .load true 35 (.t 8), none⟩,
  ⟨some 58, .eqs false [0, 0, 0, 0, 0, 0, 0, 0, 0, 0, 0, 0, 0, 0, 0, 0, 0, 0, 0, 0, 0, 0, 0, 0, 0, 0, 0, 0, 0, 0, 0, 0, 0, 1, 1] (.t 56) (.t 57), none⟩,
  ⟨some 59, .mv (.t 58), none⟩,
  ⟨some 60, .mv (.t 6), some (59, true)⟩,
  ⟨some 61, .mv (.t 9), some (59, true)⟩,
  ⟨some 62, .call (.c (.fn (.func 16) [] [])) [.t 60, .t 61], some (59, true)⟩,
  ⟨some 63, .pick (.t 59) (.t 62) (.c (.p (.s (.bool false)))), none⟩,
  ⟨some 64, .mv (.t 63), none⟩,
  ⟨some 65, .mv (.t 7), some (64, true)⟩,
  ⟨some 66, .mv (.t 10), some (64, true)⟩,
  ⟨some 67, .bin .eql (.t 65) (.t 66), some (64, true)⟩,
  ⟨some 68, .pick (.t 64) (.t 67) (.c (.p (.s (.bool false)))), none⟩,
  ⟨some 69, .mv (.t 68), none⟩,
  ⟨some 70, .call (.c (.fn (.func 14) [] [])) [], some (69, true)⟩,
  ⟨some 71, .pick (.t 69) (.t 70) (.c (.p (.s (.bool false)))), none⟩,
  ⟨some 4, .mv (.t 71), none⟩]
abbrev c3 : CC := .seq (.reg r3_0) (.seq (.reg r3_1) (.seq (.reg r3_2) (.rest [2, 3, 5, 6, 7] (.seq (.seq (.regd r3_3 b3_3) (.rest [2, 3, 5, 6, 7, 25] (.cond (.t 25) (.seq (.reg r3_4) (.ret)) (.skip)))) (.rest [2, 3, 5, 6, 7] (.seq (.seq (.reg r3_5) (.rest [2, 3, 5, 6, 7, 33] (.cond (.t 33) (.seq (.reg r3_6) (.rest [4] (.ret))) (.skip)))) (.rest [2, 3, 5, 6, 7] (.seq (.reg r3_7) (.rest [5, 6, 7, 8, 9, 10] (.seq (.reg r3_8) (.rest [4] (.ret))))))))))))
theorem F3 : Fun Try.prog 3 72 c3 [.tmp 4] 2 := ⟨⟨Try.f3, _, Try.func3, rfl, by kernel_rfl, Try.ntmps3, by kernel_rfl, by kernel_rfl⟩, by decide⟩

/-- linnet/linnetlaw16.ModeStray -/
abbrev r4_0 : List CO := [
  ⟨some 3, .box (.t 0), none⟩,
  ⟨some 4, .box (.t 1), none⟩,
  ⟨some 5, .box (.t 2), none⟩,
  ⟨some 6, .mv (.c (.p (.s (.bool false)))), none⟩]
abbrev r4_1 : List CO := [
  ⟨some 12, .load true 36 (.t 5), none⟩,
  ⟨some 13, .call (.c (.fn (.func 9) [] [])) [.t 12], none⟩,
  ⟨none, .store 36 (.t 5) (.t 13), none⟩]
abbrev r4_2 : List CO := [
  ⟨some 15, .load true 70 (.t 3), none⟩,
  ⟨some 16, .load true 36 (.t 5), none⟩,
  ⟨some 17, .call (.c (.fn (.func 17) [] [])) [.t 15, .t 16], none⟩,
  ⟨some 14, .mv (.t 17), none⟩,
  ⟨some 18, .extract 0 (.t 14), none⟩,
  ⟨some 19, .extract 1 (.t 14), none⟩,
  ⟨some 7, .alloc ([.s (.int .i64 0), .s (.int .i64 0), .s (.int .i64 0), .s (.int .u8 0), .s (.int .u8 0), .s (.int .u8 0), .s (.int .u8 0), .s (.int .u8 0), .s (.int .u8 0), .s (.int .u8 0), .s (.int .u8 0), .s (.int .u8 0), .s (.int .u8 0), .s (.int .u8 0), .s (.int .u8 0), .s (.int .u8 0), .s (.int .u8 0), .s (.int .u8 0), .s (.int .u8 0), .s (.int .u8 0), .s (.int .u8 0), .s (.int .u8 0), .s (.int .u8 0), .s (.int .u8 0), .s (.int .u8 0), .s (.int .u8 0), .s (.int .u8 0), .s (.int .u8 0), .s (.int .u8 0), .s (.int .u8 0), .s (.int .u8 0), .s (.int .u8 0), .s (.int .u8 0), .s (.int .u8 0), .s (.int .u8 0), .s (.int .u8 0), .s (.int .u8 0), .s (.int .u8 0), .s (.int .u8 0), .s (.int .u8 0), .s (.int .u8 0), .s (.int .u8 0), .s (.int .u8 0), .s (.int .u8 0), .s (.int .u8 0), .s (.int .u8 0), .s (.int .u8 0), .s (.int .u8 0), .s (.int .u8 0), .s (.int .u8 0), .s (.int .u8 0), .s (.int .u8 0), .s (.int .u8 0), .s (.int .u8 0), .s (.int .u8 0), .s (.int .u8 0), .s (.int .u8 0), .s (.int .u8 0), .s (.int .u8 0), .s (.int .u8 0), .s (.int .u8 0), .s (.int .u8 0), .s (.int .u8 0), .s (.int .u8 0), .s (.int .u8 0), .s (.int .u8 0), .s (.int .u8 0), .s (.bool false), .s (.bool false), .s (.int .i64 0)]), none⟩,
  ⟨none, .store 70 (.t 7) (.t 18), none⟩,
  ⟨some 8, .mv (.t 19), none⟩]
abbrev r4_3 : List CO := [
  ⟨some 21, .load true 35 (.t 4), none⟩,
  ⟨some 22, .load true 36 (.t 5), none⟩,
  ⟨some 23, .call (.c (.fn (.func 10) [] [])) [.t 21, .t 22], none⟩,
  ⟨some 20, .mv (.t 23), none⟩,
  ⟨some 24, .extract 0 (.t 20), none⟩,
  ⟨some 25, .extract 1 (.t 20), none⟩,
  ⟨some 26, .extract 2 (.t 20), none⟩,
  ⟨some 9, .alloc ([.s (.int .i64 0), .s (.int .u8 0), .s (.int .u8 0), .s (.int .u8 0), .s (.int .u8 0), .s (.int .u8 0), .s (.int .u8 0), .s (.int .u8 0), .s (.int .u8 0), .s (.int .u8 0), .s (.int .u8 0), .s (.int .u8 0), .s (.int .u8 0), .s (.int .u8 0), .s (.int .u8 0), .s (.int .u8 0), .s (.int .u8 0), .s (.int .u8 0), .s (.int .u8 0), .s (.int .u8 0), .s (.int .u8 0), .s (.int .u8 0), .s (.int .u8 0), .s (.int .u8 0), .s (.int .u8 0), .s (.int .u8 0), .s (.int .u8 0), .s (.int .u8 0), .s (.int .u8 0), .s (.int .u8 0), .s (.int .u8 0), .s (.int .u8 0), .s (.int .u8 0), .s (.bool false), .s (.bool false)]), none⟩,
  ⟨none, .store 35 (.t 9) (.t 24), none⟩,
  ⟨some 10, .mv (.t 25), none⟩,
  ⟨some 11, .mv (.t 26), none⟩]
abbrev r4_4 : List CO := [
  ⟨some 27, .mv (.t 8), none⟩,
  ⟨some 28, .bin .neq (.t 27) (.c (.p (.s (.int .i64 0)))), none⟩,
  ⟨some 29, .mv (.t 28), none⟩,
  ⟨some 30, .load true 70 (.t 7), some (29, true)⟩,
  ⟨some 31, .load true 70 (.t 3), some (29, true)⟩,
  ⟨some 32, .eqs true [0, 0, 0, 0, 0, 0, 0, 0, 0, 0, 0, 0, 0, 0, 0, 0, 0, 0, 0, 0, 0, 0, 0, 0, 0, 0, 0, 0, 0, 0, 0, 0, 0, 0, 0, 0, 0, 0, 0, 0, 0, 0, 0, 0, 0, 0, 0, 0, 0, 0, 0, 0, 0, 0, 0, 0, 0, 0, 0, 0, 0, 0, 0, 0, 0, 0, 0, 1, 1, 0] (.t 30) (.t 31), some (29, true)⟩,
  ⟨some 33, .pick (.t 29) (.t 32) (.c (.p (.s (.bool false)))), none⟩,
  ⟨some 34, .mv (.t 33), none⟩,
  ⟨some 35, .mv (.t 11), some (34, false)⟩,
  ⟨some 36, .bin .neq (.t 35) (.c (.p (.s (.int .i64 0)))), some (34, false)⟩,
  ⟨some 37, .mv (.t 36), some (34, false)⟩,
  ⟨some 38, .load true 35 (.t 9), some (37, true)⟩,
  ⟨some 39, .load true 35 (.t 4), some (37, true)⟩,
  ⟨some 40, .eqs true [0, 0, 0, 0, 0, 0, 0, 0, 0, 0, 0, 0, 0, 0, 0, 0, 0, 0, 0, 0, 0, 0, 0, 0, 0, 0, 0, 0, 0, 0, 0, 0, 0, 1, 1] (.t 38) (.t 39), some (37, true)⟩,
  ⟨some 41, .mv (.t 40), some (37, true)⟩,
  ⟨some 42, .mv (.t 10), some (41, false)⟩,
  ⟨some 43, .len (.t 42), some (41, false)⟩,
  ⟨some 44, .bin .neq (.t 43) (.c (.p (.s (.int .i64 0)))), some (41, false)⟩,
  ⟨some 45, .pick (.t 41) (.c (.p (.s (.bool true)))) (.t 44), some (37, true)⟩,
  ⟨some 46, .pick (.t 37) (.t 45) (.c (.p (.s (.bool false)))), some (34, false)⟩,
  ⟨some 47, .pick (.t 34) (.c (.p (.s (.bool true)))) (.t 46), none⟩]
abbrev r4_5 : List CO := [
  ⟨some 6, .mv (.c (.p (.s (.bool false)))), none⟩]
abbrev r4_6 : List CO := [
  ⟨some 48, .load true 70 (.t 3), none⟩,
  ⟨some 49, .call (.c (.fn (.func 18) [] [])) [.t 48], none⟩,
  ⟨some 50, .bin .eql (.t 49) (.c (.p (.s (.int .i64 0)))), none⟩,
  ⟨some 51, .mv (.t 50), none⟩,
  ⟨some 52, .load true 70 (.t 7), some (51, true)⟩,
  ⟨some 53, .call (.c (.fn (.func 18) [] [])) [.t 52], some (51, true)⟩,
  ⟨some 54, .bin .neq (.t 53) (.c (.p (.s (.int .i64 0)))), some (51, true)⟩,
  ⟨some 55, .mv (.t 54), some (51, true)⟩,
  ⟨some 56, .faddr 2 (.t 3), some (55, false)⟩,
  ⟨some 57, .load false 1 (.t 56), some (55, false)⟩,
  ⟨some 58, .faddr 69 (.t 3), some (55, false)⟩,
  ⟨some 59, .load false 1 (.t 58), some (55, false)⟩,
  ⟨some 60, .bin .add (.t 57) (.t 59), some (55, false)⟩,
  ⟨some 61, .bin .eql (.t 60) (.c (.p (.s (.int .i64 0)))), some (55, false)⟩,
  ⟨some 62, .mv (.t 61), some (55, false)⟩,
  ⟨some 63, .mv (.t 8), some (62, true)⟩,
  ⟨some 64, .bin .eql (.t 63) (.c (.p (.s (.int .i64 0)))), some (62, true)⟩,
  ⟨some 65, .pick (.t 62) (.t 64) (.c (.p (.s (.bool false)))), some (55, false)⟩,
  ⟨some 66, .pick (.t 55) (.c (.p (.s (.bool true)))) (.t 65), some (51, true)⟩,
  ⟨some 67, .mv (.t 66), some (51, true)⟩,
  ⟨some 68, .faddr 0 (.t 5), some (67, false)⟩,
  ⟨some 69, .load false 1 (.t 68), some (67, false)⟩,
  ⟨some 70, .bin .eql (.t 69) (.c (.p (.s (.int .i64 3)))), some (67, false)⟩,
  ⟨some 71, .mv (.t 70), some (67, false)⟩,
  ⟨some 72, .mv (.t 8), some (71, true)⟩,
  ⟨some 73, .bin .eql (.t 72) (.c (.p (.s (.int .i64 0)))), some (71, true)⟩,
  ⟨some 74, .pick (.t 71) (.t 73) (.c (.p (.s (.bool false)))), some (67, false)⟩,
  ⟨some 75, .pick (.t 67) (.c (.p (.s (.bool true)))) (.t 74), some (51, true)⟩,
  ⟨some 76, .pick (.t 51) (.t 75) (.c (.p (.s (.bool false)))), none⟩]
abbrev r4_7 : List CO := [
  ⟨some 6, .mv (.c (.p (.s (.bool false)))), none⟩]
abbrev r4_8 : List CO := [
  ⟨some 77, .load true 35 (.t 4), none⟩,
  ⟨some 78, .call (.c (.fn (.func 11) [] [])) [.t 77], none⟩,
  ⟨some 79, .bin .eql (.t 78) (.c (.p (.s (.int .i64 0)))), none⟩,
  ⟨some 80, .mv (.t 79), none⟩,
  ⟨some 81, .load true 35 (.t 9), some (80, true)⟩,
  ⟨some 82, .call (.c (.fn (.func 11) [] [])) [.t 81], some (80, true)⟩,
  ⟨some 83, .bin .neq (.t 82) (.c (.p (.s (.int .i64 0)))), some (80, true)⟩,
  ⟨some 84, .mv (.t 83), some (80, true)⟩,
  ⟨some 85, .faddr 34 (.t 9), some (84, false)⟩,
  ⟨some 86, .load false 1 (.t 85), some (84, false)⟩,
  ⟨some 87, .faddr 34 (.t 4), some (84, false)⟩,
  ⟨some 88, .load false 1 (.t 87), some (84, false)⟩,
  ⟨some 89, .beq true (.t 86) (.t 88), some (84, false)⟩,
  ⟨some 90, .pick (.t 84) (.c (.p (.s (.bool true)))) (.t 89), some (80, true)⟩,
  ⟨some 91, .mv (.t 90), some (80, true)⟩,
  ⟨some 92, .mv (.t 10), some (91, false)⟩,
  ⟨some 93, .len (.t 92), some (91, false)⟩,
  ⟨some 94, .bin .gtr (.t 93) (.c (.p (.s (.int .i64 1)))), some (91, false)⟩,
  ⟨some 95, .pick (.t 91) (.c (.p (.s (.bool true)))) (.t 94), some (80, true)⟩,
  ⟨some 96, .pick (.t 80) (.t 95) (.c (.p (.s (.bool false)))), none⟩]
abbrev r4_9 : List CO := [
  ⟨some 6, .mv (.c (.p (.s (.bool false)))), none⟩]
abbrev r4_10 : List CO := [
  ⟨some 97, .mv (.t 10), none⟩,
  ⟨some 98, .len (.t 97), none⟩,
  ⟨some 99, .bin .eql (.t 98) (.c (.p (.s (.int .i64 0)))), none⟩,
  ⟨some 100, .mv (.t 99), none⟩,
  ⟨some 101, .mv (.t 10), some (100, false)⟩,
  ⟨some 102, .iaddrS 36 (.t 101) (.c (.p (.s (.int .i64 0)))), some (100, false)⟩,
  ⟨some 103, .load true 36 (.t 102), some (100, false)⟩,
  ⟨some 104, .call (.c (.fn (.func 19) [] [])) [.t 103], some (100, false)⟩,
  ⟨some 105, .bin .eql (.t 104) (.c (.p (.s (.int .i64 0)))), some (100, false)⟩,
  ⟨some 106, .mv (.t 105), some (100, false)⟩,
  ⟨some 107, .mv (.t 10), some (106, true)⟩,
  ⟨some 108, .iaddrS 36 (.t 107) (.c (.p (.s (.int .i64 0)))), some (106, true)⟩,
  ⟨some 109, .faddr 0 (.t 108), some (106, true)⟩,
  ⟨some 110, .load false 1 (.t 109), some (106, true)⟩,
  ⟨some 111, .faddr 0 (.t 5), some (106, true)⟩,
  ⟨some 112, .load false 1 (.t 111), some (106, true)⟩,
  ⟨some 113, .bin .eql (.t 110) (.t 112), some (106, true)⟩,
  ⟨some 114, .pick (.t 106) (.t 113) (.c (.p (.s (.bool false)))), some (100, false)⟩,
  ⟨some 115, .pick (.t 100) (.c (.p (.s (.bool true)))) (.t 114), none⟩,
  ⟨some 116, .mv (.t 115), none⟩,
  ⟨some 117, .call (.c (.fn (.func 14) [] [])) [], some (116, true)⟩,
  ⟨some 118, .pick (.t 116) (.t 117) (.c (.p (.s (.bool false)))), none⟩,
  ⟨some 6, .mv (.t 118), none⟩]
abbrev b4_10 : List (List Nat) := [[], [0], [1], [2], [3], [4, 3], [5, 3], [6, 3, 3], [7, 3], [8, 7, 3], [9], [10, 9], [11, 9], [12, 9], [9], [14, 9], [13, 15, 9], [9, 16, 3], [3, 17], [18, 9], [19, 19], [19, 20], [21, 20, 0, 1, 2, 3, 4, 5, 6, 7, 8, 9, 10, 11, 12, 13, 14, 15, 16, 17, 18, 19, 20, 21]]
abbrev c4 : CC := .seq (.reg r4_0) (.rest [3, 4, 5] (.seq (.reg r4_1) (.seq (.reg r4_2) (.rest [3, 4, 5, 7, 8] (.seq (.reg r4_3) (.rest [3, 4, 5, 7, 8, 9, 10, 11] (.seq (.seq (.reg r4_4) (.rest [3, 4, 5, 7, 8, 9, 10, 47] (.cond (.t 47) (.seq (.reg r4_5) (.ret)) (.skip)))) (.rest [3, 4, 5, 7, 8, 9, 10] (.seq (.seq (.reg r4_6) (.rest [4, 5, 9, 10, 76] (.cond (.t 76) (.seq (.reg r4_7) (.ret)) (.skip)))) (.rest [4, 5, 9, 10] (.seq (.seq (.reg r4_8) (.rest [5, 10, 96] (.cond (.t 96) (.seq (.reg r4_9) (.ret)) (.skip)))) (.rest [5, 10] (.seq (.regd r4_10 b4_10) (.rest [6] (.ret)))))))))))))))
theorem F4 : Fun Try.prog 4 119 c4 [.tmp 6] 3 := ⟨⟨Try.f4, _, Try.func4, rfl, by kernel_rfl, Try.ntmps4, by kernel_rfl, by kernel_rfl⟩, by decide⟩

/-- linnet/linnetlaw16.ModeHad -/
abbrev r5_0 : List CO := [
  ⟨some 2, .box (.t 0), none⟩,
  ⟨some 3, .box (.t 1), none⟩,
  ⟨some 4, .mv (.c (.p (.s (.bool false)))), none⟩]
abbrev r5_1 : List CO := [
  ⟨some 7, .load true 36 (.t 3), none⟩,
  ⟨some 8, .call (.c (.fn (.func 9) [] [])) [.t 7], none⟩,
  ⟨none, .store 36 (.t 3) (.t 8), none⟩]
abbrev r5_2 : List CO := [
  ⟨some 10, .load true 70 (.t 2), none⟩,
  ⟨some 11, .load true 36 (.t 3), none⟩,
  ⟨some 12, .call (.c (.fn (.func 17) [] [])) [.t 10, .t 11], none⟩,
  ⟨some 9, .mv (.t 12), none⟩,
  ⟨some 13, .extract 0 (.t 9), none⟩,
  ⟨some 14, .extract 1 (.t 9), none⟩,
  ⟨some 5, .alloc ([.s (.int .i64 0), .s (.int .i64 0), .s (.int .i64 0), .s (.int .u8 0), .s (.int .u8 0), .s (.int .u8 0), .s (.int .u8 0), .s (.int .u8 0), .s (.int .u8 0), .s (.int .u8 0), .s (.int .u8 0), .s (.int .u8 0), .s (.int .u8 0), .s (.int .u8 0), .s (.int .u8 0), .s (.int .u8 0), .s (.int .u8 0), .s (.int .u8 0), .s (.int .u8 0), .s (.int .u8 0), .s (.int .u8 0), .s (.int .u8 0), .s (.int .u8 0), .s (.int .u8 0), .s (.int .u8 0), .s (.int .u8 0), .s (.int .u8 0), .s (.int .u8 0), .s (.int .u8 0), .s (.int .u8 0), .s (.int .u8 0), .s (.int .u8 0), .s (.int .u8 0), .s (.int .u8 0), .s (.int .u8 0), .s (.int .u8 0), .s (.int .u8 0), .s (.int .u8 0), .s (.int .u8 0), .s (.int .u8 0), .s (.int .u8 0), .s (.int .u8 0), .s (.int .u8 0), .s (.int .u8 0), .s (.int .u8 0), .s (.int .u8 0), .s (.int .u8 0), .s (.int .u8 0), .s (.int .u8 0), .s (.int .u8 0), .s (.int .u8 0), .s (.int .u8 0), .s (.int .u8 0), .s (.int .u8 0), .s (.int .u8 0), .s (.int .u8 0), .s (.int .u8 0), .s (.int .u8 0), .s (.int .u8 0), .s (.int .u8 0), .s (.int .u8 0), .s (.int .u8 0), .s (.int .u8 0), .s (.int .u8 0), .s (.int .u8 0), .s (.int .u8 0), .s (.int .u8 0), .s (.bool false), .s (.bool false), .s (.int .i64 0)]), none⟩,
  ⟨none, .store 70 (.t 5) (.t 13), none⟩,
  ⟨some 6, .mv (.t 14), none⟩]
abbrev r5_3 : List CO := [
  ⟨some 15, .mv (.t 6), none⟩,
  ⟨some 16, .bin .neq (.t 15) (.c (.p (.s (.int .i64 0)))), none⟩]
abbrev r5_4 : List CO := [
  ⟨some 17, .load true 70 (.t 5), none⟩,
  ⟨some 18, .load true 70 (.t 2), none⟩,
  ⟨some 19, .eqs false [0, 0, 0, 0, 0, 0, 0, 0, 0, 0, 0, 0, 0, 0, 0, 0, 0, 0, 0, 0, 0, 0, 0, 0, 0, 0, 0, 0, 0, 0, 0, 0, 0, 0, 0, 0, 0, 0, 0, 0, 0, 0, 0, 0, 0, 0, 0, 0, 0, 0, 0, 0, 0, 0, 0, 0, 0, 0, 0, 0, 0, 0, 0, 0, 0, 0, 0, 1, 1, 0] (.t 17) (.t 18), none⟩,
  ⟨some 20, .mv (.t 19), none⟩,
  ⟨some 21, .call (.c (.fn (.func 14) [] [])) [], some (20, true)⟩,
  ⟨some 22, .pick (.t 20) (.t 21) (.c (.p (.s (.bool false)))), none⟩,
  ⟨some 4, .mv (.t 22), none⟩]
abbrev r5_5 : List CO := [
  ⟨some 23, .faddr 0 (.t 5), none⟩,
  ⟨some 24, .load false 1 (.t 23), none⟩,
  ⟨some 25, .faddr 0 (.t 2), none⟩,
  ⟨some 26, .load false 1 (.t 25), none⟩,
  ⟨some 27, .bin .neq (.t 24) (.t 26), none⟩,
  ⟨some 28, .mv (.t 27), none⟩,
  ⟨some 29, .faddr 67 (.t 5), some (28, false)⟩,
  ⟨some 30, .load false 1 (.t 29), some (28, false)⟩,
  ⟨some 31, .faddr 67 (.t 2), some (28, false)⟩,
  ⟨some 32, .load false 1 (.t 31), some (28, false)⟩,
  ⟨some 33, .beq true (.t 30) (.t 32), some (28, false)⟩,
  ⟨some 34, .pick (.t 28) (.c (.p (.s (.bool true)))) (.t 33), none⟩,
  ⟨some 35, .mv (.t 34), none⟩,
  ⟨some 36, .faddr 3 (.t 5), some (35, false)⟩,
  ⟨some 37, .load true 32 (.t 36), some (35, false)⟩,
  ⟨some 38, .faddr 3 (.t 2), some (35, false)⟩,
  ⟨some 39, .load true 32 (.t 38), some (35, false)⟩,
  ⟨some 40, .eqs true (List.replicate 32 0) (.t 37) (.t 39), some (35, false)⟩,
  ⟨some 41, .pick (.t 35) (.c (.p (.s (.bool true)))) (.t 40), none⟩,
  ⟨some 42, .mv (.t 41), none⟩,
  ⟨some 43, .faddr 2 (.t 5), some (42, false)⟩,
  ⟨some 44, .load false 1 (.t 43), some (42, false)⟩,
  ⟨some 45, .faddr 69 (.t 5), some (42, false)⟩,
  ⟨some 46, .load false 1 (.t 45), some (42, false)⟩,
  ⟨some 47, .bin .add (.t 44) (.t 46), some (42, false)⟩,
  ⟨some 48, .faddr 2 (.t 2), some (42, false)⟩,
  ⟨some 49, .load false 1 (.t 48), some (42, false)⟩,
  ⟨some 50, .faddr 69 (.t 2), some (42, false)⟩,
  ⟨some 51, .load false 1 (.t 50), some (42, false)⟩,
  ⟨some 52, .bin .add (.t 49) (.t 51), some (42, false)⟩,
  ⟨some 53, .bin .sub (.t 52) (.c (.p (.s (.int .i64 1)))), some (42, false)⟩,
  ⟨some 54, .bin .neq (.t 47) (.t 53), some (42, false)⟩,
  ⟨some 55, .pick (.t 42) (.c (.p (.s (.bool true)))) (.t 54), none⟩]
abbrev r5_6 : List CO := [
  ⟨some 4, .mv (.c (.p (.s (.bool false)))), none⟩]
abbrev r5_7 : List CO := [
  ⟨some 56, .faddr 0 (.t 3), none⟩,
  ⟨some 57, .load false 1 (.t 56), none⟩,
  ⟨some 58, .bin .eql (.t 57) (.c (.p (.s (.int .i64 1)))), none⟩]
abbrev r5_8 : List CO := [
  ⟨some 59, .faddr 69 (.t 5), none⟩,
  ⟨some 60, .load false 1 (.t 59), none⟩,
  ⟨some 61, .faddr 69 (.t 2), none⟩,
  ⟨some 62, .load false 1 (.t 61), none⟩,
  ⟨some 63, .bin .eql (.t 60) (.t 62), none⟩,
  ⟨some 64, .mv (.t 63), none⟩,
  ⟨some 65, .faddr 68 (.t 5), some (64, true)⟩,
  ⟨some 66, .load false 1 (.t 65), some (64, true)⟩,
  ⟨some 67, .faddr 68 (.t 2), some (64, true)⟩,
  ⟨some 68, .load false 1 (.t 67), some (64, true)⟩,
  ⟨some 69, .beq false (.t 66) (.t 68), some (64, true)⟩,
  ⟨some 70, .pick (.t 64) (.t 69) (.c (.p (.s (.bool false)))), none⟩,
  ⟨some 71, .mv (.t 70), none⟩,
  ⟨some 72, .faddr 35 (.t 5), some (71, true)⟩,
  ⟨some 73, .load true 32 (.t 72), some (71, true)⟩,
  ⟨some 74, .faddr 35 (.t 2), some (71, true)⟩,
  ⟨some 75, .load true 32 (.t 74), some (71, true)⟩,
  ⟨some 76, .eqs false (List.replicate 32 0) (.t 73) (.t 75), some (71, true)⟩,
  ⟨some 77, .pick (.t 71) (.t 76) (.c (.p (.s (.bool false)))), none⟩,
  ⟨some 78, .mv (.t 77), none⟩,
  ⟨some 79, .faddr 1 (.t 5), some (78, true)⟩,
  ⟨some 80, .load false 1 (.t 79), some (78, true)⟩,
  ⟨some 81, .faddr 1 (.t 3), some (78, true)⟩,
  ⟨some 82, .load false 1 (.t 81), some (78, true)⟩,
  ⟨some 83, .bin .and (.t 82) (.c (.p (.s (.int .i64 27)))), some (78, true)⟩,
  ⟨some 84, .bin .eql (.t 80) (.t 83), some (78, true)⟩,
  ⟨some 85, .pick (.t 78) (.t 84) (.c (.p (.s (.bool false)))), none⟩,
  ⟨some 86, .mv (.t 85), none⟩,
  ⟨some 87, .call (.c (.fn (.func 14) [] [])) [], some (86, true)⟩,
  ⟨some 88, .pick (.t 86) (.t 87) (.c (.p (.s (.bool false)))), none⟩,
  ⟨some 4, .mv (.t 88), none⟩]
abbrev r5_9 : List CO := [
  ⟨some 89, .faddr 2 (.t 5), none⟩,
  ⟨some 90, .load false 1 (.t 89), none⟩,
  ⟨some 91, .faddr 2 (.t 2), none⟩,
  ⟨some 92, .load false 1 (.t 91), none⟩,
  ⟨some 93, .bin .eql (.t 90) (.t 92), none⟩,
  ⟨some 94, .mv (.t 93), none⟩,
  ⟨some 95, .faddr 1 (.t 5), some (94, true)⟩,
  ⟨some 96, .load false 1 (.t 95), some (94, true)⟩,
  ⟨some 97, .faddr 1 (.t 2), some (94, true)⟩,
  ⟨some 98, .load false 1 (.t 97), some (94, true)⟩,
  ⟨some 99, .bin .eql (.t 96) (.t 98), some (94, true)⟩,
  ⟨some 100, .pick (.t 94) (.t 99) (.c (.p (.s (.bool false)))), none⟩,
  ⟨some 101, .mv (.t 100), none⟩,
  ⟨some 102, .faddr 69 (.t 5), some (101, true)⟩,
  ⟨some 103, .load false 1 (.t 102), some (101, true)⟩,
  ⟨some 104, .bin .eql (.t 103) (.c (.p (.s (.int .i64 0)))), some (101, true)⟩,
  ⟨some 105, .mv (.t 104), some (101, true)⟩,
  ⟨some 106, .faddr 68 (.t 5), some (105, false)⟩,
  ⟨some 107, .load false 1 (.t 106), some (105, false)⟩,
  ⟨some 108, .faddr 68 (.t 2), some (105, false)⟩,
  ⟨some 109, .load false 1 (.t 108), some (105, false)⟩,
  ⟨some 110, .beq false (.t 107) (.t 109), some (105, false)⟩,
  ⟨some 111, .mv (.t 110), some (105, false)⟩,
  ⟨some 112, .faddr 35 (.t 5), some (111, true)⟩,
  ⟨some 113, .load true 32 (.t 112), some (111, true)⟩,
  ⟨some 114, .faddr 35 (.t 2), some (111, true)⟩,
  ⟨some 115, .load true 32 (.t 114), some (111, true)⟩,
  ⟨some 116, .eqs false (List.replicate 32 0) (.t 113) (.t 115), some (111, true)⟩,
  ⟨some 117, .pick (.t 111) (.t 116) (.c (.p (.s (.bool false)))), some (105, false)⟩,
  ⟨some 118, .pick (.t 105) (.c (.p (.s (.bool true)))) (.t 117), some (101, true)⟩,
  ⟨some 119, .pick (.t 101) (.t 118) (.c (.p (.s (.bool false)))), none⟩,
  ⟨some 120, .mv (.t 119), none⟩,
  ⟨some 121, .call (.c (.fn (.func 14) [] [])) [], some (120, true)⟩,
  ⟨some 122, .pick (.t 120) (.t 121) (.c (.p (.s (.bool false)))), none⟩,
  ⟨some 4, .mv (.t 122), none⟩]
abbrev c5 : CC := .seq (.reg r5_0) (.seq (.reg r5_1) (.seq (.reg r5_2) (.rest [2, 3, 5, 6] (.seq (.seq (.reg r5_3) (.cond (.t 16) (.seq (.reg r5_4) (.rest [4] (.ret))) (.skip))) (.rest [2, 3, 5] (.seq (.seq (.reg r5_5) (.rest [2, 3, 5, 55] (.cond (.t 55) (.seq (.reg r5_6) (.ret)) (.skip)))) (.rest [2, 3, 5] (.seq (.seq (.reg r5_7) (.cond (.t 58) (.seq (.reg r5_8) (.rest [4] (.ret))) (.skip))) (.rest [2, 5] (.seq (.reg r5_9) (.rest [4] (.ret))))))))))))
theorem F5 : Fun Try.prog 5 123 c5 [.tmp 4] 2 := ⟨⟨Try.f5, _, Try.func5, rfl, by kernel_rfl, Try.ntmps5, by kernel_rfl, by kernel_rfl⟩, by decide⟩

/-- linnet/linnetlaw16.ModeAsks -/
abbrev r6_0 : List CO := [
  ⟨some 3, .box (.t 0), none⟩,
  ⟨some 4, .box (.t 1), none⟩,
  ⟨some 5, .box (.t 2), none⟩,
  ⟨some 6, .mv (.c (.p (.s (.bool false)))), none⟩]
abbrev r6_1 : List CO := [
  ⟨some 23, .load true 36 (.t 5), none⟩,
  ⟨some 24, .call (.c (.fn (.func 9) [] [])) [.t 23], none⟩,
  ⟨none, .store 36 (.t 5) (.t 24), none⟩]
abbrev r6_2 : List CO := [
  ⟨some 26, .load true 70 (.t 3), none⟩,
  ⟨some 27, .faddr 0 (.t 4), none⟩,
  ⟨some 28, .load false 1 (.t 27), none⟩,
  ⟨some 29, .call (.c (.fn (.func 20) [] [])) [.t 26, .t 28], none⟩,
  ⟨some 25, .mv (.t 29), none⟩,
  ⟨some 30, .extract 0 (.t 25), none⟩,
  ⟨some 31, .extract 1 (.t 25), none⟩,
  ⟨some 32, .extract 2 (.t 25), none⟩,
  ⟨some 7, .alloc ([.s (.int .i64 0), .s (.int .i64 0), .s (.int .i64 0), .s (.int .u8 0), .s (.int .u8 0), .s (.int .u8 0), .s (.int .u8 0), .s (.int .u8 0), .s (.int .u8 0), .s (.int .u8 0), .s (.int .u8 0), .s (.int .u8 0), .s (.int .u8 0), .s (.int .u8 0), .s (.int .u8 0), .s (.int .u8 0), .s (.int .u8 0), .s (.int .u8 0), .s (.int .u8 0), .s (.int .u8 0), .s (.int .u8 0), .s (.int .u8 0), .s (.int .u8 0), .s (.int .u8 0), .s (.int .u8 0), .s (.int .u8 0), .s (.int .u8 0), .s (.int .u8 0), .s (.int .u8 0), .s (.int .u8 0), .s (.int .u8 0), .s (.int .u8 0), .s (.int .u8 0), .s (.int .u8 0), .s (.int .u8 0), .s (.int .u8 0), .s (.int .u8 0), .s (.int .u8 0), .s (.int .u8 0), .s (.int .u8 0), .s (.int .u8 0), .s (.int .u8 0), .s (.int .u8 0), .s (.int .u8 0), .s (.int .u8 0), .s (.int .u8 0), .s (.int .u8 0), .s (.int .u8 0), .s (.int .u8 0), .s (.int .u8 0), .s (.int .u8 0), .s (.int .u8 0), .s (.int .u8 0), .s (.int .u8 0), .s (.int .u8 0), .s (.int .u8 0), .s (.int .u8 0), .s (.int .u8 0), .s (.int .u8 0), .s (.int .u8 0), .s (.int .u8 0), .s (.int .u8 0), .s (.int .u8 0), .s (.int .u8 0), .s (.int .u8 0), .s (.int .u8 0), .s (.int .u8 0), .s (.bool false), .s (.bool false), .s (.int .i64 0)]), none⟩,
  ⟨none, .store 70 (.t 7) (.t 30), none⟩,
  ⟨some 8, .mv (.t 31), none⟩,
  ⟨some 9, .mv (.t 32), none⟩]
abbrev r6_3 : List CO := [
  ⟨some 34, .load true 70 (.t 3), none⟩,
  ⟨some 35, .faddr 2 (.t 4), none⟩,
  ⟨some 36, .load false 1 (.t 35), none⟩,
  ⟨some 37, .faddr 3 (.t 4), none⟩,
  ⟨some 38, .load true 32 (.t 37), none⟩,
  ⟨some 39, .call (.c (.fn (.func 21) [] [])) [.t 34, .t 36, .t 38], none⟩,
  ⟨some 33, .mv (.t 39), none⟩,
  ⟨some 40, .extract 0 (.t 33), none⟩,
  ⟨some 41, .extract 1 (.t 33), none⟩,
  ⟨some 42, .extract 2 (.t 33), none⟩,
  ⟨some 10, .alloc ([.s (.int .i64 0), .s (.int .i64 0), .s (.int .i64 0), .s (.int .u8 0), .s (.int .u8 0), .s (.int .u8 0), .s (.int .u8 0), .s (.int .u8 0), .s (.int .u8 0), .s (.int .u8 0), .s (.int .u8 0), .s (.int .u8 0), .s (.int .u8 0), .s (.int .u8 0), .s (.int .u8 0), .s (.int .u8 0), .s (.int .u8 0), .s (.int .u8 0), .s (.int .u8 0), .s (.int .u8 0), .s (.int .u8 0), .s (.int .u8 0), .s (.int .u8 0), .s (.int .u8 0), .s (.int .u8 0), .s (.int .u8 0), .s (.int .u8 0), .s (.int .u8 0), .s (.int .u8 0), .s (.int .u8 0), .s (.int .u8 0), .s (.int .u8 0), .s (.int .u8 0), .s (.int .u8 0), .s (.int .u8 0), .s (.int .u8 0), .s (.int .u8 0), .s (.int .u8 0), .s (.int .u8 0), .s (.int .u8 0), .s (.int .u8 0), .s (.int .u8 0), .s (.int .u8 0), .s (.int .u8 0), .s (.int .u8 0), .s (.int .u8 0), .s (.int .u8 0), .s (.int .u8 0), .s (.int .u8 0), .s (.int .u8 0), .s (.int .u8 0), .s (.int .u8 0), .s (.int .u8 0), .s (.int .u8 0), .s (.int .u8 0), .s (.int .u8 0), .s (.int .u8 0), .s (.int .u8 0), .s (.int .u8 0), .s (.int .u8 0), .s (.int .u8 0), .s (.int .u8 0), .s (.int .u8 0), .s (.int .u8 0), .s (.int .u8 0), .s (.int .u8 0), .s (.int .u8 0), .s (.bool false), .s (.bool false), .s (.int .i64 0)]), none⟩,
  ⟨none, .store 70 (.t 10) (.t 40), none⟩,
  ⟨some 11, .mv (.t 41), none⟩,
  ⟨some 12, .mv (.t 42), none⟩]
abbrev r6_4 : List CO := [
  ⟨some 44, .load true 70 (.t 3), none⟩,
  ⟨some 45, .load true 36 (.t 5), none⟩,
  ⟨some 46, .call (.c (.fn (.func 17) [] [])) [.t 44, .t 45], none⟩,
  ⟨some 43, .mv (.t 46), none⟩,
  ⟨some 47, .extract 0 (.t 43), none⟩,
  ⟨some 48, .extract 1 (.t 43), none⟩,
  ⟨some 13, .alloc ([.s (.int .i64 0), .s (.int .i64 0), .s (.int .i64 0), .s (.int .u8 0), .s (.int .u8 0), .s (.int .u8 0), .s (.int .u8 0), .s (.int .u8 0), .s (.int .u8 0), .s (.int .u8 0), .s (.int .u8 0), .s (.int .u8 0), .s (.int .u8 0), .s (.int .u8 0), .s (.int .u8 0), .s (.int .u8 0), .s (.int .u8 0), .s (.int .u8 0), .s (.int .u8 0), .s (.int .u8 0), .s (.int .u8 0), .s (.int .u8 0), .s (.int .u8 0), .s (.int .u8 0), .s (.int .u8 0), .s (.int .u8 0), .s (.int .u8 0), .s (.int .u8 0), .s (.int .u8 0), .s (.int .u8 0), .s (.int .u8 0), .s (.int .u8 0), .s (.int .u8 0), .s (.int .u8 0), .s (.int .u8 0), .s (.int .u8 0), .s (.int .u8 0), .s (.int .u8 0), .s (.int .u8 0), .s (.int .u8 0), .s (.int .u8 0), .s (.int .u8 0), .s (.int .u8 0), .s (.int .u8 0), .s (.int .u8 0), .s (.int .u8 0), .s (.int .u8 0), .s (.int .u8 0), .s (.int .u8 0), .s (.int .u8 0), .s (.int .u8 0), .s (.int .u8 0), .s (.int .u8 0), .s (.int .u8 0), .s (.int .u8 0), .s (.int .u8 0), .s (.int .u8 0), .s (.int .u8 0), .s (.int .u8 0), .s (.int .u8 0), .s (.int .u8 0), .s (.int .u8 0), .s (.int .u8 0), .s (.int .u8 0), .s (.int .u8 0), .s (.int .u8 0), .s (.int .u8 0), .s (.bool false), .s (.bool false), .s (.int .i64 0)]), none⟩,
  ⟨none, .store 70 (.t 13) (.t 47), none⟩,
  ⟨some 14, .mv (.t 48), none⟩]
abbrev r6_5 : List CO := [
  ⟨some 49, .load true 70 (.t 3), none⟩,
  ⟨some 50, .call (.c (.fn (.func 18) [] [])) [.t 49], none⟩,
  ⟨some 51, .bin .eql (.t 50) (.c (.p (.s (.int .i64 0)))), none⟩,
  ⟨some 52, .load true 70 (.t 3), none⟩,
  ⟨some 53, .call (.c (.fn (.func 22) [] [])) [.t 52], none⟩,
  ⟨some 54, .beq true (.t 51) (.t 53), none⟩]
abbrev b6_5 : List (List Nat) := [[], [0], [1], [], [3, 1], [2, 4]]
abbrev r6_6 : List CO := [
  ⟨some 6, .mv (.c (.p (.s (.bool false)))), none⟩]
abbrev r6_7 : List CO := [
  ⟨some 55, .load true 70 (.t 3), none⟩,
  ⟨some 56, .call (.c (.fn (.func 22) [] [])) [.t 55], none⟩,
  ⟨some 57, .un .not (.t 56), none⟩]
abbrev r6_8 : List CO := [
  ⟨some 58, .load true 70 (.t 7), none⟩,
  ⟨some 59, .load true 70 (.t 3), none⟩,
  ⟨some 60, .eqs false [0, 0, 0, 0, 0, 0, 0, 0, 0, 0, 0, 0, 0, 0, 0, 0, 0, 0, 0, 0, 0, 0, 0, 0, 0, 0, 0, 0, 0, 0, 0, 0, 0, 0, 0, 0, 0, 0, 0, 0, 0, 0, 0, 0, 0, 0, 0, 0, 0, 0, 0, 0, 0, 0, 0, 0, 0, 0, 0, 0, 0, 0, 0, 0, 0, 0, 0, 1, 1, 0] (.t 58) (.t 59), none⟩,
  ⟨some 61, .mv (.t 60), none⟩,
  ⟨some 62, .load true 70 (.t 10), some (61, true)⟩,
  ⟨some 63, .load true 70 (.t 3), some (61, true)⟩,
  ⟨some 64, .eqs false [0, 0, 0, 0, 0, 0, 0, 0, 0, 0, 0, 0, 0, 0, 0, 0, 0, 0, 0, 0, 0, 0, 0, 0, 0, 0, 0, 0, 0, 0, 0, 0, 0, 0, 0, 0, 0, 0, 0, 0, 0, 0, 0, 0, 0, 0, 0, 0, 0, 0, 0, 0, 0, 0, 0, 0, 0, 0, 0, 0, 0, 0, 0, 0, 0, 0, 0, 1, 1, 0] (.t 62) (.t 63), some (61, true)⟩,
  ⟨some 65, .pick (.t 61) (.t 64) (.c (.p (.s (.bool false)))), none⟩,
  ⟨some 66, .mv (.t 65), none⟩,
  ⟨some 67, .load true 70 (.t 13), some (66, true)⟩,
  ⟨some 68, .load true 70 (.t 3), some (66, true)⟩,
  ⟨some 69, .eqs false [0, 0, 0, 0, 0, 0, 0, 0, 0, 0, 0, 0, 0, 0, 0, 0, 0, 0, 0, 0, 0, 0, 0, 0, 0, 0, 0, 0, 0, 0, 0, 0, 0, 0, 0, 0, 0, 0, 0, 0, 0, 0, 0, 0, 0, 0, 0, 0, 0, 0, 0, 0, 0, 0, 0, 0, 0, 0, 0, 0, 0, 0, 0, 0, 0, 0, 0, 1, 1, 0] (.t 67) (.t 68), some (66, true)⟩,
  ⟨some 70, .pick (.t 66) (.t 69) (.c (.p (.s (.bool false)))), none⟩,
  ⟨some 71, .mv (.t 70), none⟩,
  ⟨some 72, .mv (.t 8), some (71, true)⟩,
  ⟨some 73, .len (.t 72), some (71, true)⟩,
  ⟨some 74, .bin .eql (.t 73) (.c (.p (.s (.int .i64 0)))), some (71, true)⟩,
  ⟨some 75, .pick (.t 71) (.t 74) (.c (.p (.s (.bool false)))), none⟩,
  ⟨some 76, .mv (.t 75), none⟩,
  ⟨some 77, .mv (.t 11), some (76, true)⟩,
  ⟨some 78, .len (.t 77), some (76, true)⟩,
  ⟨some 79, .bin .eql (.t 78) (.c (.p (.s (.int .i64 0)))), some (76, true)⟩,
  ⟨some 80, .pick (.t 76) (.t 79) (.c (.p (.s (.bool false)))), none⟩,
  ⟨some 81, .mv (.t 80), none⟩,
  ⟨some 82, .mv (.t 9), some (81, true)⟩,
  ⟨some 83, .bin .eql (.t 82) (.c (.p (.s (.int .i64 1)))), some (81, true)⟩,
  ⟨some 84, .pick (.t 81) (.t 83) (.c (.p (.s (.bool false)))), none⟩,
  ⟨some 85, .mv (.t 84), none⟩,
  ⟨some 86, .mv (.t 12), some (85, true)⟩,
  ⟨some 87, .bin .eql (.t 86) (.c (.p (.s (.int .i64 1)))), some (85, true)⟩,
  ⟨some 88, .pick (.t 85) (.t 87) (.c (.p (.s (.bool false)))), none⟩,
  ⟨some 89, .mv (.t 88), none⟩,
  ⟨some 90, .mv (.t 14), some (89, true)⟩,
  ⟨some 91, .bin .eql (.t 90) (.c (.p (.s (.int .i64 1)))), some (89, true)⟩,
  ⟨some 92, .pick (.t 89) (.t 91) (.c (.p (.s (.bool false)))), none⟩,
  ⟨some 93, .mv (.t 92), none⟩,
  ⟨some 94, .call (.c (.fn (.func 14) [] [])) [], some (93, true)⟩,
  ⟨some 95, .pick (.t 93) (.t 94) (.c (.p (.s (.bool false)))), none⟩,
  ⟨some 6, .mv (.t 95), none⟩]
abbrev r6_9 : List CO := [
  ⟨some 97, .load true 70 (.t 3), none⟩,
  ⟨some 98, .faddr 0 (.t 4), none⟩,
  ⟨some 99, .load false 1 (.t 98), none⟩,
  ⟨some 100, .call (.c (.fn (.func 23) [] [])) [.t 97, .t 99], none⟩,
  ⟨some 96, .mv (.t 100), none⟩,
  ⟨some 101, .extract 0 (.t 96), none⟩,
  ⟨some 102, .extract 1 (.t 96), none⟩,
  ⟨some 103, .extract 2 (.t 96), none⟩,
  ⟨some 15, .alloc ([.s (.int .i64 0), .s (.int .i64 0), .s (.int .i64 0), .s (.int .u8 0), .s (.int .u8 0), .s (.int .u8 0), .s (.int .u8 0), .s (.int .u8 0), .s (.int .u8 0), .s (.int .u8 0), .s (.int .u8 0), .s (.int .u8 0), .s (.int .u8 0), .s (.int .u8 0), .s (.int .u8 0), .s (.int .u8 0), .s (.int .u8 0), .s (.int .u8 0), .s (.int .u8 0), .s (.int .u8 0), .s (.int .u8 0), .s (.int .u8 0), .s (.int .u8 0), .s (.int .u8 0), .s (.int .u8 0), .s (.int .u8 0), .s (.int .u8 0), .s (.int .u8 0), .s (.int .u8 0), .s (.int .u8 0), .s (.int .u8 0), .s (.int .u8 0), .s (.int .u8 0), .s (.int .u8 0), .s (.int .u8 0), .s (.int .u8 0), .s (.int .u8 0), .s (.int .u8 0), .s (.int .u8 0), .s (.int .u8 0), .s (.int .u8 0), .s (.int .u8 0), .s (.int .u8 0), .s (.int .u8 0), .s (.int .u8 0), .s (.int .u8 0), .s (.int .u8 0), .s (.int .u8 0), .s (.int .u8 0), .s (.int .u8 0), .s (.int .u8 0), .s (.int .u8 0), .s (.int .u8 0), .s (.int .u8 0), .s (.int .u8 0), .s (.int .u8 0), .s (.int .u8 0), .s (.int .u8 0), .s (.int .u8 0), .s (.int .u8 0), .s (.int .u8 0), .s (.int .u8 0), .s (.int .u8 0), .s (.int .u8 0), .s (.int .u8 0), .s (.int .u8 0), .s (.int .u8 0), .s (.bool false), .s (.bool false), .s (.int .i64 0)]), none⟩,
  ⟨none, .store 70 (.t 15) (.t 101), none⟩,
  ⟨some 16, .mv (.t 102), none⟩,
  ⟨some 17, .mv (.t 103), none⟩]
abbrev r6_10 : List CO := [
  ⟨some 105, .load true 70 (.t 3), none⟩,
  ⟨some 106, .faddr 2 (.t 4), none⟩,
  ⟨some 107, .load false 1 (.t 106), none⟩,
  ⟨some 108, .faddr 3 (.t 4), none⟩,
  ⟨some 109, .load true 32 (.t 108), none⟩,
  ⟨some 110, .call (.c (.fn (.func 24) [] [])) [.t 105, .t 107, .t 109], none⟩,
  ⟨some 104, .mv (.t 110), none⟩,
  ⟨some 111, .extract 0 (.t 104), none⟩,
  ⟨some 112, .extract 1 (.t 104), none⟩,
  ⟨some 113, .extract 2 (.t 104), none⟩,
  ⟨some 18, .alloc ([.s (.int .i64 0), .s (.int .i64 0), .s (.int .i64 0), .s (.int .u8 0), .s (.int .u8 0), .s (.int .u8 0), .s (.int .u8 0), .s (.int .u8 0), .s (.int .u8 0), .s (.int .u8 0), .s (.int .u8 0), .s (.int .u8 0), .s (.int .u8 0), .s (.int .u8 0), .s (.int .u8 0), .s (.int .u8 0), .s (.int .u8 0), .s (.int .u8 0), .s (.int .u8 0), .s (.int .u8 0), .s (.int .u8 0), .s (.int .u8 0), .s (.int .u8 0), .s (.int .u8 0), .s (.int .u8 0), .s (.int .u8 0), .s (.int .u8 0), .s (.int .u8 0), .s (.int .u8 0), .s (.int .u8 0), .s (.int .u8 0), .s (.int .u8 0), .s (.int .u8 0), .s (.int .u8 0), .s (.int .u8 0), .s (.int .u8 0), .s (.int .u8 0), .s (.int .u8 0), .s (.int .u8 0), .s (.int .u8 0), .s (.int .u8 0), .s (.int .u8 0), .s (.int .u8 0), .s (.int .u8 0), .s (.int .u8 0), .s (.int .u8 0), .s (.int .u8 0), .s (.int .u8 0), .s (.int .u8 0), .s (.int .u8 0), .s (.int .u8 0), .s (.int .u8 0), .s (.int .u8 0), .s (.int .u8 0), .s (.int .u8 0), .s (.int .u8 0), .s (.int .u8 0), .s (.int .u8 0), .s (.int .u8 0), .s (.int .u8 0), .s (.int .u8 0), .s (.int .u8 0), .s (.int .u8 0), .s (.int .u8 0), .s (.int .u8 0), .s (.int .u8 0), .s (.int .u8 0), .s (.bool false), .s (.bool false), .s (.int .i64 0)]), none⟩,
  ⟨none, .store 70 (.t 18) (.t 111), none⟩,
  ⟨some 19, .mv (.t 112), none⟩,
  ⟨some 20, .mv (.t 113), none⟩]
abbrev r6_11 : List CO := [
  ⟨some 114, .load true 70 (.t 7), none⟩,
  ⟨some 115, .load true 70 (.t 15), none⟩,
  ⟨some 116, .eqs true [0, 0, 0, 0, 0, 0, 0, 0, 0, 0, 0, 0, 0, 0, 0, 0, 0, 0, 0, 0, 0, 0, 0, 0, 0, 0, 0, 0, 0, 0, 0, 0, 0, 0, 0, 0, 0, 0, 0, 0, 0, 0, 0, 0, 0, 0, 0, 0, 0, 0, 0, 0, 0, 0, 0, 0, 0, 0, 0, 0, 0, 0, 0, 0, 0, 0, 0, 1, 1, 0] (.t 114) (.t 115), none⟩,
  ⟨some 117, .mv (.t 116), none⟩,
  ⟨some 118, .mv (.t 8), some (117, false)⟩,
  ⟨some 119, .mv (.t 16), some (117, false)⟩,
  ⟨some 120, .call (.c (.fn (.func 16) [] [])) [.t 118, .t 119], some (117, false)⟩,
  ⟨some 121, .un .not (.t 120), some (117, false)⟩,
  ⟨some 122, .pick (.t 117) (.c (.p (.s (.bool true)))) (.t 121), none⟩,
  ⟨some 123, .mv (.t 122), none⟩,
  ⟨some 124, .mv (.t 9), some (123, false)⟩,
  ⟨some 125, .mv (.t 17), some (123, false)⟩,
  ⟨some 126, .bin .neq (.t 124) (.t 125), some (123, false)⟩,
  ⟨some 127, .pick (.t 123) (.c (.p (.s (.bool true)))) (.t 126), none⟩,
  ⟨some 128, .mv (.t 127), none⟩,
  ⟨some 129, .load true 70 (.t 10), some (128, false)⟩,
  ⟨some 130, .load true 70 (.t 18), some (128, false)⟩,
  ⟨some 131, .eqs true [0, 0, 0, 0, 0, 0, 0, 0, 0, 0, 0, 0, 0, 0, 0, 0, 0, 0, 0, 0, 0, 0, 0, 0, 0, 0, 0, 0, 0, 0, 0, 0, 0, 0, 0, 0, 0, 0, 0, 0, 0, 0, 0, 0, 0, 0, 0, 0, 0, 0, 0, 0, 0, 0, 0, 0, 0, 0, 0, 0, 0, 0, 0, 0, 0, 0, 0, 1, 1, 0] (.t 129) (.t 130), some (128, false)⟩,
  ⟨some 132, .pick (.t 128) (.c (.p (.s (.bool true)))) (.t 131), none⟩,
  ⟨some 133, .mv (.t 132), none⟩,
  ⟨some 134, .mv (.t 11), some (133, false)⟩,
  ⟨some 135, .mv (.t 19), some (133, false)⟩,
  ⟨some 136, .call (.c (.fn (.func 16) [] [])) [.t 134, .t 135], some (133, false)⟩,
  ⟨some 137, .un .not (.t 136), some (133, false)⟩,
  ⟨some 138, .pick (.t 133) (.c (.p (.s (.bool true)))) (.t 137), none⟩,
  ⟨some 139, .mv (.t 138), none⟩,
  ⟨some 140, .mv (.t 12), some (139, false)⟩,
  ⟨some 141, .mv (.t 20), some (139, false)⟩,
  ⟨some 142, .bin .neq (.t 140) (.t 141), some (139, false)⟩,
  ⟨some 143, .pick (.t 139) (.c (.p (.s (.bool true)))) (.t 142), none⟩]
abbrev r6_12 : List CO := [
  ⟨some 6, .mv (.c (.p (.s (.bool false)))), none⟩]
abbrev r6_13 : List CO := [
  ⟨some 144, .load true 36 (.t 5), none⟩,
  ⟨some 145, .call (.c (.fn (.func 13) [] [])) [.t 144], none⟩,
  ⟨some 146, .un .not (.t 145), none⟩]
abbrev r6_14 : List CO := [
  ⟨some 147, .load true 70 (.t 13), none⟩,
  ⟨some 148, .load true 70 (.t 3), none⟩,
  ⟨some 149, .eqs false [0, 0, 0, 0, 0, 0, 0, 0, 0, 0, 0, 0, 0, 0, 0, 0, 0, 0, 0, 0, 0, 0, 0, 0, 0, 0, 0, 0, 0, 0, 0, 0, 0, 0, 0, 0, 0, 0, 0, 0, 0, 0, 0, 0, 0, 0, 0, 0, 0, 0, 0, 0, 0, 0, 0, 0, 0, 0, 0, 0, 0, 0, 0, 0, 0, 0, 0, 1, 1, 0] (.t 147) (.t 148), none⟩,
  ⟨some 150, .mv (.t 149), none⟩,
  ⟨some 151, .mv (.t 14), some (150, true)⟩,
  ⟨some 152, .bin .eql (.t 151) (.c (.p (.s (.int .i64 1)))), some (150, true)⟩,
  ⟨some 153, .pick (.t 150) (.t 152) (.c (.p (.s (.bool false)))), none⟩,
  ⟨some 154, .mv (.t 153), none⟩,
  ⟨some 155, .call (.c (.fn (.func 14) [] [])) [], some (154, true)⟩,
  ⟨some 156, .pick (.t 154) (.t 155) (.c (.p (.s (.bool false)))), none⟩,
  ⟨some 6, .mv (.t 156), none⟩]
abbrev r6_15 : List CO := [
  ⟨some 158, .load true 70 (.t 3), none⟩,
  ⟨some 159, .load true 36 (.t 5), none⟩,
  ⟨some 160, .call (.c (.fn (.func 25) [] [])) [.t 158, .t 159], none⟩,
  ⟨some 157, .mv (.t 160), none⟩,
  ⟨some 161, .extract 0 (.t 157), none⟩,
  ⟨some 162, .extract 1 (.t 157), none⟩,
  ⟨some 21, .alloc ([.s (.int .i64 0), .s (.int .i64 0), .s (.int .i64 0), .s (.int .u8 0), .s (.int .u8 0), .s (.int .u8 0), .s (.int .u8 0), .s (.int .u8 0), .s (.int .u8 0), .s (.int .u8 0), .s (.int .u8 0), .s (.int .u8 0), .s (.int .u8 0), .s (.int .u8 0), .s (.int .u8 0), .s (.int .u8 0), .s (.int .u8 0), .s (.int .u8 0), .s (.int .u8 0), .s (.int .u8 0), .s (.int .u8 0), .s (.int .u8 0), .s (.int .u8 0), .s (.int .u8 0), .s (.int .u8 0), .s (.int .u8 0), .s (.int .u8 0), .s (.int .u8 0), .s (.int .u8 0), .s (.int .u8 0), .s (.int .u8 0), .s (.int .u8 0), .s (.int .u8 0), .s (.int .u8 0), .s (.int .u8 0), .s (.int .u8 0), .s (.int .u8 0), .s (.int .u8 0), .s (.int .u8 0), .s (.int .u8 0), .s (.int .u8 0), .s (.int .u8 0), .s (.int .u8 0), .s (.int .u8 0), .s (.int .u8 0), .s (.int .u8 0), .s (.int .u8 0), .s (.int .u8 0), .s (.int .u8 0), .s (.int .u8 0), .s (.int .u8 0), .s (.int .u8 0), .s (.int .u8 0), .s (.int .u8 0), .s (.int .u8 0), .s (.int .u8 0), .s (.int .u8 0), .s (.int .u8 0), .s (.int .u8 0), .s (.int .u8 0), .s (.int .u8 0), .s (.int .u8 0), .s (.int .u8 0), .s (.int .u8 0), .s (.int .u8 0), .s (.int .u8 0), .s (.int .u8 0), .s (.bool false), .s (.bool false), .s (.int .i64 0)]), none⟩,
  ⟨none, .store 70 (.t 21) (.t 161), none⟩,
  ⟨some 22, .mv (.t 162), none⟩]
abbrev r6_16 : List CO := [
  ⟨some 163, .load true 70 (.t 13), none⟩,
  ⟨some 164, .load true 70 (.t 21), none⟩,
  ⟨some 165, .eqs false [0, 0, 0, 0, 0, 0, 0, 0, 0, 0, 0, 0, 0, 0, 0, 0, 0, 0, 0, 0, 0, 0, 0, 0, 0, 0, 0, 0, 0, 0, 0, 0, 0, 0, 0, 0, 0, 0, 0, 0, 0, 0, 0, 0, 0, 0, 0, 0, 0, 0, 0, 0, 0, 0, 0, 0, 0, 0, 0, 0, 0, 0, 0, 0, 0, 0, 0, 1, 1, 0] (.t 163) (.t 164), none⟩,
  ⟨some 166, .mv (.t 165), none⟩,
  ⟨some 167, .mv (.t 14), some (166, true)⟩,
  ⟨some 168, .mv (.t 22), some (166, true)⟩,
  ⟨some 169, .bin .eql (.t 167) (.t 168), some (166, true)⟩,
  ⟨some 170, .pick (.t 166) (.t 169) (.c (.p (.s (.bool false)))), none⟩,
  ⟨some 171, .mv (.t 170), none⟩,
  ⟨some 172, .call (.c (.fn (.func 14) [] [])) [], some (171, true)⟩,
  ⟨some 173, .pick (.t 171) (.t 172) (.c (.p (.s (.bool false)))), none⟩,
  ⟨some 6, .mv (.t 173), none⟩]
abbrev c6 : CC := .seq (.reg r6_0) (.rest [3, 4, 5] (.seq (.reg r6_1) (.seq (.reg r6_2) (.rest [3, 4, 5, 7, 8, 9] (.seq (.reg r6_3) (.rest [3, 4, 5, 7, 8, 9, 10, 11, 12] (.seq (.reg r6_4) (.rest [3, 4, 5, 7, 8, 9, 10, 11, 12, 13, 14] (.seq (.seq (.regd r6_5 b6_5) (.rest [3, 4, 5, 7, 8, 9, 10, 11, 12, 13, 14, 54] (.cond (.t 54) (.seq (.reg r6_6) (.ret)) (.skip)))) (.rest [3, 4, 5, 7, 8, 9, 10, 11, 12, 13, 14] (.seq (.seq (.reg r6_7) (.cond (.t 57) (.seq (.reg r6_8) (.rest [6] (.ret))) (.skip))) (.rest [3, 4, 5, 7, 8, 9, 10, 11, 12, 13, 14] (.seq (.reg r6_9) (.rest [3, 4, 5, 7, 8, 9, 10, 11, 12, 13, 14, 15, 16, 17] (.seq (.reg r6_10) (.rest [3, 5, 7, 8, 9, 10, 11, 12, 13, 14, 15, 16, 17, 18, 19, 20] (.seq (.seq (.reg r6_11) (.rest [3, 5, 13, 14, 143] (.cond (.t 143) (.seq (.reg r6_12) (.ret)) (.skip)))) (.rest [3, 5, 13, 14] (.seq (.seq (.reg r6_13) (.cond (.t 146) (.seq (.reg r6_14) (.rest [6] (.ret))) (.skip))) (.rest [3, 5, 13, 14] (.seq (.reg r6_15) (.rest [13, 14, 21, 22] (.seq (.reg r6_16) (.rest [6] (.ret)))))))))))))))))))))))))
theorem F6 : Fun Try.prog 6 174 c6 [.tmp 6] 3 := ⟨⟨Try.f6, _, Try.func6, rfl, by kernel_rfl, Try.ntmps6, by kernel_rfl, by kernel_rfl⟩, by decide⟩

/-- linnet/linnetlaw16.ModeMeets -/
abbrev r7_0 : List CO := [
  ⟨some 4, .mv (.c (.p (.s (.bool false)))), none⟩]
abbrev r7_1 : List CO := [
  ⟨some 5, .alloc ([.s (.int .i64 0), .s (.int .i64 0), .s (.int .i64 0), .s (.int .u8 0), .s (.int .u8 0), .s (.int .u8 0), .s (.int .u8 0), .s (.int .u8 0), .s (.int .u8 0), .s (.int .u8 0), .s (.int .u8 0), .s (.int .u8 0), .s (.int .u8 0), .s (.int .u8 0), .s (.int .u8 0), .s (.int .u8 0), .s (.int .u8 0), .s (.int .u8 0), .s (.int .u8 0), .s (.int .u8 0), .s (.int .u8 0), .s (.int .u8 0), .s (.int .u8 0), .s (.int .u8 0), .s (.int .u8 0), .s (.int .u8 0), .s (.int .u8 0), .s (.int .u8 0), .s (.int .u8 0), .s (.int .u8 0), .s (.int .u8 0), .s (.int .u8 0), .s (.int .u8 0), .s (.int .u8 0), .s (.int .u8 0), .s (.int .u8 0), .s (.int .u8 0), .s (.int .u8 0), .s (.int .u8 0), .s (.int .u8 0), .s (.int .u8 0), .s (.int .u8 0), .s (.int .u8 0), .s (.int .u8 0), .s (.int .u8 0), .s (.int .u8 0), .s (.int .u8 0), .s (.int .u8 0), .s (.int .u8 0), .s (.int .u8 0), .s (.int .u8 0), .s (.int .u8 0), .s (.int .u8 0), .s (.int .u8 0), .s (.int .u8 0), .s (.int .u8 0), .s (.int .u8 0), .s (.int .u8 0), .s (.int .u8 0), .s (.int .u8 0), .s (.int .u8 0), .s (.int .u8 0), .s (.int .u8 0), .s (.int .u8 0), .s (.int .u8 0), .s (.int .u8 0), .s (.int .u8 0), .s (.bool false), .s (.bool false), .s (.int .i64 0)]), none⟩]
abbrev r7_2 : List CO := [
  ⟨some 25, .mv (.t 0), none⟩,
  ⟨some 26, .build ([.s (.int .i64 0), .s (.int .u8 0), .s (.int .u8 0), .s (.int .u8 0), .s (.int .u8 0), .s (.int .u8 0), .s (.int .u8 0), .s (.int .u8 0), .s (.int .u8 0), .s (.int .u8 0), .s (.int .u8 0), .s (.int .u8 0), .s (.int .u8 0), .s (.int .u8 0), .s (.int .u8 0), .s (.int .u8 0), .s (.int .u8 0), .s (.int .u8 0), .s (.int .u8 0), .s (.int .u8 0), .s (.int .u8 0), .s (.int .u8 0), .s (.int .u8 0), .s (.int .u8 0), .s (.int .u8 0), .s (.int .u8 0), .s (.int .u8 0), .s (.int .u8 0), .s (.int .u8 0), .s (.int .u8 0), .s (.int .u8 0), .s (.int .u8 0), .s (.int .u8 0), .s (.bool false), .s (.bool false)]) [(34, 1, .t 25)], none⟩,
  ⟨some 6, .alloc ([.s (.int .i64 0), .s (.int .u8 0), .s (.int .u8 0), .s (.int .u8 0), .s (.int .u8 0), .s (.int .u8 0), .s (.int .u8 0), .s (.int .u8 0), .s (.int .u8 0), .s (.int .u8 0), .s (.int .u8 0), .s (.int .u8 0), .s (.int .u8 0), .s (.int .u8 0), .s (.int .u8 0), .s (.int .u8 0), .s (.int .u8 0), .s (.int .u8 0), .s (.int .u8 0), .s (.int .u8 0), .s (.int .u8 0), .s (.int .u8 0), .s (.int .u8 0), .s (.int .u8 0), .s (.int .u8 0), .s (.int .u8 0), .s (.int .u8 0), .s (.int .u8 0), .s (.int .u8 0), .s (.int .u8 0), .s (.int .u8 0), .s (.int .u8 0), .s (.int .u8 0), .s (.bool false), .s (.bool false)]), none⟩,
  ⟨none, .store 35 (.t 6) (.t 26), none⟩]
abbrev r7_3 : List CO := [
  ⟨some 7, .mv (.c (.p (.s (.slice none 0 0)))), none⟩,
  ⟨some 8, .mv (.c (.p (.s (.slice none 0 0)))), none⟩]
abbrev r7_4 : List CO := [
  ⟨some 27, .bslice 1 1 ([.s (.int .i64 0)]) [(0, .c (.p (.s (.int .i64 0))))], none⟩,
  ⟨some 9, .mv (.t 27), none⟩]
abbrev r7_5 : List CO := [
  ⟨some 10, .mv (.c (.p (.s (.int .i64 0)))), none⟩,
  ⟨some 11, .mv (.c (.p (.s (.int .i64 0)))), none⟩,
  ⟨some 12, .mv (.c (.p (.s (.int .i64 0)))), none⟩]
abbrev r7_6 : List CO := [
  ⟨some 13, .mv (.c (.p (.s (.int .i64 0)))), none⟩]
abbrev r7_7 : List CO := [
  ⟨some 28, .mv (.t 13), none⟩,
  ⟨some 29, .mv (.t 1), none⟩,
  ⟨some 30, .len (.t 29), none⟩,
  ⟨some 31, .bin .add (.t 30) (.c (.p (.s (.int .i64 200)))), none⟩,
  ⟨some 32, .bin .lss (.t 28) (.t 31), none⟩,
  ⟨some 33, .mv (.t 32), none⟩,
  ⟨some 34, .mv (.t 13), some (33, true)⟩,
  ⟨some 35, .mv (.t 1), some (33, true)⟩,
  ⟨some 36, .len (.t 35), some (33, true)⟩,
  ⟨some 37, .bin .lss (.t 34) (.t 36), some (33, true)⟩,
  ⟨some 38, .mv (.t 37), some (33, true)⟩,
  ⟨some 39, .mv (.t 13), some (38, true)⟩,
  ⟨some 40, .bin .lss (.t 39) (.c (.p (.s (.int .i64 60)))), some (38, true)⟩,
  ⟨some 41, .pick (.t 38) (.t 40) (.c (.p (.s (.bool false)))), some (33, true)⟩,
  ⟨some 42, .mv (.t 41), some (33, true)⟩,
  ⟨some 43, .mv (.t 7), some (42, false)⟩,
  ⟨some 44, .len (.t 43), some (42, false)⟩,
  ⟨some 45, .mv (.t 8), some (42, false)⟩,
  ⟨some 46, .len (.t 45), some (42, false)⟩,
  ⟨some 47, .bin .add (.t 44) (.t 46), some (42, false)⟩,
  ⟨some 48, .bin .gtr (.t 47) (.c (.p (.s (.int .i64 0)))), some (42, false)⟩,
  ⟨some 49, .pick (.t 42) (.c (.p (.s (.bool true)))) (.t 48), some (33, true)⟩,
  ⟨some 50, .pick (.t 33) (.t 49) (.c (.p (.s (.bool false)))), none⟩]
abbrev r7_9 : List CO := [
  ⟨some 53, .mv (.t 13), none⟩,
  ⟨some 54, .mv (.t 1), none⟩,
  ⟨some 55, .len (.t 54), none⟩,
  ⟨some 56, .bin .geq (.t 53) (.t 55), none⟩,
  ⟨some 57, .mv (.t 56), none⟩,
  ⟨some 58, .mv (.t 13), some (57, false)⟩,
  ⟨some 59, .bin .geq (.t 58) (.c (.p (.s (.int .i64 60)))), some (57, false)⟩,
  ⟨some 60, .pick (.t 57) (.c (.p (.s (.bool true)))) (.t 59), none⟩,
  ⟨some 14, .mv (.t 60), none⟩]
abbrev r7_10 : List CO := [
  ⟨some 61, .mv (.t 14), none⟩,
  ⟨some 62, .un .not (.t 61), none⟩,
  ⟨some 63, .mv (.t 62), none⟩,
  ⟨some 64, .mv (.t 1), some (63, true)⟩,
  ⟨some 65, .mv (.t 13), some (63, true)⟩,
  ⟨some 66, .iaddrS 37 (.t 64) (.t 65), some (63, true)⟩,
  ⟨some 67, .faddr 0 (.t 66), some (63, true)⟩,
  ⟨some 68, .load false 1 (.t 67), some (63, true)⟩,
  ⟨some 69, .un .not (.t 68), some (63, true)⟩,
  ⟨some 70, .pick (.t 63) (.t 69) (.c (.p (.s (.bool false)))), none⟩]
abbrev r7_11 : List CO := [
  ⟨some 72, .load true 70 (.t 5), none⟩,
  ⟨some 73, .mv (.t 1), none⟩,
  ⟨some 74, .mv (.t 13), none⟩,
  ⟨some 75, .iaddrS 37 (.t 73) (.t 74), none⟩,
  ⟨some 76, .faddr 2 (.t 75), none⟩,
  ⟨some 77, .load true 35 (.t 76), none⟩,
  ⟨some 78, .call (.c (.fn (.func 26) [] [])) [.t 72, .t 77], none⟩,
  ⟨some 71, .mv (.t 78), none⟩,
  ⟨some 79, .extract 0 (.t 71), none⟩,
  ⟨some 80, .extract 1 (.t 71), none⟩,
  ⟨some 81, .extract 2 (.t 71), none⟩,
  ⟨some 15, .alloc ([.s (.int .i64 0), .s (.int .i64 0), .s (.int .i64 0), .s (.int .u8 0), .s (.int .u8 0), .s (.int .u8 0), .s (.int .u8 0), .s (.int .u8 0), .s (.int .u8 0), .s (.int .u8 0), .s (.int .u8 0), .s (.int .u8 0), .s (.int .u8 0), .s (.int .u8 0), .s (.int .u8 0), .s (.int .u8 0), .s (.int .u8 0), .s (.int .u8 0), .s (.int .u8 0), .s (.int .u8 0), .s (.int .u8 0), .s (.int .u8 0), .s (.int .u8 0), .s (.int .u8 0), .s (.int .u8 0), .s (.int .u8 0), .s (.int .u8 0), .s (.int .u8 0), .s (.int .u8 0), .s (.int .u8 0), .s (.int .u8 0), .s (.int .u8 0), .s (.int .u8 0), .s (.int .u8 0), .s (.int .u8 0), .s (.int .u8 0), .s (.int .u8 0), .s (.int .u8 0), .s (.int .u8 0), .s (.int .u8 0), .s (.int .u8 0), .s (.int .u8 0), .s (.int .u8 0), .s (.int .u8 0), .s (.int .u8 0), .s (.int .u8 0), .s (.int .u8 0), .s (.int .u8 0), .s (.int .u8 0), .s (.int .u8 0), .s (.int .u8 0), .s (.int .u8 0), .s (.int .u8 0), .s (.int .u8 0), .s (.int .u8 0), .s (.int .u8 0), .s (.int .u8 0), .s (.int .u8 0), .s (.int .u8 0), .s (.int .u8 0), .s (.int .u8 0), .s (.int .u8 0), .s (.int .u8 0), .s (.int .u8 0), .s (.int .u8 0), .s (.int .u8 0), .s (.int .u8 0), .s (.bool false), .s (.bool false), .s (.int .i64 0)]), none⟩,
  ⟨none, .store 70 (.t 15) (.t 79), none⟩,
  ⟨some 16, .mv (.t 80), none⟩,
  ⟨some 17, .mv (.t 81), none⟩]
abbrev b7_11 : List (List Nat) := [[], [], [], [1, 2], [3], [4], [0, 5], [6], [7], [7], [7], [], [11, 8, 6, 0, 1, 2, 3, 4, 5, 6, 7, 8, 11], [9, 12, 0, 1, 2, 3, 4, 5, 6, 7, 8, 9, 11, 12], [10, 13, 0, 1, 2, 3, 4, 5, 6, 7, 8, 9, 10, 11, 12, 13]]
abbrev r7_12 : List CO := [
  ⟨some 82, .mv (.t 17), none⟩,
  ⟨some 83, .bin .neq (.t 82) (.c (.p (.s (.int .i64 0)))), none⟩]
abbrev r7_13 : List CO := [
  ⟨some 84, .load true 70 (.t 15), none⟩,
  ⟨some 85, .mv (.t 7), none⟩,
  ⟨some 86, .mv (.t 16), none⟩,
  ⟨some 87, .append 36 80 ([.s (.int .i64 0), .s (.int .i64 0), .s (.int .i64 0), .s (.int .u8 0), .s (.int .u8 0), .s (.int .u8 0), .s (.int .u8 0), .s (.int .u8 0), .s (.int .u8 0), .s (.int .u8 0), .s (.int .u8 0), .s (.int .u8 0), .s (.int .u8 0), .s (.int .u8 0), .s (.int .u8 0), .s (.int .u8 0), .s (.int .u8 0), .s (.int .u8 0), .s (.int .u8 0), .s (.int .u8 0), .s (.int .u8 0), .s (.int .u8 0), .s (.int .u8 0), .s (.int .u8 0), .s (.int .u8 0), .s (.int .u8 0), .s (.int .u8 0), .s (.int .u8 0), .s (.int .u8 0), .s (.int .u8 0), .s (.int .u8 0), .s (.int .u8 0), .s (.int .u8 0), .s (.int .u8 0), .s (.int .u8 0), .s (.slice none 0 0)]) (.t 85) (.t 86), none⟩,
  ⟨none, .store 70 (.t 5) (.t 84), none⟩,
  ⟨some 7, .mv (.t 87), none⟩]
abbrev b7_13 : List (List Nat) := [[], [], [], [1, 2], [0, 3, 0], [3, 4, 0, 1, 2, 3, 4]]
abbrev r7_14 : List CO := [
  ⟨some 88, .mv (.t 11), none⟩,
  ⟨some 89, .mv (.t 16), none⟩,
  ⟨some 90, .len (.t 89), none⟩,
  ⟨some 91, .bin .add (.t 88) (.t 90), none⟩,
  ⟨some 11, .mv (.t 91), none⟩]
abbrev r7_15 : List CO := [
  ⟨some 92, .mv (.t 10), none⟩,
  ⟨some 93, .bin .add (.t 92) (.c (.p (.s (.int .i64 1)))), none⟩,
  ⟨some 10, .mv (.t 93), none⟩]
abbrev r7_16 : List CO := [
  ⟨some 94, .faddr 0 (.t 5), none⟩,
  ⟨some 95, .load false 1 (.t 94), none⟩,
  ⟨some 12, .mv (.t 95), none⟩]
abbrev r7_17 : List CO := [
  ⟨some 96, .mv (.t 7), none⟩,
  ⟨some 97, .len (.t 96), none⟩,
  ⟨some 98, .bin .gtr (.t 97) (.c (.p (.s (.int .i64 0)))), none⟩,
  ⟨some 99, .mv (.t 98), none⟩,
  ⟨some 100, .mv (.t 14), some (99, true)⟩,
  ⟨some 101, .mv (.t 100), some (99, true)⟩,
  ⟨some 102, .mv (.t 1), some (101, false)⟩,
  ⟨some 103, .mv (.t 13), some (101, false)⟩,
  ⟨some 104, .iaddrS 37 (.t 102) (.t 103), some (101, false)⟩,
  ⟨some 105, .faddr 1 (.t 104), some (101, false)⟩,
  ⟨some 106, .load false 1 (.t 105), some (101, false)⟩,
  ⟨some 107, .pick (.t 101) (.c (.p (.s (.bool true)))) (.t 106), some (99, true)⟩,
  ⟨some 108, .pick (.t 99) (.t 107) (.c (.p (.s (.bool false)))), none⟩]
abbrev r7_18 : List CO := [
  ⟨some 110, .load true 35 (.t 6), none⟩,
  ⟨some 111, .mv (.t 7), none⟩,
  ⟨some 112, .iaddrS 36 (.t 111) (.c (.p (.s (.int .i64 0)))), none⟩,
  ⟨some 113, .load true 36 (.t 112), none⟩,
  ⟨some 114, .call (.c (.fn (.func 10) [] [])) [.t 110, .t 113], none⟩,
  ⟨some 109, .mv (.t 114), none⟩,
  ⟨some 115, .extract 0 (.t 109), none⟩,
  ⟨some 116, .extract 1 (.t 109), none⟩,
  ⟨some 117, .extract 2 (.t 109), none⟩,
  ⟨some 18, .alloc ([.s (.int .i64 0), .s (.int .u8 0), .s (.int .u8 0), .s (.int .u8 0), .s (.int .u8 0), .s (.int .u8 0), .s (.int .u8 0), .s (.int .u8 0), .s (.int .u8 0), .s (.int .u8 0), .s (.int .u8 0), .s (.int .u8 0), .s (.int .u8 0), .s (.int .u8 0), .s (.int .u8 0), .s (.int .u8 0), .s (.int .u8 0), .s (.int .u8 0), .s (.int .u8 0), .s (.int .u8 0), .s (.int .u8 0), .s (.int .u8 0), .s (.int .u8 0), .s (.int .u8 0), .s (.int .u8 0), .s (.int .u8 0), .s (.int .u8 0), .s (.int .u8 0), .s (.int .u8 0), .s (.int .u8 0), .s (.int .u8 0), .s (.int .u8 0), .s (.int .u8 0), .s (.bool false), .s (.bool false)]), none⟩,
  ⟨none, .store 35 (.t 18) (.t 115), none⟩,
  ⟨some 19, .mv (.t 116), none⟩,
  ⟨some 20, .mv (.t 117), none⟩]
abbrev b7_18 : List (List Nat) := [[], [], [1], [2], [0, 3], [4], [5], [5], [5], [], [9, 6, 4, 0, 1, 2, 3, 4, 5, 6, 9], [7, 10, 0, 1, 2, 3, 4, 5, 6, 7, 9, 10], [8, 11, 0, 1, 2, 3, 4, 5, 6, 7, 8, 9, 10, 11]]
abbrev r7_19 : List CO := [
  ⟨some 118, .mv (.t 20), none⟩,
  ⟨some 119, .bin .neq (.t 118) (.c (.p (.s (.int .i64 0)))), none⟩]
abbrev r7_20 : List CO := [
  ⟨some 4, .mv (.c (.p (.s (.bool false)))), none⟩]
abbrev r7_21 : List CO := [
  ⟨some 120, .load true 35 (.t 18), none⟩,
  ⟨some 121, .mv (.t 7), none⟩,
  ⟨some 122, .slice 36 (.t 121) (some (.c (.p (.s (.int .i64 1))))) none, none⟩,
  ⟨some 123, .mv (.t 8), none⟩,
  ⟨some 124, .mv (.t 19), none⟩,
  ⟨some 125, .append 36 80 ([.s (.int .i64 0), .s (.int .i64 0), .s (.int .i64 0), .s (.int .u8 0), .s (.int .u8 0), .s (.int .u8 0), .s (.int .u8 0), .s (.int .u8 0), .s (.int .u8 0), .s (.int .u8 0), .s (.int .u8 0), .s (.int .u8 0), .s (.int .u8 0), .s (.int .u8 0), .s (.int .u8 0), .s (.int .u8 0), .s (.int .u8 0), .s (.int .u8 0), .s (.int .u8 0), .s (.int .u8 0), .s (.int .u8 0), .s (.int .u8 0), .s (.int .u8 0), .s (.int .u8 0), .s (.int .u8 0), .s (.int .u8 0), .s (.int .u8 0), .s (.int .u8 0), .s (.int .u8 0), .s (.int .u8 0), .s (.int .u8 0), .s (.int .u8 0), .s (.int .u8 0), .s (.int .u8 0), .s (.int .u8 0), .s (.slice none 0 0)]) (.t 123) (.t 124), none⟩,
  ⟨none, .store 35 (.t 6) (.t 120), none⟩,
  ⟨some 7, .mv (.t 122), none⟩,
  ⟨some 8, .mv (.t 125), none⟩]
abbrev b7_21 : List (List Nat) := [[], [], [1], [], [], [3, 4], [0, 5, 0], [2, 6, 0, 1, 2, 6], [5, 7, 0, 1, 2, 3, 4, 5, 6, 7]]
abbrev r7_22 : List CO := [
  ⟨some 126, .mv (.t 11), none⟩,
  ⟨some 127, .mv (.t 19), none⟩,
  ⟨some 128, .len (.t 127), none⟩,
  ⟨some 129, .bin .add (.t 126) (.t 128), none⟩,
  ⟨some 11, .mv (.t 129), none⟩]
abbrev r7_23 : List CO := [
  ⟨some 130, .mv (.t 9), none⟩,
  ⟨some 131, .faddr 0 (.t 6), none⟩,
  ⟨some 132, .load false 1 (.t 131), none⟩,
  ⟨some 133, .bslice 1 1 ([.s (.int .i64 0)]) [(0, .t 132)], none⟩,
  ⟨some 134, .append 1 8 ([.s (.int .i64 0)]) (.t 130) (.t 133), none⟩,
  ⟨some 9, .mv (.t 134), none⟩]
abbrev r7_24 : List CO := [
  ⟨some 135, .mv (.t 8), none⟩,
  ⟨some 136, .len (.t 135), none⟩,
  ⟨some 137, .bin .gtr (.t 136) (.c (.p (.s (.int .i64 0)))), none⟩,
  ⟨some 138, .mv (.t 137), none⟩,
  ⟨some 139, .mv (.t 14), some (138, true)⟩,
  ⟨some 140, .mv (.t 139), some (138, true)⟩,
  ⟨some 141, .mv (.t 1), some (140, false)⟩,
  ⟨some 142, .mv (.t 13), some (140, false)⟩,
  ⟨some 143, .iaddrS 37 (.t 141) (.t 142), some (140, false)⟩,
  ⟨some 144, .faddr 1 (.t 143), some (140, false)⟩,
  ⟨some 145, .load false 1 (.t 144), some (140, false)⟩,
  ⟨some 146, .un .not (.t 145), some (140, false)⟩,
  ⟨some 147, .pick (.t 140) (.c (.p (.s (.bool true)))) (.t 146), some (138, true)⟩,
  ⟨some 148, .pick (.t 138) (.t 147) (.c (.p (.s (.bool false)))), none⟩]
abbrev r7_25 : List CO := [
  ⟨some 150, .load true 70 (.t 5), none⟩,
  ⟨some 151, .mv (.t 8), none⟩,
  ⟨some 152, .iaddrS 36 (.t 151) (.c (.p (.s (.int .i64 0)))), none⟩,
  ⟨some 153, .load true 36 (.t 152), none⟩,
  ⟨some 154, .call (.c (.fn (.func 17) [] [])) [.t 150, .t 153], none⟩,
  ⟨some 149, .mv (.t 154), none⟩,
  ⟨some 155, .extract 0 (.t 149), none⟩,
  ⟨some 156, .extract 1 (.t 149), none⟩,
  ⟨some 21, .alloc ([.s (.int .i64 0), .s (.int .i64 0), .s (.int .i64 0), .s (.int .u8 0), .s (.int .u8 0), .s (.int .u8 0), .s (.int .u8 0), .s (.int .u8 0), .s (.int .u8 0), .s (.int .u8 0), .s (.int .u8 0), .s (.int .u8 0), .s (.int .u8 0), .s (.int .u8 0), .s (.int .u8 0), .s (.int .u8 0), .s (.int .u8 0), .s (.int .u8 0), .s (.int .u8 0), .s (.int .u8 0), .s (.int .u8 0), .s (.int .u8 0), .s (.int .u8 0), .s (.int .u8 0), .s (.int .u8 0), .s (.int .u8 0), .s (.int .u8 0), .s (.int .u8 0), .s (.int .u8 0), .s (.int .u8 0), .s (.int .u8 0), .s (.int .u8 0), .s (.int .u8 0), .s (.int .u8 0), .s (.int .u8 0), .s (.int .u8 0), .s (.int .u8 0), .s (.int .u8 0), .s (.int .u8 0), .s (.int .u8 0), .s (.int .u8 0), .s (.int .u8 0), .s (.int .u8 0), .s (.int .u8 0), .s (.int .u8 0), .s (.int .u8 0), .s (.int .u8 0), .s (.int .u8 0), .s (.int .u8 0), .s (.int .u8 0), .s (.int .u8 0), .s (.int .u8 0), .s (.int .u8 0), .s (.int .u8 0), .s (.int .u8 0), .s (.int .u8 0), .s (.int .u8 0), .s (.int .u8 0), .s (.int .u8 0), .s (.int .u8 0), .s (.int .u8 0), .s (.int .u8 0), .s (.int .u8 0), .s (.int .u8 0), .s (.int .u8 0), .s (.int .u8 0), .s (.int .u8 0), .s (.bool false), .s (.bool false), .s (.int .i64 0)]), none⟩,
  ⟨none, .store 70 (.t 21) (.t 155), none⟩,
  ⟨some 22, .mv (.t 156), none⟩]
abbrev b7_25 : List (List Nat) := [[], [], [1], [2], [0, 3], [4], [5], [5], [], [8, 6, 4, 0, 1, 2, 3, 4, 5, 6, 8], [7, 9, 0, 1, 2, 3, 4, 5, 6, 7, 8, 9]]
abbrev r7_26 : List CO := [
  ⟨some 157, .mv (.t 22), none⟩,
  ⟨some 158, .bin .neq (.t 157) (.c (.p (.s (.int .i64 0)))), none⟩]
abbrev r7_27 : List CO := [
  ⟨some 4, .mv (.c (.p (.s (.bool false)))), none⟩]
abbrev r7_28 : List CO := [
  ⟨some 159, .load true 70 (.t 21), none⟩,
  ⟨some 160, .mv (.t 8), none⟩,
  ⟨some 161, .slice 36 (.t 160) (some (.c (.p (.s (.int .i64 1))))) none, none⟩,
  ⟨none, .store 70 (.t 5) (.t 159), none⟩,
  ⟨some 8, .mv (.t 161), none⟩]
abbrev b7_28 : List (List Nat) := [[], [], [1], [0, 0], [2, 3, 0, 1, 2, 3]]
abbrev r7_29 : List CO := [
  ⟨some 23, .mv (.c (.p (.s (.bool false)))), none⟩]
abbrev r7_30 : List CO := [
  ⟨some 24, .mv (.c (.p (.s (.int .i64 0)))), none⟩]
abbrev r7_31 : List CO := [
  ⟨some 162, .mv (.t 24), none⟩,
  ⟨some 163, .mv (.t 9), none⟩,
  ⟨some 164, .len (.t 163), none⟩,
  ⟨some 165, .bin .lss (.t 162) (.t 164), none⟩]
abbrev r7_33 : List CO := [
  ⟨some 168, .mv (.t 23), none⟩,
  ⟨some 169, .mv (.t 168), none⟩,
  ⟨some 170, .mv (.t 9), some (169, false)⟩,
  ⟨some 171, .mv (.t 24), some (169, false)⟩,
  ⟨some 172, .iaddrS 1 (.t 170) (.t 171), some (169, false)⟩,
  ⟨some 173, .load false 1 (.t 172), some (169, false)⟩,
  ⟨some 174, .faddr 1 (.t 5), some (169, false)⟩,
  ⟨some 175, .load false 1 (.t 174), some (169, false)⟩,
  ⟨some 176, .bin .eql (.t 173) (.t 175), some (169, false)⟩,
  ⟨some 177, .pick (.t 169) (.c (.p (.s (.bool true)))) (.t 176), none⟩,
  ⟨some 23, .mv (.t 177), none⟩]
abbrev b7_33 : List (List Nat) := [[], [0], [1], [1], [2, 3, 1], [4, 1], [1], [6, 1], [5, 7, 1], [1, 8], [9, 1, 0, 1, 2, 3, 4, 5, 6, 7, 8, 9]]
abbrev k7_3 : CC := .regd r7_33 b7_33
abbrev r7_32 : List CO := [
  ⟨some 166, .mv (.t 24), none⟩,
  ⟨some 167, .bin .add (.t 166) (.c (.p (.s (.int .i64 1)))), none⟩,
  ⟨some 24, .mv (.t 167), none⟩]
abbrev l7_41 : CC := .seq (.seq (.reg r7_31) (.rest [0, 1, 5, 6, 7, 8, 9, 10, 11, 12, 13, 23, 24, 165] (.cond (.t 165) (.skip) (.exit 2)))) (.rest [0, 1, 5, 6, 7, 8, 9, 10, 11, 12, 13, 23, 24] (.seq (.block 3 k7_3) (.rest [0, 1, 5, 6, 7, 8, 9, 10, 11, 12, 13, 23, 24] (.reg r7_32))))
abbrev k7_2 : CC := .loop l7_41
abbrev r7_34 : List CO := [
  ⟨some 178, .mv (.t 23), none⟩,
  ⟨some 179, .un .not (.t 178), none⟩]
abbrev r7_35 : List CO := [
  ⟨some 4, .mv (.c (.p (.s (.bool false)))), none⟩]
abbrev k7_1 : CC := .seq (.reg r7_9) (.rest [0, 1, 5, 6, 7, 8, 9, 10, 11, 12, 13, 14] (.seq (.seq (.reg r7_10) (.rest [0, 1, 5, 6, 7, 8, 9, 10, 11, 12, 13, 14, 70] (.cond (.t 70) (.seq (.regd r7_11 b7_11) (.rest [0, 1, 5, 6, 7, 8, 9, 10, 11, 12, 13, 15, 16, 17] (.seq (.seq (.reg r7_12) (.cond (.t 83) (.exit 1) (.skip))) (.seq (.regd r7_13 b7_13) (.rest [0, 1, 5, 6, 7, 8, 9, 10, 11, 13, 16] (.seq (.reg r7_14) (.rest [0, 1, 5, 6, 7, 8, 9, 10, 11, 13] (.seq (.reg r7_15) (.seq (.reg r7_16) (.exit 1)))))))))) (.skip)))) (.rest [0, 1, 5, 6, 7, 8, 9, 10, 11, 12, 13, 14] (.seq (.seq (.reg r7_17) (.rest [0, 1, 5, 6, 7, 8, 9, 10, 11, 12, 13, 14, 108] (.cond (.t 108) (.seq (.regd r7_18 b7_18) (.rest [0, 1, 5, 6, 7, 8, 9, 10, 11, 12, 13, 18, 19, 20] (.seq (.seq (.reg r7_19) (.cond (.t 119) (.seq (.reg r7_20) (.ret)) (.skip))) (.seq (.regd r7_21 b7_21) (.rest [0, 1, 5, 6, 7, 8, 9, 10, 11, 12, 13, 19] (.seq (.reg r7_22) (.rest [0, 1, 5, 6, 7, 8, 9, 10, 11, 12, 13] (.seq (.reg r7_23) (.rest [0, 1, 5, 6, 7, 8, 9, 10, 11, 12, 13] (.exit 1)))))))))) (.skip)))) (.rest [0, 1, 5, 6, 7, 8, 9, 10, 11, 12, 13, 14] (.seq (.reg r7_24) (.rest [0, 1, 5, 6, 7, 8, 9, 10, 11, 12, 13, 148] (.cond (.t 148) (.seq (.regd r7_25 b7_25) (.rest [0, 1, 5, 6, 7, 8, 9, 10, 11, 12, 13, 21, 22] (.seq (.seq (.reg r7_26) (.cond (.t 158) (.seq (.reg r7_27) (.ret)) (.skip))) (.seq (.regd r7_28 b7_28) (.rest [0, 1, 5, 6, 7, 8, 9, 10, 11, 12, 13] (.seq (.reg r7_29) (.seq (.seq (.reg r7_30) (.block 2 k7_2)) (.rest [0, 1, 5, 6, 7, 8, 9, 10, 11, 12, 13, 23] (.seq (.reg r7_34) (.cond (.t 179) (.seq (.reg r7_35) (.ret)) (.skip))))))))))) (.skip)))))))))
abbrev r7_8 : List CO := [
  ⟨some 51, .mv (.t 13), none⟩,
  ⟨some 52, .bin .add (.t 51) (.c (.p (.s (.int .i64 1)))), none⟩,
  ⟨some 13, .mv (.t 52), none⟩]
abbrev l7_47 : CC := .seq (.seq (.reg r7_7) (.rest [0, 1, 5, 6, 7, 8, 9, 10, 11, 12, 13, 50] (.cond (.t 50) (.skip) (.exit 0)))) (.rest [0, 1, 5, 6, 7, 8, 9, 10, 11, 12, 13] (.seq (.block 1 k7_1) (.rest [0, 1, 5, 6, 7, 8, 9, 10, 11, 12, 13] (.reg r7_8))))
abbrev k7_0 : CC := .loop l7_47
abbrev r7_36 : List CO := [
  ⟨some 180, .mv (.t 7), none⟩,
  ⟨some 181, .len (.t 180), none⟩,
  ⟨some 182, .mv (.t 8), none⟩,
  ⟨some 183, .len (.t 182), none⟩,
  ⟨some 184, .bin .add (.t 181) (.t 183), none⟩,
  ⟨some 185, .bin .gtr (.t 184) (.c (.p (.s (.int .i64 0)))), none⟩,
  ⟨some 186, .mv (.t 185), none⟩,
  ⟨some 187, .mv (.t 11), some (186, false)⟩,
  ⟨some 188, .mv (.t 10), some (186, false)⟩,
  ⟨some 189, .bin .mul (.c (.p (.s (.int .i64 2)))) (.t 188), some (186, false)⟩,
  ⟨some 190, .bin .gtr (.t 187) (.t 189), some (186, false)⟩,
  ⟨some 191, .pick (.t 186) (.c (.p (.s (.bool true)))) (.t 190), none⟩,
  ⟨some 192, .mv (.t 191), none⟩,
  ⟨some 193, .faddr 2 (.t 5), some (192, false)⟩,
  ⟨some 194, .load false 1 (.t 193), some (192, false)⟩,
  ⟨some 195, .bin .neq (.t 194) (.c (.p (.s (.int .i64 0)))), some (192, false)⟩,
  ⟨some 196, .pick (.t 192) (.c (.p (.s (.bool true)))) (.t 195), none⟩,
  ⟨some 197, .mv (.t 196), none⟩,
  ⟨some 198, .faddr 69 (.t 5), some (197, false)⟩,
  ⟨some 199, .load false 1 (.t 198), some (197, false)⟩,
  ⟨some 200, .bin .neq (.t 199) (.c (.p (.s (.int .i64 0)))), some (197, false)⟩,
  ⟨some 201, .pick (.t 197) (.c (.p (.s (.bool true)))) (.t 200), none⟩]
abbrev r7_37 : List CO := [
  ⟨some 4, .mv (.c (.p (.s (.bool false)))), none⟩]
abbrev r7_38 : List CO := [
  ⟨some 202, .faddr 1 (.t 5), none⟩,
  ⟨some 203, .load false 1 (.t 202), none⟩,
  ⟨some 204, .mv (.t 12), none⟩,
  ⟨some 205, .bin .eql (.t 203) (.t 204), none⟩,
  ⟨some 206, .mv (.t 205), none⟩,
  ⟨some 207, .faddr 0 (.t 6), some (206, true)⟩,
  ⟨some 208, .load false 1 (.t 207), some (206, true)⟩,
  ⟨some 209, .mv (.t 12), some (206, true)⟩,
  ⟨some 210, .bin .eql (.t 208) (.t 209), some (206, true)⟩,
  ⟨some 211, .pick (.t 206) (.t 210) (.c (.p (.s (.bool false)))), none⟩,
  ⟨some 212, .mv (.t 211), none⟩,
  ⟨some 213, .faddr 68 (.t 5), some (212, true)⟩,
  ⟨some 214, .load false 1 (.t 213), some (212, true)⟩,
  ⟨some 215, .faddr 33 (.t 6), some (212, true)⟩,
  ⟨some 216, .load false 1 (.t 215), some (212, true)⟩,
  ⟨some 217, .beq false (.t 214) (.t 216), some (212, true)⟩,
  ⟨some 218, .pick (.t 212) (.t 217) (.c (.p (.s (.bool false)))), none⟩,
  ⟨some 219, .mv (.t 218), none⟩,
  ⟨some 220, .faddr 35 (.t 5), some (219, true)⟩,
  ⟨some 221, .load true 32 (.t 220), some (219, true)⟩,
  ⟨some 222, .faddr 1 (.t 6), some (219, true)⟩,
  ⟨some 223, .load true 32 (.t 222), some (219, true)⟩,
  ⟨some 224, .eqs false (List.replicate 32 0) (.t 221) (.t 223), some (219, true)⟩,
  ⟨some 225, .pick (.t 219) (.t 224) (.c (.p (.s (.bool false)))), none⟩,
  ⟨some 226, .mv (.t 225), none⟩,
  ⟨some 227, .mv (.t 0), some (226, true)⟩,
  ⟨some 228, .un .not (.t 227), some (226, true)⟩,
  ⟨some 229, .mv (.t 228), some (226, true)⟩,
  ⟨some 230, .faddr 33 (.t 6), some (229, false)⟩,
  ⟨some 231, .load false 1 (.t 230), some (229, false)⟩,
  ⟨some 232, .faddr 67 (.t 5), some (229, false)⟩,
  ⟨some 233, .load false 1 (.t 232), some (229, false)⟩,
  ⟨some 234, .beq false (.t 231) (.t 233), some (229, false)⟩,
  ⟨some 235, .mv (.t 234), some (229, false)⟩,
  ⟨some 236, .faddr 1 (.t 6), some (235, true)⟩,
  ⟨some 237, .load true 32 (.t 236), some (235, true)⟩,
  ⟨some 238, .faddr 3 (.t 5), some (235, true)⟩,
  ⟨some 239, .load true 32 (.t 238), some (235, true)⟩,
  ⟨some 240, .eqs false (List.replicate 32 0) (.t 237) (.t 239), some (235, true)⟩,
  ⟨some 241, .pick (.t 235) (.t 240) (.c (.p (.s (.bool false)))), some (229, false)⟩,
  ⟨some 242, .pick (.t 229) (.c (.p (.s (.bool true)))) (.t 241), some (226, true)⟩,
  ⟨some 243, .pick (.t 226) (.t 242) (.c (.p (.s (.bool false)))), none⟩,
  ⟨some 244, .mv (.t 243), none⟩,
  ⟨some 245, .mv (.t 0), some (244, true)⟩,
  ⟨some 246, .mv (.t 245), some (244, true)⟩,
  ⟨some 247, .faddr 33 (.t 6), some (246, false)⟩,
  ⟨some 248, .load false 1 (.t 247), some (246, false)⟩,
  ⟨some 249, .un .not (.t 248), some (246, false)⟩,
  ⟨some 250, .pick (.t 246) (.c (.p (.s (.bool true)))) (.t 249), some (244, true)⟩,
  ⟨some 251, .pick (.t 244) (.t 250) (.c (.p (.s (.bool false)))), none⟩,
  ⟨some 252, .mv (.t 251), none⟩,
  ⟨some 253, .call (.c (.fn (.func 14) [] [])) [], some (252, true)⟩,
  ⟨some 254, .pick (.t 252) (.t 253) (.c (.p (.s (.bool false)))), none⟩,
  ⟨some 4, .mv (.t 254), none⟩]
abbrev c7 : CC := .seq (.reg r7_0) (.seq (.reg r7_1) (.seq (.reg r7_2) (.rest [0, 1, 5, 6] (.seq (.reg r7_3) (.seq (.reg r7_4) (.seq (.reg r7_5) (.seq (.seq (.reg r7_6) (.block 0 k7_0)) (.rest [0, 5, 6, 7, 8, 10, 11, 12] (.seq (.seq (.reg r7_36) (.rest [0, 5, 6, 12, 201] (.cond (.t 201) (.seq (.reg r7_37) (.ret)) (.skip)))) (.rest [0, 5, 6, 12] (.seq (.reg r7_38) (.rest [4] (.ret)))))))))))))
theorem F7 : Fun Try.prog 7 255 c7 [.tmp 4] 2 := ⟨⟨Try.f7, _, Try.func7, rfl, by kernel_rfl, Try.ntmps7, by kernel_rfl, by kernel_rfl⟩, by decide⟩

/-- linnet/linnetlaw16.ModeOnce -/
abbrev r8_0 : List CO := [
  ⟨some 2, .box (.t 0), none⟩,
  ⟨some 3, .box (.t 1), none⟩,
  ⟨some 4, .mv (.c (.p (.s (.bool false)))), none⟩]
abbrev r8_1 : List CO := [
  ⟨some 12, .load true 70 (.t 2), none⟩,
  ⟨some 13, .load true 35 (.t 3), none⟩,
  ⟨some 14, .call (.c (.fn (.func 26) [] [])) [.t 12, .t 13], none⟩,
  ⟨some 11, .mv (.t 14), none⟩,
  ⟨some 15, .extract 0 (.t 11), none⟩,
  ⟨some 16, .extract 1 (.t 11), none⟩,
  ⟨some 17, .extract 2 (.t 11), none⟩,
  ⟨some 5, .alloc ([.s (.int .i64 0), .s (.int .i64 0), .s (.int .i64 0), .s (.int .u8 0), .s (.int .u8 0), .s (.int .u8 0), .s (.int .u8 0), .s (.int .u8 0), .s (.int .u8 0), .s (.int .u8 0), .s (.int .u8 0), .s (.int .u8 0), .s (.int .u8 0), .s (.int .u8 0), .s (.int .u8 0), .s (.int .u8 0), .s (.int .u8 0), .s (.int .u8 0), .s (.int .u8 0), .s (.int .u8 0), .s (.int .u8 0), .s (.int .u8 0), .s (.int .u8 0), .s (.int .u8 0), .s (.int .u8 0), .s (.int .u8 0), .s (.int .u8 0), .s (.int .u8 0), .s (.int .u8 0), .s (.int .u8 0), .s (.int .u8 0), .s (.int .u8 0), .s (.int .u8 0), .s (.int .u8 0), .s (.int .u8 0), .s (.int .u8 0), .s (.int .u8 0), .s (.int .u8 0), .s (.int .u8 0), .s (.int .u8 0), .s (.int .u8 0), .s (.int .u8 0), .s (.int .u8 0), .s (.int .u8 0), .s (.int .u8 0), .s (.int .u8 0), .s (.int .u8 0), .s (.int .u8 0), .s (.int .u8 0), .s (.int .u8 0), .s (.int .u8 0), .s (.int .u8 0), .s (.int .u8 0), .s (.int .u8 0), .s (.int .u8 0), .s (.int .u8 0), .s (.int .u8 0), .s (.int .u8 0), .s (.int .u8 0), .s (.int .u8 0), .s (.int .u8 0), .s (.int .u8 0), .s (.int .u8 0), .s (.int .u8 0), .s (.int .u8 0), .s (.int .u8 0), .s (.int .u8 0), .s (.bool false), .s (.bool false), .s (.int .i64 0)]), none⟩,
  ⟨none, .store 70 (.t 5) (.t 15), none⟩,
  ⟨some 6, .mv (.t 16), none⟩,
  ⟨some 7, .mv (.t 17), none⟩]
abbrev r8_2 : List CO := [
  ⟨some 18, .mv (.t 7), none⟩,
  ⟨some 19, .bin .neq (.t 18) (.c (.p (.s (.int .i64 0)))), none⟩]
abbrev r8_3 : List CO := [
  ⟨some 20, .load true 70 (.t 5), none⟩,
  ⟨some 21, .load true 70 (.t 2), none⟩,
  ⟨some 22, .eqs false [0, 0, 0, 0, 0, 0, 0, 0, 0, 0, 0, 0, 0, 0, 0, 0, 0, 0, 0, 0, 0, 0, 0, 0, 0, 0, 0, 0, 0, 0, 0, 0, 0, 0, 0, 0, 0, 0, 0, 0, 0, 0, 0, 0, 0, 0, 0, 0, 0, 0, 0, 0, 0, 0, 0, 0, 0, 0, 0, 0, 0, 0, 0, 0, 0, 0, 0, 1, 1, 0] (.t 20) (.t 21), none⟩,
  ⟨some 23, .mv (.t 22), none⟩,
  ⟨some 24, .mv (.t 6), some (23, true)⟩,
  ⟨some 25, .len (.t 24), some (23, true)⟩,
  ⟨some 26, .bin .eql (.t 25) (.c (.p (.s (.int .i64 0)))), some (23, true)⟩,
  ⟨some 27, .pick (.t 23) (.t 26) (.c (.p (.s (.bool false)))), none⟩,
  ⟨some 28, .mv (.t 27), none⟩,
  ⟨some 29, .call (.c (.fn (.func 14) [] [])) [], some (28, true)⟩,
  ⟨some 30, .pick (.t 28) (.t 29) (.c (.p (.s (.bool false)))), none⟩,
  ⟨some 4, .mv (.t 30), none⟩]
abbrev r8_4 : List CO := [
  ⟨some 32, .load true 70 (.t 5), none⟩,
  ⟨some 33, .load true 35 (.t 3), none⟩,
  ⟨some 34, .call (.c (.fn (.func 26) [] [])) [.t 32, .t 33], none⟩,
  ⟨some 31, .mv (.t 34), none⟩,
  ⟨some 35, .extract 0 (.t 31), none⟩,
  ⟨some 36, .extract 1 (.t 31), none⟩,
  ⟨some 37, .extract 2 (.t 31), none⟩,
  ⟨some 8, .alloc ([.s (.int .i64 0), .s (.int .i64 0), .s (.int .i64 0), .s (.int .u8 0), .s (.int .u8 0), .s (.int .u8 0), .s (.int .u8 0), .s (.int .u8 0), .s (.int .u8 0), .s (.int .u8 0), .s (.int .u8 0), .s (.int .u8 0), .s (.int .u8 0), .s (.int .u8 0), .s (.int .u8 0), .s (.int .u8 0), .s (.int .u8 0), .s (.int .u8 0), .s (.int .u8 0), .s (.int .u8 0), .s (.int .u8 0), .s (.int .u8 0), .s (.int .u8 0), .s (.int .u8 0), .s (.int .u8 0), .s (.int .u8 0), .s (.int .u8 0), .s (.int .u8 0), .s (.int .u8 0), .s (.int .u8 0), .s (.int .u8 0), .s (.int .u8 0), .s (.int .u8 0), .s (.int .u8 0), .s (.int .u8 0), .s (.int .u8 0), .s (.int .u8 0), .s (.int .u8 0), .s (.int .u8 0), .s (.int .u8 0), .s (.int .u8 0), .s (.int .u8 0), .s (.int .u8 0), .s (.int .u8 0), .s (.int .u8 0), .s (.int .u8 0), .s (.int .u8 0), .s (.int .u8 0), .s (.int .u8 0), .s (.int .u8 0), .s (.int .u8 0), .s (.int .u8 0), .s (.int .u8 0), .s (.int .u8 0), .s (.int .u8 0), .s (.int .u8 0), .s (.int .u8 0), .s (.int .u8 0), .s (.int .u8 0), .s (.int .u8 0), .s (.int .u8 0), .s (.int .u8 0), .s (.int .u8 0), .s (.int .u8 0), .s (.int .u8 0), .s (.int .u8 0), .s (.int .u8 0), .s (.bool false), .s (.bool false), .s (.int .i64 0)]), none⟩,
  ⟨none, .store 70 (.t 8) (.t 35), none⟩,
  ⟨some 9, .mv (.t 36), none⟩,
  ⟨some 10, .mv (.t 37), none⟩]
abbrev r8_5 : List CO := [
  ⟨some 38, .mv (.t 10), none⟩,
  ⟨some 39, .bin .neq (.t 38) (.c (.p (.s (.int .i64 0)))), none⟩,
  ⟨some 40, .mv (.t 39), none⟩,
  ⟨some 41, .load true 70 (.t 8), some (40, false)⟩,
  ⟨some 42, .load true 70 (.t 5), some (40, false)⟩,
  ⟨some 43, .eqs true [0, 0, 0, 0, 0, 0, 0, 0, 0, 0, 0, 0, 0, 0, 0, 0, 0, 0, 0, 0, 0, 0, 0, 0, 0, 0, 0, 0, 0, 0, 0, 0, 0, 0, 0, 0, 0, 0, 0, 0, 0, 0, 0, 0, 0, 0, 0, 0, 0, 0, 0, 0, 0, 0, 0, 0, 0, 0, 0, 0, 0, 0, 0, 0, 0, 0, 0, 1, 1, 0] (.t 41) (.t 42), some (40, false)⟩,
  ⟨some 44, .pick (.t 40) (.c (.p (.s (.bool true)))) (.t 43), none⟩,
  ⟨some 45, .mv (.t 44), none⟩,
  ⟨some 46, .mv (.t 9), some (45, false)⟩,
  ⟨some 47, .len (.t 46), some (45, false)⟩,
  ⟨some 48, .bin .neq (.t 47) (.c (.p (.s (.int .i64 0)))), some (45, false)⟩,
  ⟨some 49, .pick (.t 45) (.c (.p (.s (.bool true)))) (.t 48), none⟩,
  ⟨some 50, .mv (.t 49), none⟩,
  ⟨some 51, .mv (.t 6), some (50, false)⟩,
  ⟨some 52, .len (.t 51), some (50, false)⟩,
  ⟨some 53, .bin .gtr (.t 52) (.c (.p (.s (.int .i64 1)))), some (50, false)⟩,
  ⟨some 54, .pick (.t 50) (.c (.p (.s (.bool true)))) (.t 53), none⟩,
  ⟨some 55, .mv (.t 54), none⟩,
  ⟨some 56, .load true 70 (.t 5), some (55, false)⟩,
  ⟨some 57, .call (.c (.fn (.func 18) [] [])) [.t 56], some (55, false)⟩,
  ⟨some 58, .bin .neq (.t 57) (.c (.p (.s (.int .i64 0)))), some (55, false)⟩,
  ⟨some 59, .pick (.t 55) (.c (.p (.s (.bool true)))) (.t 58), none⟩]
abbrev r8_6 : List CO := [
  ⟨some 4, .mv (.c (.p (.s (.bool false)))), none⟩]
abbrev r8_7 : List CO := [
  ⟨some 60, .mv (.t 6), none⟩,
  ⟨some 61, .len (.t 60), none⟩,
  ⟨some 62, .bin .eql (.t 61) (.c (.p (.s (.int .i64 0)))), none⟩]
abbrev r8_8 : List CO := [
  ⟨some 63, .load true 70 (.t 5), none⟩,
  ⟨some 64, .load true 70 (.t 2), none⟩,
  ⟨some 65, .eqs false [0, 0, 0, 0, 0, 0, 0, 0, 0, 0, 0, 0, 0, 0, 0, 0, 0, 0, 0, 0, 0, 0, 0, 0, 0, 0, 0, 0, 0, 0, 0, 0, 0, 0, 0, 0, 0, 0, 0, 0, 0, 0, 0, 0, 0, 0, 0, 0, 0, 0, 0, 0, 0, 0, 0, 0, 0, 0, 0, 0, 0, 0, 0, 0, 0, 0, 0, 1, 1, 0] (.t 63) (.t 64), none⟩,
  ⟨some 66, .mv (.t 65), none⟩,
  ⟨some 67, .call (.c (.fn (.func 14) [] [])) [], some (66, true)⟩,
  ⟨some 68, .pick (.t 66) (.t 67) (.c (.p (.s (.bool false)))), none⟩,
  ⟨some 4, .mv (.t 68), none⟩]
abbrev r8_9 : List CO := [
  ⟨some 69, .mv (.t 6), none⟩,
  ⟨some 70, .iaddrS 36 (.t 69) (.c (.p (.s (.int .i64 0)))), none⟩,
  ⟨some 71, .load true 36 (.t 70), none⟩,
  ⟨some 72, .call (.c (.fn (.func 19) [] [])) [.t 71], none⟩,
  ⟨some 73, .bin .eql (.t 72) (.c (.p (.s (.int .i64 0)))), none⟩,
  ⟨some 74, .mv (.t 73), none⟩,
  ⟨some 75, .faddr 2 (.t 5), some (74, true)⟩,
  ⟨some 76, .load false 1 (.t 75), some (74, true)⟩,
  ⟨some 77, .faddr 69 (.t 5), some (74, true)⟩,
  ⟨some 78, .load false 1 (.t 77), some (74, true)⟩,
  ⟨some 79, .bin .add (.t 76) (.t 78), some (74, true)⟩,
  ⟨some 80, .faddr 2 (.t 2), some (74, true)⟩,
  ⟨some 81, .load false 1 (.t 80), some (74, true)⟩,
  ⟨some 82, .faddr 69 (.t 2), some (74, true)⟩,
  ⟨some 83, .load false 1 (.t 82), some (74, true)⟩,
  ⟨some 84, .bin .add (.t 81) (.t 83), some (74, true)⟩,
  ⟨some 85, .bin .add (.t 84) (.c (.p (.s (.int .i64 1)))), some (74, true)⟩,
  ⟨some 86, .bin .eql (.t 79) (.t 85), some (74, true)⟩,
  ⟨some 87, .pick (.t 74) (.t 86) (.c (.p (.s (.bool false)))), none⟩,
  ⟨some 88, .mv (.t 87), none⟩,
  ⟨some 89, .faddr 1 (.t 5), some (88, true)⟩,
  ⟨some 90, .load false 1 (.t 89), some (88, true)⟩,
  ⟨some 91, .faddr 1 (.t 2), some (88, true)⟩,
  ⟨some 92, .load false 1 (.t 91), some (88, true)⟩,
  ⟨some 93, .bin .eql (.t 90) (.t 92), some (88, true)⟩,
  ⟨some 94, .pick (.t 88) (.t 93) (.c (.p (.s (.bool false)))), none⟩,
  ⟨some 95, .mv (.t 94), none⟩,
  ⟨some 96, .faddr 35 (.t 5), some (95, true)⟩,
  ⟨some 97, .load true 32 (.t 96), some (95, true)⟩,
  ⟨some 98, .faddr 35 (.t 2), some (95, true)⟩,
  ⟨some 99, .load true 32 (.t 98), some (95, true)⟩,
  ⟨some 100, .eqs false (List.replicate 32 0) (.t 97) (.t 99), some (95, true)⟩,
  ⟨some 101, .pick (.t 95) (.t 100) (.c (.p (.s (.bool false)))), none⟩,
  ⟨some 102, .mv (.t 101), none⟩,
  ⟨some 103, .call (.c (.fn (.func 14) [] [])) [], some (102, true)⟩,
  ⟨some 104, .pick (.t 102) (.t 103) (.c (.p (.s (.bool false)))), none⟩,
  ⟨some 4, .mv (.t 104), none⟩]
abbrev c8 : CC := .seq (.reg r8_0) (.seq (.reg r8_1) (.rest [2, 3, 5, 6, 7] (.seq (.seq (.reg r8_2) (.cond (.t 19) (.seq (.reg r8_3) (.rest [4] (.ret))) (.skip))) (.rest [2, 3, 5, 6] (.seq (.reg r8_4) (.rest [2, 5, 6, 8, 9, 10] (.seq (.seq (.reg r8_5) (.rest [2, 5, 6, 59] (.cond (.t 59) (.seq (.reg r8_6) (.ret)) (.skip)))) (.rest [2, 5, 6] (.seq (.seq (.reg r8_7) (.cond (.t 62) (.seq (.reg r8_8) (.rest [4] (.ret))) (.skip))) (.rest [2, 5, 6] (.seq (.reg r8_9) (.rest [4] (.ret)))))))))))))
theorem F8 : Fun Try.prog 8 105 c8 [.tmp 4] 2 := ⟨⟨Try.f8, _, Try.func8, rfl, by kernel_rfl, Try.ntmps8, by kernel_rfl, by kernel_rfl⟩, by decide⟩

/-- linnet/linnetlaw11.One -/
abbrev r9_0 : List CO := [
  ⟨some 1, .box (.t 0), none⟩,
  ⟨some 2, .alloc ([.s (.int .i64 0), .s (.int .i64 0), .s (.int .i64 0), .s (.int .u8 0), .s (.int .u8 0), .s (.int .u8 0), .s (.int .u8 0), .s (.int .u8 0), .s (.int .u8 0), .s (.int .u8 0), .s (.int .u8 0), .s (.int .u8 0), .s (.int .u8 0), .s (.int .u8 0), .s (.int .u8 0), .s (.int .u8 0), .s (.int .u8 0), .s (.int .u8 0), .s (.int .u8 0), .s (.int .u8 0), .s (.int .u8 0), .s (.int .u8 0), .s (.int .u8 0), .s (.int .u8 0), .s (.int .u8 0), .s (.int .u8 0), .s (.int .u8 0), .s (.int .u8 0), .s (.int .u8 0), .s (.int .u8 0), .s (.int .u8 0), .s (.int .u8 0), .s (.int .u8 0), .s (.int .u8 0), .s (.int .u8 0), .s (.slice none 0 0)]), none⟩]
abbrev r9_1 : List CO := [
  ⟨some 3, .faddr 35 (.t 1), none⟩,
  ⟨some 4, .load false 1 (.t 3), none⟩,
  ⟨some 5, .len (.t 4), none⟩,
  ⟨some 6, .bin .gtr (.t 5) (.c (.p (.s (.int .i64 180)))), none⟩]
abbrev r9_2 : List CO := [
  ⟨some 7, .faddr 35 (.t 1), none⟩,
  ⟨some 8, .load false 1 (.t 7), none⟩,
  ⟨some 9, .slice 6 (.t 8) none (some (.c (.p (.s (.int .i64 180))))), none⟩,
  ⟨some 10, .faddr 35 (.t 1), none⟩,
  ⟨none, .store 1 (.t 10) (.t 9), none⟩]
abbrev r9_3 : List CO := [
  ⟨some 11, .load true 36 (.t 1), none⟩,
  ⟨none, .store 36 (.t 2) (.t 11), none⟩]
abbrev c9 : CC := .seq (.reg r9_0) (.seq (.seq (.reg r9_1) (.rest [1, 2, 6] (.cond (.t 6) (.reg r9_2) (.skip)))) (.rest [1, 2] (.seq (.reg r9_3) (.ret))))
theorem F9 : Fun Try.prog 9 12 c9 [.cell 2 true 36] 1 := ⟨⟨Try.f9, _, Try.func9, rfl, by kernel_rfl, Try.ntmps9, by kernel_rfl, by kernel_rfl⟩, by decide⟩

/-- linnet/mode.Take -/
abbrev r10_0 : List CO := [
  ⟨some 2, .box (.t 0), none⟩,
  ⟨some 3, .box (.t 1), none⟩,
  ⟨some 4, .alloc ([.s (.int .i64 0), .s (.int .u8 0), .s (.int .u8 0), .s (.int .u8 0), .s (.int .u8 0), .s (.int .u8 0), .s (.int .u8 0), .s (.int .u8 0), .s (.int .u8 0), .s (.int .u8 0), .s (.int .u8 0), .s (.int .u8 0), .s (.int .u8 0), .s (.int .u8 0), .s (.int .u8 0), .s (.int .u8 0), .s (.int .u8 0), .s (.int .u8 0), .s (.int .u8 0), .s (.int .u8 0), .s (.int .u8 0), .s (.int .u8 0), .s (.int .u8 0), .s (.int .u8 0), .s (.int .u8 0), .s (.int .u8 0), .s (.int .u8 0), .s (.int .u8 0), .s (.int .u8 0), .s (.int .u8 0), .s (.int .u8 0), .s (.int .u8 0), .s (.int .u8 0), .s (.bool false), .s (.bool false)]), none⟩,
  ⟨some 5, .mv (.c (.p (.s (.slice none 0 0)))), none⟩,
  ⟨some 6, .mv (.c (.p (.s (.int .i64 0)))), none⟩]
abbrev r10_1 : List CO := [
  ⟨some 7, .load true 35 (.t 2), none⟩,
  ⟨some 8, .call (.c (.fn (.func 11) [] [])) [.t 7], none⟩,
  ⟨some 9, .bin .neq (.t 8) (.c (.p (.s (.int .i64 0)))), none⟩,
  ⟨some 10, .mv (.t 9), none⟩,
  ⟨some 11, .load true 36 (.t 3), some (10, false)⟩,
  ⟨some 12, .call (.c (.fn (.func 19) [] [])) [.t 11], some (10, false)⟩,
  ⟨some 13, .bin .neq (.t 12) (.c (.p (.s (.int .i64 0)))), some (10, false)⟩,
  ⟨some 14, .pick (.t 10) (.c (.p (.s (.bool true)))) (.t 13), none⟩]
abbrev r10_2 : List CO := [
  ⟨some 15, .load true 35 (.t 2), none⟩,
  ⟨none, .store 35 (.t 4) (.t 15), none⟩,
  ⟨some 5, .mv (.c (.p (.s (.slice none 0 0)))), none⟩,
  ⟨some 6, .mv (.c (.p (.s (.int .i64 1)))), none⟩]
abbrev r10_3 : List CO := [
  ⟨some 17, .faddr 0 (.t 3), none⟩,
  ⟨some 18, .load false 1 (.t 17), none⟩,
  ⟨some 19, .bin .eql (.t 18) (.c (.p (.s (.int .i64 1)))), none⟩,
  ⟨some 20, .mv (.t 19), none⟩,
  ⟨some 21, .faddr 1 (.t 3), some (20, true)⟩,
  ⟨some 22, .load false 1 (.t 21), some (20, true)⟩,
  ⟨some 23, .bin .and (.t 22) (.c (.p (.s (.int .i64 4)))), some (20, true)⟩,
  ⟨some 24, .bin .eql (.t 23) (.c (.p (.s (.int .i64 0)))), some (20, true)⟩,
  ⟨some 25, .pick (.t 20) (.t 24) (.c (.p (.s (.bool false)))), none⟩,
  ⟨some 16, .mv (.t 25), none⟩]
abbrev r10_4 : List CO := [
  ⟨some 26, .faddr 1 (.t 3), none⟩,
  ⟨some 27, .load false 1 (.t 26), none⟩,
  ⟨some 28, .faddr 0 (.t 2), none⟩,
  ⟨none, .store 1 (.t 28) (.t 27), none⟩]
abbrev r10_5 : List CO := [
  ⟨some 29, .load true 35 (.t 2), none⟩,
  ⟨some 30, .faddr 1 (.t 3), none⟩,
  ⟨some 31, .load false 1 (.t 30), none⟩,
  ⟨some 32, .bin .or (.t 31) (.c (.p (.s (.int .i64 4)))), none⟩,
  ⟨some 33, .build ([.s (.int .i64 0), .s (.int .i64 0), .s (.int .i64 0), .s (.int .u8 0), .s (.int .u8 0), .s (.int .u8 0), .s (.int .u8 0), .s (.int .u8 0), .s (.int .u8 0), .s (.int .u8 0), .s (.int .u8 0), .s (.int .u8 0), .s (.int .u8 0), .s (.int .u8 0), .s (.int .u8 0), .s (.int .u8 0), .s (.int .u8 0), .s (.int .u8 0), .s (.int .u8 0), .s (.int .u8 0), .s (.int .u8 0), .s (.int .u8 0), .s (.int .u8 0), .s (.int .u8 0), .s (.int .u8 0), .s (.int .u8 0), .s (.int .u8 0), .s (.int .u8 0), .s (.int .u8 0), .s (.int .u8 0), .s (.int .u8 0), .s (.int .u8 0), .s (.int .u8 0), .s (.int .u8 0), .s (.int .u8 0), .s (.slice none 0 0)]) [(0, 1, .c (.p (.s (.int .i64 1)))), (1, 1, .t 32)], none⟩,
  ⟨some 34, .bslice 36 1 ([.s (.int .i64 0), .s (.int .i64 0), .s (.int .i64 0), .s (.int .u8 0), .s (.int .u8 0), .s (.int .u8 0), .s (.int .u8 0), .s (.int .u8 0), .s (.int .u8 0), .s (.int .u8 0), .s (.int .u8 0), .s (.int .u8 0), .s (.int .u8 0), .s (.int .u8 0), .s (.int .u8 0), .s (.int .u8 0), .s (.int .u8 0), .s (.int .u8 0), .s (.int .u8 0), .s (.int .u8 0), .s (.int .u8 0), .s (.int .u8 0), .s (.int .u8 0), .s (.int .u8 0), .s (.int .u8 0), .s (.int .u8 0), .s (.int .u8 0), .s (.int .u8 0), .s (.int .u8 0), .s (.int .u8 0), .s (.int .u8 0), .s (.int .u8 0), .s (.int .u8 0), .s (.int .u8 0), .s (.int .u8 0), .s (.slice none 0 0)]) [(0, .t 33)], none⟩,
  ⟨none, .store 35 (.t 4) (.t 29), none⟩,
  ⟨some 5, .mv (.t 34), none⟩,
  ⟨some 6, .mv (.c (.p (.s (.int .i64 0)))), none⟩]
abbrev b10_5 : List (List Nat) := [[], [], [1], [2], [3], [4], [0, 0], [5, 6, 0, 1, 2, 3, 4, 5, 6], [7, 0, 1, 2, 3, 4, 5, 6, 7]]
abbrev r10_6 : List CO := [
  ⟨some 36, .faddr 0 (.t 3), none⟩,
  ⟨some 37, .load false 1 (.t 36), none⟩,
  ⟨some 38, .bin .eql (.t 37) (.c (.p (.s (.int .i64 2)))), none⟩,
  ⟨some 39, .mv (.t 38), none⟩,
  ⟨some 40, .faddr 2 (.t 3), some (39, true)⟩,
  ⟨some 41, .load false 1 (.t 40), some (39, true)⟩,
  ⟨some 42, .bin .eql (.t 41) (.c (.p (.s (.int .i64 253)))), some (39, true)⟩,
  ⟨some 43, .pick (.t 39) (.t 42) (.c (.p (.s (.bool false)))), none⟩,
  ⟨some 44, .mv (.t 43), none⟩,
  ⟨some 45, .faddr 34 (.t 2), some (44, true)⟩,
  ⟨some 46, .load false 1 (.t 45), some (44, true)⟩,
  ⟨some 47, .pick (.t 44) (.t 46) (.c (.p (.s (.bool false)))), none⟩,
  ⟨some 35, .mv (.t 47), none⟩]
abbrev r10_7 : List CO := [
  ⟨some 48, .faddr 3 (.t 3), none⟩,
  ⟨some 49, .load true 32 (.t 48), none⟩,
  ⟨some 50, .faddr 33 (.t 2), none⟩,
  ⟨none, .store 1 (.t 50) (.c (.p (.s (.bool true)))), none⟩,
  ⟨some 51, .faddr 1 (.t 2), none⟩,
  ⟨none, .store 32 (.t 51) (.t 49), none⟩]
abbrev b10_7 : List (List Nat) := [[], [0], [], [2], [0, 1, 2, 3], [4, 1, 3, 0, 1, 2, 3]]
abbrev r10_8 : List CO := [
  ⟨some 52, .load true 35 (.t 2), none⟩,
  ⟨some 53, .build (List.replicate 32 (.s (.int .u8 0))) [], none⟩,
  ⟨some 54, .call (.c (.fn (.func 27) [] [])) [.c (.p (.s (.int .i64 251))), .t 53], none⟩,
  ⟨none, .store 35 (.t 4) (.t 52), none⟩,
  ⟨some 5, .mv (.t 54), none⟩,
  ⟨some 6, .mv (.c (.p (.s (.int .i64 0)))), none⟩]
abbrev b10_8 : List (List Nat) := [[], [], [1], [0, 2, 0], [2, 3, 0, 1, 2, 3], [4, 0, 1, 2, 3, 4]]
abbrev r10_9 : List CO := [
  ⟨some 56, .faddr 0 (.t 3), none⟩,
  ⟨some 57, .load false 1 (.t 56), none⟩,
  ⟨some 58, .bin .eql (.t 57) (.c (.p (.s (.int .i64 2)))), none⟩,
  ⟨some 59, .mv (.t 58), none⟩,
  ⟨some 60, .faddr 2 (.t 3), some (59, true)⟩,
  ⟨some 61, .load false 1 (.t 60), some (59, true)⟩,
  ⟨some 62, .bin .eql (.t 61) (.c (.p (.s (.int .i64 253)))), some (59, true)⟩,
  ⟨some 63, .mv (.t 62), some (59, true)⟩,
  ⟨some 64, .faddr 2 (.t 3), some (63, false)⟩,
  ⟨some 65, .load false 1 (.t 64), some (63, false)⟩,
  ⟨some 66, .bin .eql (.t 65) (.c (.p (.s (.int .i64 254)))), some (63, false)⟩,
  ⟨some 67, .pick (.t 63) (.c (.p (.s (.bool true)))) (.t 66), some (59, true)⟩,
  ⟨some 68, .pick (.t 59) (.t 67) (.c (.p (.s (.bool false)))), none⟩,
  ⟨some 55, .mv (.t 68), none⟩]
abbrev r10_10 : List CO := [
  ⟨some 69, .build (List.replicate 32 (.s (.int .u8 0))) [], none⟩,
  ⟨some 70, .faddr 33 (.t 2), none⟩,
  ⟨none, .store 1 (.t 70) (.c (.p (.s (.bool false)))), none⟩,
  ⟨some 71, .faddr 1 (.t 2), none⟩,
  ⟨none, .store 32 (.t 71) (.t 69), none⟩]
abbrev r10_11 : List CO := [
  ⟨some 72, .load true 35 (.t 2), none⟩,
  ⟨some 73, .build (List.replicate 32 (.s (.int .u8 0))) [], none⟩,
  ⟨some 74, .call (.c (.fn (.func 27) [] [])) [.c (.p (.s (.int .i64 252))), .t 73], none⟩,
  ⟨none, .store 35 (.t 4) (.t 72), none⟩,
  ⟨some 5, .mv (.t 74), none⟩,
  ⟨some 6, .mv (.c (.p (.s (.int .i64 0)))), none⟩]
abbrev b10_11 : List (List Nat) := [[], [], [1], [0, 2, 0], [2, 3, 0, 1, 2, 3], [4, 0, 1, 2, 3, 4]]
abbrev k10_0 : CC := .seq (.reg r10_3) (.rest [2, 3, 4, 16] (.cond (.t 16) (.seq (.reg r10_4) (.rest [2, 3, 4] (.seq (.regd r10_5 b10_5) (.rest [4, 5, 6] (.ret))))) (.seq (.reg r10_6) (.rest [2, 3, 4, 35] (.cond (.t 35) (.seq (.regd r10_7 b10_7) (.rest [2, 4] (.seq (.regd r10_8 b10_8) (.rest [4, 5, 6] (.ret))))) (.seq (.reg r10_9) (.rest [2, 4, 55] (.cond (.t 55) (.seq (.reg r10_10) (.rest [2, 4] (.seq (.regd r10_11 b10_11) (.rest [4, 5, 6] (.ret))))) (.skip)))))))))
abbrev r10_12 : List CO := [
  ⟨some 75, .load true 35 (.t 2), none⟩,
  ⟨none, .store 35 (.t 4) (.t 75), none⟩,
  ⟨some 5, .mv (.c (.p (.s (.slice none 0 0)))), none⟩,
  ⟨some 6, .mv (.c (.p (.s (.int .i64 5)))), none⟩]
abbrev c10 : CC := .seq (.reg r10_0) (.rest [2, 3, 4] (.seq (.seq (.reg r10_1) (.rest [2, 3, 4, 14] (.cond (.t 14) (.seq (.reg r10_2) (.rest [4, 5, 6] (.ret))) (.skip)))) (.rest [2, 3, 4] (.seq (.block 0 k10_0) (.rest [2, 4] (.seq (.reg r10_12) (.rest [4, 5, 6] (.ret))))))))
theorem F10 : Fun Try.prog 10 76 c10 [.cell 4 true 35, .tmp 5, .tmp 6] 2 := ⟨⟨Try.f10, _, Try.func10, rfl, by kernel_rfl, Try.ntmps10, by kernel_rfl, by kernel_rfl⟩, by decide⟩

/-- linnet/mode.Sane -/
abbrev r11_0 : List CO := [
  ⟨some 1, .box (.t 0), none⟩,
  ⟨some 2, .mv (.c (.p (.s (.int .i64 0)))), none⟩]
abbrev r11_1 : List CO := [
  ⟨some 3, .faddr 0 (.t 1), none⟩,
  ⟨some 4, .load false 1 (.t 3), none⟩,
  ⟨some 5, .call (.c (.fn (.func 28) [] [])) [.t 4], none⟩,
  ⟨some 6, .un .not (.t 5), none⟩,
  ⟨some 7, .mv (.t 6), none⟩,
  ⟨some 8, .faddr 33 (.t 1), some (7, false)⟩,
  ⟨some 9, .load false 1 (.t 8), some (7, false)⟩,
  ⟨some 10, .faddr 1 (.t 1), some (7, false)⟩,
  ⟨some 11, .load true 32 (.t 10), some (7, false)⟩,
  ⟨some 12, .call (.c (.fn (.func 29) [] [])) [.t 9, .t 11], some (7, false)⟩,
  ⟨some 13, .un .not (.t 12), some (7, false)⟩,
  ⟨some 14, .pick (.t 7) (.c (.p (.s (.bool true)))) (.t 13), none⟩]
abbrev r11_2 : List CO := [
  ⟨some 2, .mv (.c (.p (.s (.int .i64 1)))), none⟩]
abbrev r11_3 : List CO := [
  ⟨some 2, .mv (.c (.p (.s (.int .i64 0)))), none⟩]
abbrev c11 : CC := .seq (.reg r11_0) (.seq (.seq (.reg r11_1) (.rest [14] (.cond (.t 14) (.seq (.reg r11_2) (.ret)) (.skip)))) (.rest [] (.seq (.reg r11_3) (.ret))))
theorem F11 : Fun Try.prog 11 15 c11 [.tmp 2] 1 := ⟨⟨Try.f11, _, Try.func11, rfl, by kernel_rfl, Try.ntmps11, by kernel_rfl, by kernel_rfl⟩, by decide⟩

/-- linnet/linnetref16.Sane -/
abbrev r12_0 : List CO := [
  ⟨some 1, .box (.t 0), none⟩,
  ⟨some 2, .mv (.c (.p (.s (.bool false)))), none⟩]
abbrev r12_1 : List CO := [
  ⟨some 3, .faddr 0 (.t 1), none⟩,
  ⟨some 4, .load false 1 (.t 3), none⟩,
  ⟨some 5, .call (.c (.fn (.func 30) [] [])) [.t 4], none⟩,
  ⟨some 6, .mv (.t 5), none⟩,
  ⟨some 7, .faddr 33 (.t 1), some (6, true)⟩,
  ⟨some 8, .load false 1 (.t 7), some (6, true)⟩,
  ⟨some 9, .mv (.t 8), some (6, true)⟩,
  ⟨some 10, .faddr 1 (.t 1), some (9, false)⟩,
  ⟨some 11, .load true 32 (.t 10), some (9, false)⟩,
  ⟨some 12, .build (List.replicate 32 (.s (.int .u8 0))) [], some (9, false)⟩,
  ⟨some 13, .eqs false (List.replicate 32 0) (.t 11) (.t 12), some (9, false)⟩,
  ⟨some 14, .pick (.t 9) (.c (.p (.s (.bool true)))) (.t 13), some (6, true)⟩,
  ⟨some 15, .pick (.t 6) (.t 14) (.c (.p (.s (.bool false)))), none⟩,
  ⟨some 2, .mv (.t 15), none⟩]
abbrev c12 : CC := .seq (.reg r12_0) (.seq (.reg r12_1) (.rest [2] (.ret)))
theorem F12 : Fun Try.prog 12 16 c12 [.tmp 2] 1 := ⟨⟨Try.f12, _, Try.func12, rfl, by kernel_rfl, Try.ntmps12, by kernel_rfl, by kernel_rfl⟩, by decide⟩

/-- linnet/linnetref11.May -/
abbrev r13_0 : List CO := [
  ⟨some 1, .box (.t 0), none⟩,
  ⟨some 2, .mv (.c (.p (.s (.bool false)))), none⟩]
abbrev r13_1 : List CO := [
  ⟨some 6, .build (List.replicate 32 (.s (.int .u8 0))) [], none⟩,
  ⟨some 3, .alloc (List.replicate 32 (.s (.int .u8 0))), none⟩,
  ⟨none, .store 32 (.t 3) (.t 6), none⟩]
abbrev r13_2 : List CO := [
  ⟨some 7, .faddr 0 (.t 1), none⟩,
  ⟨some 8, .load false 1 (.t 7), none⟩,
  ⟨some 9, .bin .eql (.t 8) (.c (.p (.s (.int .i64 1)))), none⟩]
abbrev r13_3 : List CO := [
  ⟨some 10, .faddr 1 (.t 1), none⟩,
  ⟨some 11, .load false 1 (.t 10), none⟩,
  ⟨some 12, .bin .geq (.t 11) (.c (.p (.s (.int .i64 0)))), none⟩,
  ⟨some 13, .mv (.t 12), none⟩,
  ⟨some 14, .faddr 1 (.t 1), some (13, true)⟩,
  ⟨some 15, .load false 1 (.t 14), some (13, true)⟩,
  ⟨some 16, .bin .leq (.t 15) (.c (.p (.s (.int .i64 31)))), some (13, true)⟩,
  ⟨some 17, .pick (.t 13) (.t 16) (.c (.p (.s (.bool false)))), none⟩,
  ⟨some 18, .mv (.t 17), none⟩,
  ⟨some 19, .faddr 2 (.t 1), some (18, true)⟩,
  ⟨some 20, .load false 1 (.t 19), some (18, true)⟩,
  ⟨some 21, .bin .eql (.t 20) (.c (.p (.s (.int .i64 0)))), some (18, true)⟩,
  ⟨some 22, .pick (.t 18) (.t 21) (.c (.p (.s (.bool false)))), none⟩,
  ⟨some 23, .mv (.t 22), none⟩,
  ⟨some 24, .faddr 3 (.t 1), some (23, true)⟩,
  ⟨some 25, .load true 32 (.t 24), some (23, true)⟩,
  ⟨some 26, .load true 32 (.t 3), some (23, true)⟩,
  ⟨some 27, .eqs false (List.replicate 32 0) (.t 25) (.t 26), some (23, true)⟩,
  ⟨some 28, .pick (.t 23) (.t 27) (.c (.p (.s (.bool false)))), none⟩,
  ⟨some 29, .mv (.t 28), none⟩,
  ⟨some 30, .faddr 35 (.t 1), some (29, true)⟩,
  ⟨some 31, .load false 1 (.t 30), some (29, true)⟩,
  ⟨some 32, .len (.t 31), some (29, true)⟩,
  ⟨some 33, .bin .eql (.t 32) (.c (.p (.s (.int .i64 0)))), some (29, true)⟩,
  ⟨some 34, .pick (.t 29) (.t 33) (.c (.p (.s (.bool false)))), none⟩,
  ⟨some 2, .mv (.t 34), none⟩]
abbrev r13_4 : List CO := [
  ⟨some 35, .faddr 0 (.t 1), none⟩,
  ⟨some 36, .load false 1 (.t 35), none⟩,
  ⟨some 37, .bin .eql (.t 36) (.c (.p (.s (.int .i64 2)))), none⟩]
abbrev r13_5 : List CO := [
  ⟨some 38, .faddr 1 (.t 1), none⟩,
  ⟨some 39, .load false 1 (.t 38), none⟩,
  ⟨some 40, .bin .eql (.t 39) (.c (.p (.s (.int .i64 0)))), none⟩,
  ⟨some 41, .mv (.t 40), none⟩,
  ⟨some 42, .faddr 2 (.t 1), some (41, true)⟩,
  ⟨some 43, .load false 1 (.t 42), some (41, true)⟩,
  ⟨some 44, .bin .geq (.t 43) (.c (.p (.s (.int .i64 251)))), some (41, true)⟩,
  ⟨some 45, .pick (.t 41) (.t 44) (.c (.p (.s (.bool false)))), none⟩,
  ⟨some 46, .mv (.t 45), none⟩,
  ⟨some 47, .faddr 2 (.t 1), some (46, true)⟩,
  ⟨some 48, .load false 1 (.t 47), some (46, true)⟩,
  ⟨some 49, .bin .leq (.t 48) (.c (.p (.s (.int .i64 254)))), some (46, true)⟩,
  ⟨some 50, .pick (.t 46) (.t 49) (.c (.p (.s (.bool false)))), none⟩,
  ⟨some 51, .mv (.t 50), none⟩,
  ⟨some 52, .faddr 2 (.t 1), some (51, true)⟩,
  ⟨some 53, .load false 1 (.t 52), some (51, true)⟩,
  ⟨some 54, .bin .eql (.t 53) (.c (.p (.s (.int .i64 253)))), some (51, true)⟩,
  ⟨some 55, .mv (.t 54), some (51, true)⟩,
  ⟨some 56, .faddr 3 (.t 1), some (55, false)⟩,
  ⟨some 57, .load true 32 (.t 56), some (55, false)⟩,
  ⟨some 58, .load true 32 (.t 3), some (55, false)⟩,
  ⟨some 59, .eqs false (List.replicate 32 0) (.t 57) (.t 58), some (55, false)⟩,
  ⟨some 60, .pick (.t 55) (.c (.p (.s (.bool true)))) (.t 59), some (51, true)⟩,
  ⟨some 61, .pick (.t 51) (.t 60) (.c (.p (.s (.bool false)))), none⟩,
  ⟨some 62, .mv (.t 61), none⟩,
  ⟨some 63, .faddr 35 (.t 1), some (62, true)⟩,
  ⟨some 64, .load false 1 (.t 63), some (62, true)⟩,
  ⟨some 65, .len (.t 64), some (62, true)⟩,
  ⟨some 66, .bin .eql (.t 65) (.c (.p (.s (.int .i64 0)))), some (62, true)⟩,
  ⟨some 67, .pick (.t 62) (.t 66) (.c (.p (.s (.bool false)))), none⟩,
  ⟨some 2, .mv (.t 67), none⟩]
abbrev r13_6 : List CO := [
  ⟨some 68, .faddr 0 (.t 1), none⟩,
  ⟨some 69, .load false 1 (.t 68), none⟩,
  ⟨some 70, .bin .neq (.t 69) (.c (.p (.s (.int .i64 3)))), none⟩,
  ⟨some 71, .mv (.t 70), none⟩,
  ⟨some 72, .faddr 1 (.t 1), some (71, false)⟩,
  ⟨some 73, .load false 1 (.t 72), some (71, false)⟩,
  ⟨some 74, .bin .neq (.t 73) (.c (.p (.s (.int .i64 0)))), some (71, false)⟩,
  ⟨some 75, .pick (.t 71) (.c (.p (.s (.bool true)))) (.t 74), none⟩,
  ⟨some 76, .mv (.t 75), none⟩,
  ⟨some 77, .faddr 2 (.t 1), some (76, false)⟩,
  ⟨some 78, .load false 1 (.t 77), some (76, false)⟩,
  ⟨some 79, .bin .neq (.t 78) (.c (.p (.s (.int .i64 0)))), some (76, false)⟩,
  ⟨some 80, .pick (.t 76) (.c (.p (.s (.bool true)))) (.t 79), none⟩,
  ⟨some 81, .mv (.t 80), none⟩,
  ⟨some 82, .faddr 3 (.t 1), some (81, false)⟩,
  ⟨some 83, .load true 32 (.t 82), some (81, false)⟩,
  ⟨some 84, .load true 32 (.t 3), some (81, false)⟩,
  ⟨some 85, .eqs true (List.replicate 32 0) (.t 83) (.t 84), some (81, false)⟩,
  ⟨some 86, .pick (.t 81) (.c (.p (.s (.bool true)))) (.t 85), none⟩,
  ⟨some 87, .mv (.t 86), none⟩,
  ⟨some 88, .faddr 35 (.t 1), some (87, false)⟩,
  ⟨some 89, .load false 1 (.t 88), some (87, false)⟩,
  ⟨some 90, .len (.t 89), some (87, false)⟩,
  ⟨some 91, .bin .gtr (.t 90) (.c (.p (.s (.int .i64 170)))), some (87, false)⟩,
  ⟨some 92, .pick (.t 87) (.c (.p (.s (.bool true)))) (.t 91), none⟩]
abbrev r13_7 : List CO := [
  ⟨some 2, .mv (.c (.p (.s (.bool false)))), none⟩]
abbrev r13_8 : List CO := [
  ⟨some 94, .faddr 35 (.t 1), none⟩,
  ⟨some 95, .load false 1 (.t 94), none⟩,
  ⟨some 96, .call (.c (.fn (.func 31) [] [])) [.t 95], none⟩,
  ⟨some 93, .mv (.t 96), none⟩,
  ⟨some 97, .extract 0 (.t 93), none⟩,
  ⟨some 98, .extract 1 (.t 93), none⟩,
  ⟨some 4, .mv (.t 97), none⟩,
  ⟨some 5, .mv (.t 98), none⟩]
abbrev r13_9 : List CO := [
  ⟨some 99, .mv (.t 5), none⟩,
  ⟨some 2, .mv (.t 99), none⟩]
abbrev c13 : CC := .seq (.reg r13_0) (.seq (.reg r13_1) (.seq (.seq (.reg r13_2) (.cond (.t 9) (.seq (.reg r13_3) (.rest [2] (.ret))) (.skip))) (.rest [1, 3] (.seq (.seq (.reg r13_4) (.cond (.t 37) (.seq (.reg r13_5) (.rest [2] (.ret))) (.skip))) (.rest [1, 3] (.seq (.seq (.reg r13_6) (.rest [1, 92] (.cond (.t 92) (.seq (.reg r13_7) (.ret)) (.skip)))) (.rest [1] (.seq (.reg r13_8) (.rest [5] (.seq (.reg r13_9) (.ret)))))))))))
theorem F13 : Fun Try.prog 13 100 c13 [.tmp 2] 1 := ⟨⟨Try.f13, _, Try.func13, rfl, by kernel_rfl, Try.ntmps13, by kernel_rfl, by kernel_rfl⟩, by decide⟩

/-- linnet/linnetlaw16.awake -/
abbrev r14_0 : List CO := [
  ⟨some 0, .mv (.c (.p (.s (.bool false)))), none⟩]
abbrev r14_1 : List CO := [
  ⟨some 15, .build ([.s (.int .i64 0), .s (.int .i64 0), .s (.int .i64 0), .s (.int .u8 0), .s (.int .u8 0), .s (.int .u8 0), .s (.int .u8 0), .s (.int .u8 0), .s (.int .u8 0), .s (.int .u8 0), .s (.int .u8 0), .s (.int .u8 0), .s (.int .u8 0), .s (.int .u8 0), .s (.int .u8 0), .s (.int .u8 0), .s (.int .u8 0), .s (.int .u8 0), .s (.int .u8 0), .s (.int .u8 0), .s (.int .u8 0), .s (.int .u8 0), .s (.int .u8 0), .s (.int .u8 0), .s (.int .u8 0), .s (.int .u8 0), .s (.int .u8 0), .s (.int .u8 0), .s (.int .u8 0), .s (.int .u8 0), .s (.int .u8 0), .s (.int .u8 0), .s (.int .u8 0), .s (.int .u8 0), .s (.int .u8 0), .s (.int .u8 0), .s (.int .u8 0), .s (.int .u8 0), .s (.int .u8 0), .s (.int .u8 0), .s (.int .u8 0), .s (.int .u8 0), .s (.int .u8 0), .s (.int .u8 0), .s (.int .u8 0), .s (.int .u8 0), .s (.int .u8 0), .s (.int .u8 0), .s (.int .u8 0), .s (.int .u8 0), .s (.int .u8 0), .s (.int .u8 0), .s (.int .u8 0), .s (.int .u8 0), .s (.int .u8 0), .s (.int .u8 0), .s (.int .u8 0), .s (.int .u8 0), .s (.int .u8 0), .s (.int .u8 0), .s (.int .u8 0), .s (.int .u8 0), .s (.int .u8 0), .s (.int .u8 0), .s (.int .u8 0), .s (.int .u8 0), .s (.int .u8 0), .s (.bool false), .s (.bool false), .s (.int .i64 0)]) [], none⟩,
  ⟨some 16, .call (.c (.fn (.func 20) [] [])) [.t 15, .c (.p (.s (.int .i64 3)))], none⟩,
  ⟨some 14, .mv (.t 16), none⟩,
  ⟨some 17, .extract 0 (.t 14), none⟩,
  ⟨some 18, .extract 1 (.t 14), none⟩,
  ⟨some 19, .extract 2 (.t 14), none⟩,
  ⟨some 1, .alloc ([.s (.int .i64 0), .s (.int .i64 0), .s (.int .i64 0), .s (.int .u8 0), .s (.int .u8 0), .s (.int .u8 0), .s (.int .u8 0), .s (.int .u8 0), .s (.int .u8 0), .s (.int .u8 0), .s (.int .u8 0), .s (.int .u8 0), .s (.int .u8 0), .s (.int .u8 0), .s (.int .u8 0), .s (.int .u8 0), .s (.int .u8 0), .s (.int .u8 0), .s (.int .u8 0), .s (.int .u8 0), .s (.int .u8 0), .s (.int .u8 0), .s (.int .u8 0), .s (.int .u8 0), .s (.int .u8 0), .s (.int .u8 0), .s (.int .u8 0), .s (.int .u8 0), .s (.int .u8 0), .s (.int .u8 0), .s (.int .u8 0), .s (.int .u8 0), .s (.int .u8 0), .s (.int .u8 0), .s (.int .u8 0), .s (.int .u8 0), .s (.int .u8 0), .s (.int .u8 0), .s (.int .u8 0), .s (.int .u8 0), .s (.int .u8 0), .s (.int .u8 0), .s (.int .u8 0), .s (.int .u8 0), .s (.int .u8 0), .s (.int .u8 0), .s (.int .u8 0), .s (.int .u8 0), .s (.int .u8 0), .s (.int .u8 0), .s (.int .u8 0), .s (.int .u8 0), .s (.int .u8 0), .s (.int .u8 0), .s (.int .u8 0), .s (.int .u8 0), .s (.int .u8 0), .s (.int .u8 0), .s (.int .u8 0), .s (.int .u8 0), .s (.int .u8 0), .s (.int .u8 0), .s (.int .u8 0), .s (.int .u8 0), .s (.int .u8 0), .s (.int .u8 0), .s (.int .u8 0), .s (.bool false), .s (.bool false), .s (.int .i64 0)]), none⟩,
  ⟨none, .store 70 (.t 1) (.t 17), none⟩,
  ⟨some 2, .mv (.t 18), none⟩,
  ⟨some 3, .mv (.t 19), none⟩]
abbrev r14_2 : List CO := [
  ⟨some 21, .load true 70 (.t 1), none⟩,
  ⟨some 22, .call (.c (.fn (.func 20) [] [])) [.t 21, .c (.p (.s (.int .i64 3)))], none⟩,
  ⟨some 20, .mv (.t 22), none⟩,
  ⟨some 23, .extract 0 (.t 20), none⟩,
  ⟨some 24, .extract 1 (.t 20), none⟩,
  ⟨some 25, .extract 2 (.t 20), none⟩,
  ⟨some 4, .alloc ([.s (.int .i64 0), .s (.int .i64 0), .s (.int .i64 0), .s (.int .u8 0), .s (.int .u8 0), .s (.int .u8 0), .s (.int .u8 0), .s (.int .u8 0), .s (.int .u8 0), .s (.int .u8 0), .s (.int .u8 0), .s (.int .u8 0), .s (.int .u8 0), .s (.int .u8 0), .s (.int .u8 0), .s (.int .u8 0), .s (.int .u8 0), .s (.int .u8 0), .s (.int .u8 0), .s (.int .u8 0), .s (.int .u8 0), .s (.int .u8 0), .s (.int .u8 0), .s (.int .u8 0), .s (.int .u8 0), .s (.int .u8 0), .s (.int .u8 0), .s (.int .u8 0), .s (.int .u8 0), .s (.int .u8 0), .s (.int .u8 0), .s (.int .u8 0), .s (.int .u8 0), .s (.int .u8 0), .s (.int .u8 0), .s (.int .u8 0), .s (.int .u8 0), .s (.int .u8 0), .s (.int .u8 0), .s (.int .u8 0), .s (.int .u8 0), .s (.int .u8 0), .s (.int .u8 0), .s (.int .u8 0), .s (.int .u8 0), .s (.int .u8 0), .s (.int .u8 0), .s (.int .u8 0), .s (.int .u8 0), .s (.int .u8 0), .s (.int .u8 0), .s (.int .u8 0), .s (.int .u8 0), .s (.int .u8 0), .s (.int .u8 0), .s (.int .u8 0), .s (.int .u8 0), .s (.int .u8 0), .s (.int .u8 0), .s (.int .u8 0), .s (.int .u8 0), .s (.int .u8 0), .s (.int .u8 0), .s (.int .u8 0), .s (.int .u8 0), .s (.int .u8 0), .s (.int .u8 0), .s (.bool false), .s (.bool false), .s (.int .i64 0)]), none⟩,
  ⟨none, .store 70 (.t 4) (.t 23), none⟩,
  ⟨some 5, .mv (.t 24), none⟩,
  ⟨some 6, .mv (.t 25), none⟩]
abbrev r14_3 : List CO := [
  ⟨some 27, .build ([.s (.int .i64 0), .s (.int .u8 0), .s (.int .u8 0), .s (.int .u8 0), .s (.int .u8 0), .s (.int .u8 0), .s (.int .u8 0), .s (.int .u8 0), .s (.int .u8 0), .s (.int .u8 0), .s (.int .u8 0), .s (.int .u8 0), .s (.int .u8 0), .s (.int .u8 0), .s (.int .u8 0), .s (.int .u8 0), .s (.int .u8 0), .s (.int .u8 0), .s (.int .u8 0), .s (.int .u8 0), .s (.int .u8 0), .s (.int .u8 0), .s (.int .u8 0), .s (.int .u8 0), .s (.int .u8 0), .s (.int .u8 0), .s (.int .u8 0), .s (.int .u8 0), .s (.int .u8 0), .s (.int .u8 0), .s (.int .u8 0), .s (.int .u8 0), .s (.int .u8 0), .s (.bool false), .s (.bool false)]) [], none⟩,
  ⟨some 28, .build ([.s (.int .i64 0), .s (.int .i64 0), .s (.int .i64 0), .s (.int .u8 0), .s (.int .u8 0), .s (.int .u8 0), .s (.int .u8 0), .s (.int .u8 0), .s (.int .u8 0), .s (.int .u8 0), .s (.int .u8 0), .s (.int .u8 0), .s (.int .u8 0), .s (.int .u8 0), .s (.int .u8 0), .s (.int .u8 0), .s (.int .u8 0), .s (.int .u8 0), .s (.int .u8 0), .s (.int .u8 0), .s (.int .u8 0), .s (.int .u8 0), .s (.int .u8 0), .s (.int .u8 0), .s (.int .u8 0), .s (.int .u8 0), .s (.int .u8 0), .s (.int .u8 0), .s (.int .u8 0), .s (.int .u8 0), .s (.int .u8 0), .s (.int .u8 0), .s (.int .u8 0), .s (.int .u8 0), .s (.int .u8 0), .s (.slice none 0 0)]) [(0, 1, .c (.p (.s (.int .i64 1)))), (1, 1, .c (.p (.s (.int .i64 3))))], none⟩,
  ⟨some 29, .call (.c (.fn (.func 10) [] [])) [.t 27, .t 28], none⟩,
  ⟨some 26, .mv (.t 29), none⟩,
  ⟨some 30, .extract 0 (.t 26), none⟩,
  ⟨some 31, .extract 1 (.t 26), none⟩,
  ⟨some 32, .extract 2 (.t 26), none⟩,
  ⟨some 7, .alloc ([.s (.int .i64 0), .s (.int .u8 0), .s (.int .u8 0), .s (.int .u8 0), .s (.int .u8 0), .s (.int .u8 0), .s (.int .u8 0), .s (.int .u8 0), .s (.int .u8 0), .s (.int .u8 0), .s (.int .u8 0), .s (.int .u8 0), .s (.int .u8 0), .s (.int .u8 0), .s (.int .u8 0), .s (.int .u8 0), .s (.int .u8 0), .s (.int .u8 0), .s (.int .u8 0), .s (.int .u8 0), .s (.int .u8 0), .s (.int .u8 0), .s (.int .u8 0), .s (.int .u8 0), .s (.int .u8 0), .s (.int .u8 0), .s (.int .u8 0), .s (.int .u8 0), .s (.int .u8 0), .s (.int .u8 0), .s (.int .u8 0), .s (.int .u8 0), .s (.int .u8 0), .s (.bool false), .s (.bool false)]), none⟩,
  ⟨none, .store 35 (.t 7) (.t 30), none⟩,
  ⟨some 8, .mv (.t 31), none⟩,
  ⟨some 9, .mv (.t 32), none⟩]
abbrev r14_4 : List CO := [
  ⟨some 34, .load true 70 (.t 4), none⟩,
  ⟨some 35, .build ([.s (.int .i64 0), .s (.int .i64 0), .s (.int .i64 0), .s (.int .u8 0), .s (.int .u8 0), .s (.int .u8 0), .s (.int .u8 0), .s (.int .u8 0), .s (.int .u8 0), .s (.int .u8 0), .s (.int .u8 0), .s (.int .u8 0), .s (.int .u8 0), .s (.int .u8 0), .s (.int .u8 0), .s (.int .u8 0), .s (.int .u8 0), .s (.int .u8 0), .s (.int .u8 0), .s (.int .u8 0), .s (.int .u8 0), .s (.int .u8 0), .s (.int .u8 0), .s (.int .u8 0), .s (.int .u8 0), .s (.int .u8 0), .s (.int .u8 0), .s (.int .u8 0), .s (.int .u8 0), .s (.int .u8 0), .s (.int .u8 0), .s (.int .u8 0), .s (.int .u8 0), .s (.int .u8 0), .s (.int .u8 0), .s (.slice none 0 0)]) [(0, 1, .c (.p (.s (.int .i64 1)))), (1, 1, .c (.p (.s (.int .i64 7))))], none⟩,
  ⟨some 36, .call (.c (.fn (.func 17) [] [])) [.t 34, .t 35], none⟩,
  ⟨some 33, .mv (.t 36), none⟩,
  ⟨some 37, .extract 0 (.t 33), none⟩,
  ⟨some 38, .extract 1 (.t 33), none⟩,
  ⟨some 10, .alloc ([.s (.int .i64 0), .s (.int .i64 0), .s (.int .i64 0), .s (.int .u8 0), .s (.int .u8 0), .s (.int .u8 0), .s (.int .u8 0), .s (.int .u8 0), .s (.int .u8 0), .s (.int .u8 0), .s (.int .u8 0), .s (.int .u8 0), .s (.int .u8 0), .s (.int .u8 0), .s (.int .u8 0), .s (.int .u8 0), .s (.int .u8 0), .s (.int .u8 0), .s (.int .u8 0), .s (.int .u8 0), .s (.int .u8 0), .s (.int .u8 0), .s (.int .u8 0), .s (.int .u8 0), .s (.int .u8 0), .s (.int .u8 0), .s (.int .u8 0), .s (.int .u8 0), .s (.int .u8 0), .s (.int .u8 0), .s (.int .u8 0), .s (.int .u8 0), .s (.int .u8 0), .s (.int .u8 0), .s (.int .u8 0), .s (.int .u8 0), .s (.int .u8 0), .s (.int .u8 0), .s (.int .u8 0), .s (.int .u8 0), .s (.int .u8 0), .s (.int .u8 0), .s (.int .u8 0), .s (.int .u8 0), .s (.int .u8 0), .s (.int .u8 0), .s (.int .u8 0), .s (.int .u8 0), .s (.int .u8 0), .s (.int .u8 0), .s (.int .u8 0), .s (.int .u8 0), .s (.int .u8 0), .s (.int .u8 0), .s (.int .u8 0), .s (.int .u8 0), .s (.int .u8 0), .s (.int .u8 0), .s (.int .u8 0), .s (.int .u8 0), .s (.int .u8 0), .s (.int .u8 0), .s (.int .u8 0), .s (.int .u8 0), .s (.int .u8 0), .s (.int .u8 0), .s (.int .u8 0), .s (.bool false), .s (.bool false), .s (.int .i64 0)]), none⟩,
  ⟨none, .store 70 (.t 10) (.t 37), none⟩,
  ⟨some 11, .mv (.t 38), none⟩]
abbrev r14_5 : List CO := [
  ⟨some 40, .load true 70 (.t 10), none⟩,
  ⟨some 41, .build ([.s (.int .i64 0), .s (.int .i64 0), .s (.int .i64 0), .s (.int .u8 0), .s (.int .u8 0), .s (.int .u8 0), .s (.int .u8 0), .s (.int .u8 0), .s (.int .u8 0), .s (.int .u8 0), .s (.int .u8 0), .s (.int .u8 0), .s (.int .u8 0), .s (.int .u8 0), .s (.int .u8 0), .s (.int .u8 0), .s (.int .u8 0), .s (.int .u8 0), .s (.int .u8 0), .s (.int .u8 0), .s (.int .u8 0), .s (.int .u8 0), .s (.int .u8 0), .s (.int .u8 0), .s (.int .u8 0), .s (.int .u8 0), .s (.int .u8 0), .s (.int .u8 0), .s (.int .u8 0), .s (.int .u8 0), .s (.int .u8 0), .s (.int .u8 0), .s (.int .u8 0), .s (.int .u8 0), .s (.int .u8 0), .s (.slice none 0 0)]) [(0, 1, .c (.p (.s (.int .i64 1)))), (1, 1, .c (.p (.s (.int .i64 7))))], none⟩,
  ⟨some 42, .call (.c (.fn (.func 17) [] [])) [.t 40, .t 41], none⟩,
  ⟨some 39, .mv (.t 42), none⟩,
  ⟨some 43, .extract 0 (.t 39), none⟩,
  ⟨some 44, .extract 1 (.t 39), none⟩,
  ⟨some 12, .alloc ([.s (.int .i64 0), .s (.int .i64 0), .s (.int .i64 0), .s (.int .u8 0), .s (.int .u8 0), .s (.int .u8 0), .s (.int .u8 0), .s (.int .u8 0), .s (.int .u8 0), .s (.int .u8 0), .s (.int .u8 0), .s (.int .u8 0), .s (.int .u8 0), .s (.int .u8 0), .s (.int .u8 0), .s (.int .u8 0), .s (.int .u8 0), .s (.int .u8 0), .s (.int .u8 0), .s (.int .u8 0), .s (.int .u8 0), .s (.int .u8 0), .s (.int .u8 0), .s (.int .u8 0), .s (.int .u8 0), .s (.int .u8 0), .s (.int .u8 0), .s (.int .u8 0), .s (.int .u8 0), .s (.int .u8 0), .s (.int .u8 0), .s (.int .u8 0), .s (.int .u8 0), .s (.int .u8 0), .s (.int .u8 0), .s (.int .u8 0), .s (.int .u8 0), .s (.int .u8 0), .s (.int .u8 0), .s (.int .u8 0), .s (.int .u8 0), .s (.int .u8 0), .s (.int .u8 0), .s (.int .u8 0), .s (.int .u8 0), .s (.int .u8 0), .s (.int .u8 0), .s (.int .u8 0), .s (.int .u8 0), .s (.int .u8 0), .s (.int .u8 0), .s (.int .u8 0), .s (.int .u8 0), .s (.int .u8 0), .s (.int .u8 0), .s (.int .u8 0), .s (.int .u8 0), .s (.int .u8 0), .s (.int .u8 0), .s (.int .u8 0), .s (.int .u8 0), .s (.int .u8 0), .s (.int .u8 0), .s (.int .u8 0), .s (.int .u8 0), .s (.int .u8 0), .s (.int .u8 0), .s (.bool false), .s (.bool false), .s (.int .i64 0)]), none⟩,
  ⟨none, .store 70 (.t 12) (.t 43), none⟩,
  ⟨some 13, .mv (.t 44), none⟩]
abbrev r14_6 : List CO := [
  ⟨some 45, .mv (.t 3), none⟩,
  ⟨some 46, .bin .eql (.t 45) (.c (.p (.s (.int .i64 0)))), none⟩,
  ⟨some 47, .mv (.t 46), none⟩,
  ⟨some 48, .mv (.t 6), some (47, true)⟩,
  ⟨some 49, .bin .eql (.t 48) (.c (.p (.s (.int .i64 0)))), some (47, true)⟩,
  ⟨some 50, .pick (.t 47) (.t 49) (.c (.p (.s (.bool false)))), none⟩,
  ⟨some 51, .mv (.t 50), none⟩,
  ⟨some 52, .mv (.t 9), some (51, true)⟩,
  ⟨some 53, .bin .eql (.t 52) (.c (.p (.s (.int .i64 0)))), some (51, true)⟩,
  ⟨some 54, .pick (.t 51) (.t 53) (.c (.p (.s (.bool false)))), none⟩,
  ⟨some 55, .mv (.t 54), none⟩,
  ⟨some 56, .mv (.t 11), some (55, true)⟩,
  ⟨some 57, .bin .eql (.t 56) (.c (.p (.s (.int .i64 0)))), some (55, true)⟩,
  ⟨some 58, .pick (.t 55) (.t 57) (.c (.p (.s (.bool false)))), none⟩,
  ⟨some 59, .mv (.t 58), none⟩,
  ⟨some 60, .mv (.t 13), some (59, true)⟩,
  ⟨some 61, .bin .eql (.t 60) (.c (.p (.s (.int .i64 5)))), some (59, true)⟩,
  ⟨some 62, .pick (.t 59) (.t 61) (.c (.p (.s (.bool false)))), none⟩,
  ⟨some 63, .mv (.t 62), none⟩,
  ⟨some 64, .mv (.t 2), some (63, true)⟩,
  ⟨some 65, .build ([.s (.int .i64 0), .s (.int .i64 0), .s (.int .i64 0), .s (.int .u8 0), .s (.int .u8 0), .s (.int .u8 0), .s (.int .u8 0), .s (.int .u8 0), .s (.int .u8 0), .s (.int .u8 0), .s (.int .u8 0), .s (.int .u8 0), .s (.int .u8 0), .s (.int .u8 0), .s (.int .u8 0), .s (.int .u8 0), .s (.int .u8 0), .s (.int .u8 0), .s (.int .u8 0), .s (.int .u8 0), .s (.int .u8 0), .s (.int .u8 0), .s (.int .u8 0), .s (.int .u8 0), .s (.int .u8 0), .s (.int .u8 0), .s (.int .u8 0), .s (.int .u8 0), .s (.int .u8 0), .s (.int .u8 0), .s (.int .u8 0), .s (.int .u8 0), .s (.int .u8 0), .s (.int .u8 0), .s (.int .u8 0), .s (.slice none 0 0)]) [(0, 1, .c (.p (.s (.int .i64 1)))), (1, 1, .c (.p (.s (.int .i64 3))))], some (63, true)⟩,
  ⟨some 66, .bslice 36 1 ([.s (.int .i64 0), .s (.int .i64 0), .s (.int .i64 0), .s (.int .u8 0), .s (.int .u8 0), .s (.int .u8 0), .s (.int .u8 0), .s (.int .u8 0), .s (.int .u8 0), .s (.int .u8 0), .s (.int .u8 0), .s (.int .u8 0), .s (.int .u8 0), .s (.int .u8 0), .s (.int .u8 0), .s (.int .u8 0), .s (.int .u8 0), .s (.int .u8 0), .s (.int .u8 0), .s (.int .u8 0), .s (.int .u8 0), .s (.int .u8 0), .s (.int .u8 0), .s (.int .u8 0), .s (.int .u8 0), .s (.int .u8 0), .s (.int .u8 0), .s (.int .u8 0), .s (.int .u8 0), .s (.int .u8 0), .s (.int .u8 0), .s (.int .u8 0), .s (.int .u8 0), .s (.int .u8 0), .s (.int .u8 0), .s (.slice none 0 0)]) [(0, .t 65)], some (63, true)⟩,
  ⟨some 67, .call (.c (.fn (.func 16) [] [])) [.t 64, .t 66], some (63, true)⟩,
  ⟨some 68, .pick (.t 63) (.t 67) (.c (.p (.s (.bool false)))), none⟩,
  ⟨some 69, .mv (.t 68), none⟩,
  ⟨some 70, .mv (.t 5), some (69, true)⟩,
  ⟨some 71, .len (.t 70), some (69, true)⟩,
  ⟨some 72, .bin .eql (.t 71) (.c (.p (.s (.int .i64 0)))), some (69, true)⟩,
  ⟨some 73, .pick (.t 69) (.t 72) (.c (.p (.s (.bool false)))), none⟩,
  ⟨some 74, .mv (.t 73), none⟩,
  ⟨some 75, .faddr 0 (.t 7), some (74, true)⟩,
  ⟨some 76, .load false 1 (.t 75), some (74, true)⟩,
  ⟨some 77, .bin .eql (.t 76) (.c (.p (.s (.int .i64 3)))), some (74, true)⟩,
  ⟨some 78, .pick (.t 74) (.t 77) (.c (.p (.s (.bool false)))), none⟩,
  ⟨some 79, .mv (.t 78), none⟩,
  ⟨some 80, .mv (.t 8), some (79, true)⟩,
  ⟨some 81, .build ([.s (.int .i64 0), .s (.int .i64 0), .s (.int .i64 0), .s (.int .u8 0), .s (.int .u8 0), .s (.int .u8 0), .s (.int .u8 0), .s (.int .u8 0), .s (.int .u8 0), .s (.int .u8 0), .s (.int .u8 0), .s (.int .u8 0), .s (.int .u8 0), .s (.int .u8 0), .s (.int .u8 0), .s (.int .u8 0), .s (.int .u8 0), .s (.int .u8 0), .s (.int .u8 0), .s (.int .u8 0), .s (.int .u8 0), .s (.int .u8 0), .s (.int .u8 0), .s (.int .u8 0), .s (.int .u8 0), .s (.int .u8 0), .s (.int .u8 0), .s (.int .u8 0), .s (.int .u8 0), .s (.int .u8 0), .s (.int .u8 0), .s (.int .u8 0), .s (.int .u8 0), .s (.int .u8 0), .s (.int .u8 0), .s (.slice none 0 0)]) [(0, 1, .c (.p (.s (.int .i64 1)))), (1, 1, .c (.p (.s (.int .i64 7))))], some (79, true)⟩,
  ⟨some 82, .bslice 36 1 ([.s (.int .i64 0), .s (.int .i64 0), .s (.int .i64 0), .s (.int .u8 0), .s (.int .u8 0), .s (.int .u8 0), .s (.int .u8 0), .s (.int .u8 0), .s (.int .u8 0), .s (.int .u8 0), .s (.int .u8 0), .s (.int .u8 0), .s (.int .u8 0), .s (.int .u8 0), .s (.int .u8 0), .s (.int .u8 0), .s (.int .u8 0), .s (.int .u8 0), .s (.int .u8 0), .s (.int .u8 0), .s (.int .u8 0), .s (.int .u8 0), .s (.int .u8 0), .s (.int .u8 0), .s (.int .u8 0), .s (.int .u8 0), .s (.int .u8 0), .s (.int .u8 0), .s (.int .u8 0), .s (.int .u8 0), .s (.int .u8 0), .s (.int .u8 0), .s (.int .u8 0), .s (.int .u8 0), .s (.int .u8 0), .s (.slice none 0 0)]) [(0, .t 81)], some (79, true)⟩,
  ⟨some 83, .call (.c (.fn (.func 16) [] [])) [.t 80, .t 82], some (79, true)⟩,
  ⟨some 84, .pick (.t 79) (.t 83) (.c (.p (.s (.bool false)))), none⟩,
  ⟨some 85, .mv (.t 84), none⟩,
  ⟨some 86, .faddr 1 (.t 10), some (85, true)⟩,
  ⟨some 87, .load false 1 (.t 86), some (85, true)⟩,
  ⟨some 88, .bin .eql (.t 87) (.c (.p (.s (.int .i64 3)))), some (85, true)⟩,
  ⟨some 89, .pick (.t 85) (.t 88) (.c (.p (.s (.bool false)))), none⟩,
  ⟨some 90, .mv (.t 89), none⟩,
  ⟨some 91, .faddr 2 (.t 10), some (90, true)⟩,
  ⟨some 92, .load false 1 (.t 91), some (90, true)⟩,
  ⟨some 93, .bin .eql (.t 92) (.c (.p (.s (.int .i64 0)))), some (90, true)⟩,
  ⟨some 94, .pick (.t 90) (.t 93) (.c (.p (.s (.bool false)))), none⟩,
  ⟨some 95, .mv (.t 94), none⟩,
  ⟨some 96, .pick (.t 95) (.c (.p (.s (.bool true)))) (.c (.p (.s (.bool false)))), none⟩,
  ⟨some 0, .mv (.t 96), none⟩]
abbrev c14 : CC := .seq (.reg r14_0) (.seq (.reg r14_1) (.rest [1, 2, 3] (.seq (.reg r14_2) (.rest [2, 3, 4, 5, 6] (.seq (.reg r14_3) (.rest [2, 3, 4, 5, 6, 7, 8, 9] (.seq (.reg r14_4) (.rest [2, 3, 5, 6, 7, 8, 9, 10, 11] (.seq (.reg r14_5) (.rest [2, 3, 5, 6, 7, 8, 9, 10, 11, 13] (.seq (.reg r14_6) (.rest [0] (.ret)))))))))))))
theorem F14 : Fun Try.prog 14 97 c14 [.tmp 0] 0 := ⟨⟨Try.f14, _, Try.func14, rfl, by kernel_rfl, Try.ntmps14, by kernel_rfl, by kernel_rfl⟩, by decide⟩

/-- linnet/linnetref16.Take -/
abbrev r15_0 : List CO := [
  ⟨some 2, .box (.t 0), none⟩,
  ⟨some 3, .box (.t 1), none⟩,
  ⟨some 4, .alloc ([.s (.int .i64 0), .s (.int .u8 0), .s (.int .u8 0), .s (.int .u8 0), .s (.int .u8 0), .s (.int .u8 0), .s (.int .u8 0), .s (.int .u8 0), .s (.int .u8 0), .s (.int .u8 0), .s (.int .u8 0), .s (.int .u8 0), .s (.int .u8 0), .s (.int .u8 0), .s (.int .u8 0), .s (.int .u8 0), .s (.int .u8 0), .s (.int .u8 0), .s (.int .u8 0), .s (.int .u8 0), .s (.int .u8 0), .s (.int .u8 0), .s (.int .u8 0), .s (.int .u8 0), .s (.int .u8 0), .s (.int .u8 0), .s (.int .u8 0), .s (.int .u8 0), .s (.int .u8 0), .s (.int .u8 0), .s (.int .u8 0), .s (.int .u8 0), .s (.int .u8 0), .s (.bool false), .s (.bool false)]), none⟩,
  ⟨some 5, .mv (.c (.p (.s (.slice none 0 0)))), none⟩,
  ⟨some 6, .mv (.c (.p (.s (.int .i64 0)))), none⟩]
abbrev r15_1 : List CO := [
  ⟨some 7, .faddr 0 (.t 3), none⟩,
  ⟨some 8, .load false 1 (.t 7), none⟩,
  ⟨some 9, .bin .eql (.t 8) (.c (.p (.s (.int .i64 1)))), none⟩,
  ⟨some 10, .mv (.t 9), none⟩,
  ⟨some 11, .faddr 1 (.t 3), some (10, true)⟩,
  ⟨some 12, .load false 1 (.t 11), some (10, true)⟩,
  ⟨some 13, .call (.c (.fn (.func 30) [] [])) [.t 12], some (10, true)⟩,
  ⟨some 14, .pick (.t 10) (.t 13) (.c (.p (.s (.bool false)))), none⟩]
abbrev r15_2 : List CO := [
  ⟨some 15, .faddr 1 (.t 3), none⟩,
  ⟨some 16, .load false 1 (.t 15), none⟩,
  ⟨some 17, .faddr 0 (.t 2), none⟩,
  ⟨none, .store 1 (.t 17) (.t 16), none⟩]
abbrev r15_3 : List CO := [
  ⟨some 18, .load true 35 (.t 2), none⟩,
  ⟨some 19, .faddr 1 (.t 3), none⟩,
  ⟨some 20, .load false 1 (.t 19), none⟩,
  ⟨some 21, .bin .add (.t 20) (.c (.p (.s (.int .i64 4)))), none⟩,
  ⟨some 22, .build ([.s (.int .i64 0), .s (.int .i64 0), .s (.int .i64 0), .s (.int .u8 0), .s (.int .u8 0), .s (.int .u8 0), .s (.int .u8 0), .s (.int .u8 0), .s (.int .u8 0), .s (.int .u8 0), .s (.int .u8 0), .s (.int .u8 0), .s (.int .u8 0), .s (.int .u8 0), .s (.int .u8 0), .s (.int .u8 0), .s (.int .u8 0), .s (.int .u8 0), .s (.int .u8 0), .s (.int .u8 0), .s (.int .u8 0), .s (.int .u8 0), .s (.int .u8 0), .s (.int .u8 0), .s (.int .u8 0), .s (.int .u8 0), .s (.int .u8 0), .s (.int .u8 0), .s (.int .u8 0), .s (.int .u8 0), .s (.int .u8 0), .s (.int .u8 0), .s (.int .u8 0), .s (.int .u8 0), .s (.int .u8 0), .s (.slice none 0 0)]) [(0, 1, .c (.p (.s (.int .i64 1)))), (1, 1, .t 21)], none⟩,
  ⟨some 23, .bslice 36 1 ([.s (.int .i64 0), .s (.int .i64 0), .s (.int .i64 0), .s (.int .u8 0), .s (.int .u8 0), .s (.int .u8 0), .s (.int .u8 0), .s (.int .u8 0), .s (.int .u8 0), .s (.int .u8 0), .s (.int .u8 0), .s (.int .u8 0), .s (.int .u8 0), .s (.int .u8 0), .s (.int .u8 0), .s (.int .u8 0), .s (.int .u8 0), .s (.int .u8 0), .s (.int .u8 0), .s (.int .u8 0), .s (.int .u8 0), .s (.int .u8 0), .s (.int .u8 0), .s (.int .u8 0), .s (.int .u8 0), .s (.int .u8 0), .s (.int .u8 0), .s (.int .u8 0), .s (.int .u8 0), .s (.int .u8 0), .s (.int .u8 0), .s (.int .u8 0), .s (.int .u8 0), .s (.int .u8 0), .s (.int .u8 0), .s (.slice none 0 0)]) [(0, .t 22)], none⟩,
  ⟨none, .store 35 (.t 4) (.t 18), none⟩,
  ⟨some 5, .mv (.t 23), none⟩,
  ⟨some 6, .mv (.c (.p (.s (.int .i64 0)))), none⟩]
abbrev b15_3 : List (List Nat) := [[], [], [1], [2], [3], [4], [0, 0], [5, 6, 0, 1, 2, 3, 4, 5, 6], [7, 0, 1, 2, 3, 4, 5, 6, 7]]
abbrev r15_4 : List CO := [
  ⟨some 24, .faddr 0 (.t 3), none⟩,
  ⟨some 25, .load false 1 (.t 24), none⟩,
  ⟨some 26, .bin .neq (.t 25) (.c (.p (.s (.int .i64 2)))), none⟩,
  ⟨some 27, .mv (.t 26), none⟩,
  ⟨some 28, .faddr 2 (.t 3), some (27, false)⟩,
  ⟨some 29, .load false 1 (.t 28), some (27, false)⟩,
  ⟨some 30, .bin .lss (.t 29) (.c (.p (.s (.int .i64 253)))), some (27, false)⟩,
  ⟨some 31, .pick (.t 27) (.c (.p (.s (.bool true)))) (.t 30), none⟩]
abbrev r15_5 : List CO := [
  ⟨some 32, .load true 35 (.t 2), none⟩,
  ⟨none, .store 35 (.t 4) (.t 32), none⟩,
  ⟨some 5, .mv (.c (.p (.s (.slice none 0 0)))), none⟩,
  ⟨some 6, .mv (.c (.p (.s (.int .i64 5)))), none⟩]
abbrev r15_6 : List CO := [
  ⟨some 33, .faddr 2 (.t 3), none⟩,
  ⟨some 34, .load false 1 (.t 33), none⟩,
  ⟨some 35, .bin .eql (.t 34) (.c (.p (.s (.int .i64 253)))), none⟩,
  ⟨some 36, .mv (.t 35), none⟩,
  ⟨some 37, .faddr 34 (.t 2), some (36, true)⟩,
  ⟨some 38, .load false 1 (.t 37), some (36, true)⟩,
  ⟨some 39, .pick (.t 36) (.t 38) (.c (.p (.s (.bool false)))), none⟩]
abbrev r15_7 : List CO := [
  ⟨some 40, .faddr 33 (.t 2), none⟩,
  ⟨none, .store 1 (.t 40) (.c (.p (.s (.bool true)))), none⟩]
abbrev r15_8 : List CO := [
  ⟨some 41, .faddr 3 (.t 3), none⟩,
  ⟨some 42, .load true 32 (.t 41), none⟩,
  ⟨some 43, .faddr 1 (.t 2), none⟩,
  ⟨none, .store 32 (.t 43) (.t 42), none⟩]
abbrev r15_9 : List CO := [
  ⟨some 44, .load true 35 (.t 2), none⟩,
  ⟨some 45, .build ([.s (.int .i64 0), .s (.int .i64 0), .s (.int .i64 0), .s (.int .u8 0), .s (.int .u8 0), .s (.int .u8 0), .s (.int .u8 0), .s (.int .u8 0), .s (.int .u8 0), .s (.int .u8 0), .s (.int .u8 0), .s (.int .u8 0), .s (.int .u8 0), .s (.int .u8 0), .s (.int .u8 0), .s (.int .u8 0), .s (.int .u8 0), .s (.int .u8 0), .s (.int .u8 0), .s (.int .u8 0), .s (.int .u8 0), .s (.int .u8 0), .s (.int .u8 0), .s (.int .u8 0), .s (.int .u8 0), .s (.int .u8 0), .s (.int .u8 0), .s (.int .u8 0), .s (.int .u8 0), .s (.int .u8 0), .s (.int .u8 0), .s (.int .u8 0), .s (.int .u8 0), .s (.int .u8 0), .s (.int .u8 0), .s (.slice none 0 0)]) [(0, 1, .c (.p (.s (.int .i64 2)))), (2, 1, .c (.p (.s (.int .i64 251))))], none⟩,
  ⟨some 46, .bslice 36 1 ([.s (.int .i64 0), .s (.int .i64 0), .s (.int .i64 0), .s (.int .u8 0), .s (.int .u8 0), .s (.int .u8 0), .s (.int .u8 0), .s (.int .u8 0), .s (.int .u8 0), .s (.int .u8 0), .s (.int .u8 0), .s (.int .u8 0), .s (.int .u8 0), .s (.int .u8 0), .s (.int .u8 0), .s (.int .u8 0), .s (.int .u8 0), .s (.int .u8 0), .s (.int .u8 0), .s (.int .u8 0), .s (.int .u8 0), .s (.int .u8 0), .s (.int .u8 0), .s (.int .u8 0), .s (.int .u8 0), .s (.int .u8 0), .s (.int .u8 0), .s (.int .u8 0), .s (.int .u8 0), .s (.int .u8 0), .s (.int .u8 0), .s (.int .u8 0), .s (.int .u8 0), .s (.int .u8 0), .s (.int .u8 0), .s (.slice none 0 0)]) [(0, .t 45)], none⟩,
  ⟨none, .store 35 (.t 4) (.t 44), none⟩,
  ⟨some 5, .mv (.t 46), none⟩,
  ⟨some 6, .mv (.c (.p (.s (.int .i64 0)))), none⟩]
abbrev r15_10 : List CO := [
  ⟨some 47, .faddr 33 (.t 2), none⟩,
  ⟨none, .store 1 (.t 47) (.c (.p (.s (.bool false)))), none⟩]
abbrev r15_11 : List CO := [
  ⟨some 48, .build (List.replicate 32 (.s (.int .u8 0))) [], none⟩,
  ⟨some 49, .faddr 1 (.t 2), none⟩,
  ⟨none, .store 32 (.t 49) (.t 48), none⟩]
abbrev r15_12 : List CO := [
  ⟨some 50, .load true 35 (.t 2), none⟩,
  ⟨some 51, .build ([.s (.int .i64 0), .s (.int .i64 0), .s (.int .i64 0), .s (.int .u8 0), .s (.int .u8 0), .s (.int .u8 0), .s (.int .u8 0), .s (.int .u8 0), .s (.int .u8 0), .s (.int .u8 0), .s (.int .u8 0), .s (.int .u8 0), .s (.int .u8 0), .s (.int .u8 0), .s (.int .u8 0), .s (.int .u8 0), .s (.int .u8 0), .s (.int .u8 0), .s (.int .u8 0), .s (.int .u8 0), .s (.int .u8 0), .s (.int .u8 0), .s (.int .u8 0), .s (.int .u8 0), .s (.int .u8 0), .s (.int .u8 0), .s (.int .u8 0), .s (.int .u8 0), .s (.int .u8 0), .s (.int .u8 0), .s (.int .u8 0), .s (.int .u8 0), .s (.int .u8 0), .s (.int .u8 0), .s (.int .u8 0), .s (.slice none 0 0)]) [(0, 1, .c (.p (.s (.int .i64 2)))), (2, 1, .c (.p (.s (.int .i64 252))))], none⟩,
  ⟨some 52, .bslice 36 1 ([.s (.int .i64 0), .s (.int .i64 0), .s (.int .i64 0), .s (.int .u8 0), .s (.int .u8 0), .s (.int .u8 0), .s (.int .u8 0), .s (.int .u8 0), .s (.int .u8 0), .s (.int .u8 0), .s (.int .u8 0), .s (.int .u8 0), .s (.int .u8 0), .s (.int .u8 0), .s (.int .u8 0), .s (.int .u8 0), .s (.int .u8 0), .s (.int .u8 0), .s (.int .u8 0), .s (.int .u8 0), .s (.int .u8 0), .s (.int .u8 0), .s (.int .u8 0), .s (.int .u8 0), .s (.int .u8 0), .s (.int .u8 0), .s (.int .u8 0), .s (.int .u8 0), .s (.int .u8 0), .s (.int .u8 0), .s (.int .u8 0), .s (.int .u8 0), .s (.int .u8 0), .s (.int .u8 0), .s (.int .u8 0), .s (.slice none 0 0)]) [(0, .t 51)], none⟩,
  ⟨none, .store 35 (.t 4) (.t 50), none⟩,
  ⟨some 5, .mv (.t 52), none⟩,
  ⟨some 6, .mv (.c (.p (.s (.int .i64 0)))), none⟩]
abbrev c15 : CC := .seq (.reg r15_0) (.rest [2, 3, 4] (.seq (.seq (.reg r15_1) (.rest [2, 3, 4, 14] (.cond (.t 14) (.seq (.reg r15_2) (.rest [2, 3, 4] (.seq (.regd r15_3 b15_3) (.rest [4, 5, 6] (.ret))))) (.skip)))) (.rest [2, 3, 4] (.seq (.seq (.reg r15_4) (.rest [2, 3, 4, 31] (.cond (.t 31) (.seq (.reg r15_5) (.rest [4, 5, 6] (.ret))) (.skip)))) (.rest [2, 3, 4] (.seq (.seq (.reg r15_6) (.rest [2, 3, 4, 39] (.cond (.t 39) (.seq (.reg r15_7) (.seq (.reg r15_8) (.rest [2, 4] (.seq (.reg r15_9) (.rest [4, 5, 6] (.ret)))))) (.skip)))) (.rest [2, 4] (.seq (.reg r15_10) (.seq (.reg r15_11) (.seq (.reg r15_12) (.rest [4, 5, 6] (.ret))))))))))))
theorem F15 : Fun Try.prog 15 53 c15 [.cell 4 true 35, .tmp 5, .tmp 6] 2 := ⟨⟨Try.f15, _, Try.func15, rfl, by kernel_rfl, Try.ntmps15, by kernel_rfl, by kernel_rfl⟩, by decide⟩

/-- linnet/linnetref16.Subs -/
abbrev r16_0 : List CO := [
  ⟨some 4, .mv (.c (.p (.s (.bool false)))), none⟩]
abbrev r16_1 : List CO := [
  ⟨some 7, .mv (.t 0), none⟩,
  ⟨some 8, .len (.t 7), none⟩,
  ⟨some 9, .mv (.t 1), none⟩,
  ⟨some 10, .len (.t 9), none⟩,
  ⟨some 11, .bin .neq (.t 8) (.t 10), none⟩]
abbrev r16_2 : List CO := [
  ⟨some 4, .mv (.c (.p (.s (.bool false)))), none⟩]
abbrev r16_3 : List CO := [
  ⟨some 5, .mv (.c (.p (.s (.int .i64 0)))), none⟩]
abbrev r16_4 : List CO := [
  ⟨some 12, .mv (.t 5), none⟩,
  ⟨some 13, .mv (.t 0), none⟩,
  ⟨some 14, .len (.t 13), none⟩,
  ⟨some 15, .bin .lss (.t 12) (.t 14), none⟩]
abbrev r16_6 : List CO := [
  ⟨some 18, .mv (.t 0), none⟩,
  ⟨some 19, .mv (.t 5), none⟩,
  ⟨some 20, .iaddrS 36 (.t 18) (.t 19), none⟩,
  ⟨some 21, .faddr 0 (.t 20), none⟩,
  ⟨some 22, .load false 1 (.t 21), none⟩,
  ⟨some 23, .mv (.t 1), none⟩,
  ⟨some 24, .mv (.t 5), none⟩,
  ⟨some 25, .iaddrS 36 (.t 23) (.t 24), none⟩,
  ⟨some 26, .faddr 0 (.t 25), none⟩,
  ⟨some 27, .load false 1 (.t 26), none⟩,
  ⟨some 28, .bin .neq (.t 22) (.t 27), none⟩,
  ⟨some 29, .mv (.t 28), none⟩,
  ⟨some 30, .mv (.t 0), some (29, false)⟩,
  ⟨some 31, .mv (.t 5), some (29, false)⟩,
  ⟨some 32, .iaddrS 36 (.t 30) (.t 31), some (29, false)⟩,
  ⟨some 33, .faddr 1 (.t 32), some (29, false)⟩,
  ⟨some 34, .load false 1 (.t 33), some (29, false)⟩,
  ⟨some 35, .mv (.t 1), some (29, false)⟩,
  ⟨some 36, .mv (.t 5), some (29, false)⟩,
  ⟨some 37, .iaddrS 36 (.t 35) (.t 36), some (29, false)⟩,
  ⟨some 38, .faddr 1 (.t 37), some (29, false)⟩,
  ⟨some 39, .load false 1 (.t 38), some (29, false)⟩,
  ⟨some 40, .bin .neq (.t 34) (.t 39), some (29, false)⟩,
  ⟨some 41, .pick (.t 29) (.c (.p (.s (.bool true)))) (.t 40), none⟩,
  ⟨some 42, .mv (.t 41), none⟩,
  ⟨some 43, .mv (.t 0), some (42, false)⟩,
  ⟨some 44, .mv (.t 5), some (42, false)⟩,
  ⟨some 45, .iaddrS 36 (.t 43) (.t 44), some (42, false)⟩,
  ⟨some 46, .faddr 2 (.t 45), some (42, false)⟩,
  ⟨some 47, .load false 1 (.t 46), some (42, false)⟩,
  ⟨some 48, .mv (.t 1), some (42, false)⟩,
  ⟨some 49, .mv (.t 5), some (42, false)⟩,
  ⟨some 50, .iaddrS 36 (.t 48) (.t 49), some (42, false)⟩,
  ⟨some 51, .faddr 2 (.t 50), some (42, false)⟩,
  ⟨some 52, .load false 1 (.t 51), some (42, false)⟩,
  ⟨some 53, .bin .neq (.t 47) (.t 52), some (42, false)⟩,
  ⟨some 54, .pick (.t 42) (.c (.p (.s (.bool true)))) (.t 53), none⟩,
  ⟨some 55, .mv (.t 54), none⟩,
  ⟨some 56, .mv (.t 0), some (55, false)⟩,
  ⟨some 57, .mv (.t 5), some (55, false)⟩,
  ⟨some 58, .iaddrS 36 (.t 56) (.t 57), some (55, false)⟩,
  ⟨some 59, .faddr 3 (.t 58), some (55, false)⟩,
  ⟨some 60, .load true 32 (.t 59), some (55, false)⟩,
  ⟨some 61, .mv (.t 1), some (55, false)⟩,
  ⟨some 62, .mv (.t 5), some (55, false)⟩,
  ⟨some 63, .iaddrS 36 (.t 61) (.t 62), some (55, false)⟩,
  ⟨some 64, .faddr 3 (.t 63), some (55, false)⟩,
  ⟨some 65, .load true 32 (.t 64), some (55, false)⟩,
  ⟨some 66, .eqs true (List.replicate 32 0) (.t 60) (.t 65), some (55, false)⟩,
  ⟨some 67, .pick (.t 55) (.c (.p (.s (.bool true)))) (.t 66), none⟩,
  ⟨some 68, .mv (.t 67), none⟩,
  ⟨some 69, .mv (.t 0), some (68, false)⟩,
  ⟨some 70, .mv (.t 5), some (68, false)⟩,
  ⟨some 71, .iaddrS 36 (.t 69) (.t 70), some (68, false)⟩,
  ⟨some 72, .faddr 35 (.t 71), some (68, false)⟩,
  ⟨some 73, .load false 1 (.t 72), some (68, false)⟩,
  ⟨some 74, .len (.t 73), some (68, false)⟩,
  ⟨some 75, .mv (.t 1), some (68, false)⟩,
  ⟨some 76, .mv (.t 5), some (68, false)⟩,
  ⟨some 77, .iaddrS 36 (.t 75) (.t 76), some (68, false)⟩,
  ⟨some 78, .faddr 35 (.t 77), some (68, false)⟩,
  ⟨some 79, .load false 1 (.t 78), some (68, false)⟩,
  ⟨some 80, .len (.t 79), some (68, false)⟩,
  ⟨some 81, .bin .neq (.t 74) (.t 80), some (68, false)⟩,
  ⟨some 82, .pick (.t 68) (.c (.p (.s (.bool true)))) (.t 81), none⟩]
abbrev b16_6 : List (List Nat) := [[], [], [0, 1], [2], [3], [], [], [5, 6], [7], [8], [4, 9], [10], [11], [11], [12, 13, 11], [14, 11], [15, 11], [11], [11], [17, 18, 11], [19, 11], [20, 11], [16, 21, 11], [11, 22], [23, 11], [24], [24], [25, 26, 24], [27, 24], [28, 24], [24], [24], [30, 31, 24], [32, 24], [33, 24], [29, 34, 24], [24, 35], [36, 24], [37], [37], [38, 39, 37], [40, 37], [41, 37], [37], [37], [43, 44, 37], [45, 37], [46, 37], [42, 47, 37], [37, 48], [49, 37], [50], [50], [51, 52, 50], [53, 50], [54, 50], [55, 50], [50], [50], [57, 58, 50], [59, 50], [60, 50], [61, 50], [56, 62, 50], [50, 63]]
abbrev r16_7 : List CO := [
  ⟨some 4, .mv (.c (.p (.s (.bool false)))), none⟩]
abbrev r16_8 : List CO := [
  ⟨some 6, .mv (.c (.p (.s (.int .i64 0)))), none⟩]
abbrev r16_9 : List CO := [
  ⟨some 83, .mv (.t 6), none⟩,
  ⟨some 84, .mv (.t 0), none⟩,
  ⟨some 85, .mv (.t 5), none⟩,
  ⟨some 86, .iaddrS 36 (.t 84) (.t 85), none⟩,
  ⟨some 87, .faddr 35 (.t 86), none⟩,
  ⟨some 88, .load false 1 (.t 87), none⟩,
  ⟨some 89, .len (.t 88), none⟩,
  ⟨some 90, .bin .lss (.t 83) (.t 89), none⟩]
abbrev r16_11 : List CO := [
  ⟨some 93, .mv (.t 0), none⟩,
  ⟨some 94, .mv (.t 5), none⟩,
  ⟨some 95, .iaddrS 36 (.t 93) (.t 94), none⟩,
  ⟨some 96, .faddr 35 (.t 95), none⟩,
  ⟨some 97, .load false 1 (.t 96), none⟩,
  ⟨some 98, .mv (.t 6), none⟩,
  ⟨some 99, .iaddrS 6 (.t 97) (.t 98), none⟩,
  ⟨some 100, .load true 6 (.t 99), none⟩,
  ⟨some 101, .mv (.t 1), none⟩,
  ⟨some 102, .mv (.t 5), none⟩,
  ⟨some 103, .iaddrS 36 (.t 101) (.t 102), none⟩,
  ⟨some 104, .faddr 35 (.t 103), none⟩,
  ⟨some 105, .load false 1 (.t 104), none⟩,
  ⟨some 106, .mv (.t 6), none⟩,
  ⟨some 107, .iaddrS 6 (.t 105) (.t 106), none⟩,
  ⟨some 108, .load true 6 (.t 107), none⟩,
  ⟨some 109, .eqs true [0, 0, 1, 1, 1, 0] (.t 100) (.t 108), none⟩]
abbrev b16_11 : List (List Nat) := [[], [], [0, 1], [2], [3], [], [4, 5], [6], [], [], [8, 9], [10], [11], [], [12, 13], [14], [7, 15]]
abbrev r16_12 : List CO := [
  ⟨some 4, .mv (.c (.p (.s (.bool false)))), none⟩]
abbrev k16_3 : CC := .seq (.regd r16_11 b16_11) (.rest [0, 1, 5, 6, 109] (.cond (.t 109) (.seq (.reg r16_12) (.ret)) (.skip)))
abbrev r16_10 : List CO := [
  ⟨some 91, .mv (.t 6), none⟩,
  ⟨some 92, .bin .add (.t 91) (.c (.p (.s (.int .i64 1)))), none⟩,
  ⟨some 6, .mv (.t 92), none⟩]
abbrev l16_15 : CC := .seq (.seq (.reg r16_9) (.rest [0, 1, 5, 6, 90] (.cond (.t 90) (.skip) (.exit 2)))) (.rest [0, 1, 5, 6] (.seq (.block 3 k16_3) (.rest [0, 1, 5, 6] (.reg r16_10))))
abbrev k16_2 : CC := .loop l16_15
abbrev k16_1 : CC := .seq (.seq (.regd r16_6 b16_6) (.rest [0, 1, 5, 82] (.cond (.t 82) (.seq (.reg r16_7) (.ret)) (.skip)))) (.rest [0, 1, 5] (.seq (.reg r16_8) (.block 2 k16_2)))
abbrev r16_5 : List CO := [
  ⟨some 16, .mv (.t 5), none⟩,
  ⟨some 17, .bin .add (.t 16) (.c (.p (.s (.int .i64 1)))), none⟩,
  ⟨some 5, .mv (.t 17), none⟩]
abbrev l16_19 : CC := .seq (.seq (.reg r16_4) (.rest [0, 1, 5, 15] (.cond (.t 15) (.skip) (.exit 0)))) (.rest [0, 1, 5] (.seq (.block 1 k16_1) (.rest [0, 1, 5] (.reg r16_5))))
abbrev k16_0 : CC := .loop l16_19
abbrev r16_13 : List CO := [
  ⟨some 4, .mv (.c (.p (.s (.bool true)))), none⟩]
abbrev c16 : CC := .seq (.reg r16_0) (.seq (.seq (.reg r16_1) (.rest [0, 1, 11] (.cond (.t 11) (.seq (.reg r16_2) (.ret)) (.skip)))) (.rest [0, 1] (.seq (.seq (.reg r16_3) (.block 0 k16_0)) (.rest [] (.seq (.reg r16_13) (.ret))))))
theorem F16 : Fun Try.prog 16 110 c16 [.tmp 4] 2 := ⟨⟨Try.f16, _, Try.func16, rfl, by kernel_rfl, Try.ntmps16, by kernel_rfl, by kernel_rfl⟩, by decide⟩

/-- linnet/mode.Answer -/
abbrev r17_0 : List CO := [
  ⟨some 2, .box (.t 0), none⟩,
  ⟨some 3, .box (.t 1), none⟩,
  ⟨some 4, .alloc ([.s (.int .i64 0), .s (.int .i64 0), .s (.int .i64 0), .s (.int .u8 0), .s (.int .u8 0), .s (.int .u8 0), .s (.int .u8 0), .s (.int .u8 0), .s (.int .u8 0), .s (.int .u8 0), .s (.int .u8 0), .s (.int .u8 0), .s (.int .u8 0), .s (.int .u8 0), .s (.int .u8 0), .s (.int .u8 0), .s (.int .u8 0), .s (.int .u8 0), .s (.int .u8 0), .s (.int .u8 0), .s (.int .u8 0), .s (.int .u8 0), .s (.int .u8 0), .s (.int .u8 0), .s (.int .u8 0), .s (.int .u8 0), .s (.int .u8 0), .s (.int .u8 0), .s (.int .u8 0), .s (.int .u8 0), .s (.int .u8 0), .s (.int .u8 0), .s (.int .u8 0), .s (.int .u8 0), .s (.int .u8 0), .s (.int .u8 0), .s (.int .u8 0), .s (.int .u8 0), .s (.int .u8 0), .s (.int .u8 0), .s (.int .u8 0), .s (.int .u8 0), .s (.int .u8 0), .s (.int .u8 0), .s (.int .u8 0), .s (.int .u8 0), .s (.int .u8 0), .s (.int .u8 0), .s (.int .u8 0), .s (.int .u8 0), .s (.int .u8 0), .s (.int .u8 0), .s (.int .u8 0), .s (.int .u8 0), .s (.int .u8 0), .s (.int .u8 0), .s (.int .u8 0), .s (.int .u8 0), .s (.int .u8 0), .s (.int .u8 0), .s (.int .u8 0), .s (.int .u8 0), .s (.int .u8 0), .s (.int .u8 0), .s (.int .u8 0), .s (.int .u8 0), .s (.int .u8 0), .s (.bool false), .s (.bool false), .s (.int .i64 0)]), none⟩,
  ⟨some 5, .mv (.c (.p (.s (.int .i64 0)))), none⟩]
abbrev r17_1 : List CO := [
  ⟨some 7, .load true 70 (.t 2), none⟩,
  ⟨some 8, .call (.c (.fn (.func 18) [] [])) [.t 7], none⟩,
  ⟨some 9, .bin .neq (.t 8) (.c (.p (.s (.int .i64 0)))), none⟩,
  ⟨some 10, .mv (.t 9), none⟩,
  ⟨some 11, .load true 36 (.t 3), some (10, false)⟩,
  ⟨some 12, .call (.c (.fn (.func 19) [] [])) [.t 11], some (10, false)⟩,
  ⟨some 13, .bin .neq (.t 12) (.c (.p (.s (.int .i64 0)))), some (10, false)⟩,
  ⟨some 14, .pick (.t 10) (.c (.p (.s (.bool true)))) (.t 13), none⟩]
abbrev r17_2 : List CO := [
  ⟨some 15, .load true 70 (.t 2), none⟩,
  ⟨none, .store 70 (.t 4) (.t 15), none⟩,
  ⟨some 5, .mv (.c (.p (.s (.int .i64 1)))), none⟩]
abbrev r17_3 : List CO := [
  ⟨some 16, .faddr 2 (.t 3), none⟩,
  ⟨some 17, .load false 1 (.t 16), none⟩,
  ⟨some 18, .bin .eql (.t 17) (.c (.p (.s (.int .i64 251)))), none⟩,
  ⟨some 6, .mv (.t 18), none⟩]
abbrev r17_4 : List CO := [
  ⟨some 20, .faddr 0 (.t 3), none⟩,
  ⟨some 21, .load false 1 (.t 20), none⟩,
  ⟨some 22, .bin .eql (.t 21) (.c (.p (.s (.int .i64 1)))), none⟩,
  ⟨some 23, .mv (.t 22), none⟩,
  ⟨some 24, .faddr 1 (.t 3), some (23, true)⟩,
  ⟨some 25, .load false 1 (.t 24), some (23, true)⟩,
  ⟨some 26, .bin .and (.t 25) (.c (.p (.s (.int .i64 4)))), some (23, true)⟩,
  ⟨some 27, .bin .neq (.t 26) (.c (.p (.s (.int .i64 0)))), some (23, true)⟩,
  ⟨some 28, .pick (.t 23) (.t 27) (.c (.p (.s (.bool false)))), none⟩,
  ⟨some 29, .mv (.t 28), none⟩,
  ⟨some 30, .faddr 2 (.t 2), some (29, true)⟩,
  ⟨some 31, .load false 1 (.t 30), some (29, true)⟩,
  ⟨some 32, .bin .gtr (.t 31) (.c (.p (.s (.int .i64 0)))), some (29, true)⟩,
  ⟨some 33, .pick (.t 29) (.t 32) (.c (.p (.s (.bool false)))), none⟩,
  ⟨some 19, .mv (.t 33), none⟩]
abbrev r17_5 : List CO := [
  ⟨some 34, .faddr 2 (.t 2), none⟩,
  ⟨some 35, .load false 1 (.t 34), none⟩,
  ⟨some 36, .bin .sub (.t 35) (.c (.p (.s (.int .i64 1)))), none⟩,
  ⟨some 37, .faddr 1 (.t 3), none⟩,
  ⟨some 38, .load false 1 (.t 37), none⟩,
  ⟨some 39, .bin .andNot (.t 38) (.c (.p (.s (.int .i64 4)))), none⟩,
  ⟨some 40, .faddr 2 (.t 2), none⟩,
  ⟨none, .store 1 (.t 40) (.t 36), none⟩,
  ⟨some 41, .faddr 1 (.t 2), none⟩,
  ⟨none, .store 1 (.t 41) (.t 39), none⟩]
abbrev b17_5 : List (List Nat) := [[], [0], [1], [], [3], [4], [0, 1, 2], [6, 2, 0, 1, 2], [0, 1, 2, 3, 4, 5, 6, 7], [8, 5, 7, 0, 1, 2, 3, 4, 5, 6, 7]]
abbrev r17_6 : List CO := [
  ⟨some 42, .load true 70 (.t 2), none⟩,
  ⟨none, .store 70 (.t 4) (.t 42), none⟩,
  ⟨some 5, .mv (.c (.p (.s (.int .i64 0)))), none⟩]
abbrev r17_7 : List CO := [
  ⟨some 44, .faddr 0 (.t 3), none⟩,
  ⟨some 45, .load false 1 (.t 44), none⟩,
  ⟨some 46, .bin .neq (.t 45) (.c (.p (.s (.int .i64 2)))), none⟩,
  ⟨some 47, .mv (.t 46), none⟩,
  ⟨some 48, .mv (.t 6), some (47, false)⟩,
  ⟨some 49, .un .not (.t 48), some (47, false)⟩,
  ⟨some 50, .mv (.t 49), some (47, false)⟩,
  ⟨some 51, .faddr 2 (.t 3), some (50, true)⟩,
  ⟨some 52, .load false 1 (.t 51), some (50, true)⟩,
  ⟨some 53, .bin .neq (.t 52) (.c (.p (.s (.int .i64 252)))), some (50, true)⟩,
  ⟨some 54, .pick (.t 50) (.t 53) (.c (.p (.s (.bool false)))), some (47, false)⟩,
  ⟨some 55, .pick (.t 47) (.c (.p (.s (.bool true)))) (.t 54), none⟩,
  ⟨some 56, .mv (.t 55), none⟩,
  ⟨some 57, .faddr 69 (.t 2), some (56, false)⟩,
  ⟨some 58, .load false 1 (.t 57), some (56, false)⟩,
  ⟨some 59, .bin .eql (.t 58) (.c (.p (.s (.int .i64 0)))), some (56, false)⟩,
  ⟨some 60, .pick (.t 56) (.c (.p (.s (.bool true)))) (.t 59), none⟩,
  ⟨some 43, .mv (.t 60), none⟩]
abbrev r17_8 : List CO := [
  ⟨some 61, .load true 70 (.t 2), none⟩,
  ⟨none, .store 70 (.t 4) (.t 61), none⟩,
  ⟨some 5, .mv (.c (.p (.s (.int .i64 5)))), none⟩]
abbrev k17_0 : CC := .seq (.reg r17_4) (.rest [2, 3, 4, 6, 19] (.cond (.t 19) (.seq (.regd r17_5 b17_5) (.rest [2, 4] (.seq (.reg r17_6) (.ret)))) (.seq (.reg r17_7) (.rest [2, 4, 6, 43] (.cond (.t 43) (.seq (.reg r17_8) (.ret)) (.skip))))))
abbrev r17_9 : List CO := [
  ⟨some 62, .faddr 69 (.t 2), none⟩,
  ⟨some 63, .load false 1 (.t 62), none⟩,
  ⟨some 64, .bin .sub (.t 63) (.c (.p (.s (.int .i64 1)))), none⟩,
  ⟨some 65, .faddr 69 (.t 2), none⟩,
  ⟨none, .store 1 (.t 65) (.t 64), none⟩]
abbrev r17_10 : List CO := [
  ⟨some 66, .faddr 69 (.t 2), none⟩,
  ⟨some 67, .load false 1 (.t 66), none⟩,
  ⟨some 68, .bin .eql (.t 67) (.c (.p (.s (.int .i64 0)))), none⟩]
abbrev r17_11 : List CO := [
  ⟨some 69, .mv (.t 6), none⟩,
  ⟨some 70, .mv (.t 69), none⟩,
  ⟨some 71, .faddr 67 (.t 2), some (70, true)⟩,
  ⟨some 72, .load false 1 (.t 71), some (70, true)⟩,
  ⟨some 73, .pick (.t 70) (.t 72) (.c (.p (.s (.bool false)))), none⟩,
  ⟨some 74, .build (List.replicate 32 (.s (.int .u8 0))) [], none⟩,
  ⟨some 75, .faddr 68 (.t 2), none⟩,
  ⟨none, .store 1 (.t 75) (.t 73), none⟩,
  ⟨some 76, .faddr 35 (.t 2), none⟩,
  ⟨none, .store 32 (.t 76) (.t 74), none⟩]
abbrev r17_12 : List CO := [
  ⟨some 77, .faddr 68 (.t 2), none⟩,
  ⟨some 78, .load false 1 (.t 77), none⟩]
abbrev r17_13 : List CO := [
  ⟨some 79, .faddr 3 (.t 2), none⟩,
  ⟨some 80, .load true 32 (.t 79), none⟩,
  ⟨some 81, .faddr 35 (.t 2), none⟩,
  ⟨none, .store 32 (.t 81) (.t 80), none⟩]
abbrev r17_14 : List CO := [
  ⟨some 82, .load true 70 (.t 2), none⟩,
  ⟨none, .store 70 (.t 4) (.t 82), none⟩,
  ⟨some 5, .mv (.c (.p (.s (.int .i64 0)))), none⟩]
abbrev c17 : CC := .seq (.reg r17_0) (.rest [2, 3, 4] (.seq (.seq (.reg r17_1) (.rest [2, 3, 4, 14] (.cond (.t 14) (.seq (.reg r17_2) (.ret)) (.skip)))) (.rest [2, 3, 4] (.seq (.reg r17_3) (.rest [2, 3, 4, 6] (.seq (.block 0 k17_0) (.rest [2, 4, 6] (.seq (.seq (.reg r17_9) (.rest [2, 4, 6] (.seq (.reg r17_10) (.cond (.t 68) (.seq (.reg r17_11) (.rest [2, 4] (.seq (.reg r17_12) (.cond (.t 78) (.reg r17_13) (.skip))))) (.skip))))) (.rest [2, 4] (.seq (.reg r17_14) (.ret)))))))))))
theorem F17 : Fun Try.prog 17 83 c17 [.cell 4 true 70, .tmp 5] 2 := ⟨⟨Try.f17, _, Try.func17, rfl, by kernel_rfl, Try.ntmps17, by kernel_rfl, by kernel_rfl⟩, by decide⟩

/-- linnet/mode.Check -/
abbrev r18_0 : List CO := [
  ⟨some 1, .box (.t 0), none⟩,
  ⟨some 2, .mv (.c (.p (.s (.int .i64 0)))), none⟩]
abbrev r18_1 : List CO := [
  ⟨some 3, .mv (.c (.fn (.func 32) [] [])), none⟩]
abbrev r18_2 : List CO := [
  ⟨some 4, .faddr 0 (.t 1), none⟩,
  ⟨some 5, .load false 1 (.t 4), none⟩,
  ⟨some 6, .call (.c (.fn (.func 28) [] [])) [.t 5], none⟩,
  ⟨some 7, .un .not (.t 6), none⟩,
  ⟨some 8, .mv (.t 7), none⟩,
  ⟨some 9, .faddr 1 (.t 1), some (8, false)⟩,
  ⟨some 10, .load false 1 (.t 9), some (8, false)⟩,
  ⟨some 11, .call (.c (.fn (.func 28) [] [])) [.t 10], some (8, false)⟩,
  ⟨some 12, .un .not (.t 11), some (8, false)⟩,
  ⟨some 13, .pick (.t 8) (.c (.p (.s (.bool true)))) (.t 12), none⟩,
  ⟨some 14, .mv (.t 13), none⟩,
  ⟨some 15, .mv (.t 3), some (14, false)⟩,
  ⟨some 16, .faddr 2 (.t 1), some (14, false)⟩,
  ⟨some 17, .load false 1 (.t 16), some (14, false)⟩,
  ⟨some 18, .call (.t 15) [.t 17], some (14, false)⟩,
  ⟨some 19, .un .not (.t 18), some (14, false)⟩,
  ⟨some 20, .pick (.t 14) (.c (.p (.s (.bool true)))) (.t 19), none⟩,
  ⟨some 21, .mv (.t 20), none⟩,
  ⟨some 22, .mv (.t 3), some (21, false)⟩,
  ⟨some 23, .faddr 69 (.t 1), some (21, false)⟩,
  ⟨some 24, .load false 1 (.t 23), some (21, false)⟩,
  ⟨some 25, .call (.t 22) [.t 24], some (21, false)⟩,
  ⟨some 26, .un .not (.t 25), some (21, false)⟩,
  ⟨some 27, .pick (.t 21) (.c (.p (.s (.bool true)))) (.t 26), none⟩,
  ⟨some 28, .mv (.t 27), none⟩,
  ⟨some 29, .faddr 67 (.t 1), some (28, false)⟩,
  ⟨some 30, .load false 1 (.t 29), some (28, false)⟩,
  ⟨some 31, .faddr 3 (.t 1), some (28, false)⟩,
  ⟨some 32, .load true 32 (.t 31), some (28, false)⟩,
  ⟨some 33, .call (.c (.fn (.func 29) [] [])) [.t 30, .t 32], some (28, false)⟩,
  ⟨some 34, .un .not (.t 33), some (28, false)⟩,
  ⟨some 35, .pick (.t 28) (.c (.p (.s (.bool true)))) (.t 34), none⟩,
  ⟨some 36, .mv (.t 35), none⟩,
  ⟨some 37, .faddr 68 (.t 1), some (36, false)⟩,
  ⟨some 38, .load false 1 (.t 37), some (36, false)⟩,
  ⟨some 39, .faddr 35 (.t 1), some (36, false)⟩,
  ⟨some 40, .load true 32 (.t 39), some (36, false)⟩,
  ⟨some 41, .call (.c (.fn (.func 29) [] [])) [.t 38, .t 40], some (36, false)⟩,
  ⟨some 42, .un .not (.t 41), some (36, false)⟩,
  ⟨some 43, .pick (.t 36) (.c (.p (.s (.bool true)))) (.t 42), none⟩]
abbrev r18_3 : List CO := [
  ⟨some 2, .mv (.c (.p (.s (.int .i64 1)))), none⟩]
abbrev r18_4 : List CO := [
  ⟨some 2, .mv (.c (.p (.s (.int .i64 0)))), none⟩]
abbrev c18 : CC := .seq (.reg r18_0) (.seq (.reg r18_1) (.seq (.seq (.reg r18_2) (.rest [43] (.cond (.t 43) (.seq (.reg r18_3) (.ret)) (.skip)))) (.rest [] (.seq (.reg r18_4) (.ret)))))
theorem F18 : Fun Try.prog 18 44 c18 [.tmp 2] 1 := ⟨⟨Try.f18, _, Try.func18, rfl, by kernel_rfl, Try.ntmps18, by kernel_rfl, by kernel_rfl⟩, by decide⟩

/-- linnet/subopt.Check -/
abbrev r19_0 : List CO := [
  ⟨some 1, .box (.t 0), none⟩,
  ⟨some 2, .mv (.c (.p (.s (.int .i64 0)))), none⟩]
abbrev r19_1 : List CO := [
  ⟨some 6, .load true 36 (.t 1), none⟩,
  ⟨some 7, .load true 36 (.t 1), none⟩,
  ⟨some 8, .call (.c (.fn (.func 34) [] [])) [.t 7], none⟩,
  ⟨some 9, .call (.c (.fn (.func 33) [] [])) [.t 6, .t 8], none⟩,
  ⟨some 3, .mv (.t 9), none⟩]
abbrev b19_1 : List (List Nat) := [[], [], [1], [0, 2, 2], [3, 3, 0, 1, 2, 3]]
abbrev r19_2 : List CO := [
  ⟨some 10, .faddr 0 (.t 1), none⟩,
  ⟨some 11, .load false 1 (.t 10), none⟩]
abbrev r19_4 : List CO := [
  ⟨some 13, .bin .eql (.t 11) (.c (.p (.s (.int .i64 1)))), none⟩,
  ⟨some 12, .mv (.t 13), none⟩]
abbrev r19_5 : List CO := [
  ⟨some 14, .mv (.t 3), none⟩,
  ⟨some 15, .mv (.t 14), none⟩,
  ⟨some 16, .faddr 1 (.t 1), some (15, true)⟩,
  ⟨some 17, .load false 1 (.t 16), some (15, true)⟩,
  ⟨some 18, .bin .geq (.t 17) (.c (.p (.s (.int .i64 0)))), some (15, true)⟩,
  ⟨some 19, .pick (.t 15) (.t 18) (.c (.p (.s (.bool false)))), none⟩,
  ⟨some 20, .mv (.t 19), none⟩,
  ⟨some 21, .faddr 1 (.t 1), some (20, true)⟩,
  ⟨some 22, .load false 1 (.t 21), some (20, true)⟩,
  ⟨some 23, .bin .leq (.t 22) (.c (.p (.s (.int .i64 31)))), some (20, true)⟩,
  ⟨some 24, .pick (.t 20) (.t 23) (.c (.p (.s (.bool false)))), none⟩,
  ⟨some 3, .mv (.t 24), none⟩]
abbrev r19_6 : List CO := [
  ⟨some 26, .bin .eql (.t 11) (.c (.p (.s (.int .i64 2)))), none⟩,
  ⟨some 25, .mv (.t 26), none⟩]
abbrev r19_7 : List CO := [
  ⟨some 27, .mv (.t 3), none⟩,
  ⟨some 28, .mv (.t 27), none⟩,
  ⟨some 29, .faddr 2 (.t 1), some (28, true)⟩,
  ⟨some 30, .load false 1 (.t 29), some (28, true)⟩,
  ⟨some 31, .bin .geq (.t 30) (.c (.p (.s (.int .i64 251)))), some (28, true)⟩,
  ⟨some 32, .pick (.t 28) (.t 31) (.c (.p (.s (.bool false)))), none⟩,
  ⟨some 33, .mv (.t 32), none⟩,
  ⟨some 34, .faddr 2 (.t 1), some (33, true)⟩,
  ⟨some 35, .load false 1 (.t 34), some (33, true)⟩,
  ⟨some 36, .bin .leq (.t 35) (.c (.p (.s (.int .i64 254)))), some (33, true)⟩,
  ⟨some 37, .pick (.t 33) (.t 36) (.c (.p (.s (.bool false)))), none⟩,
  ⟨some 3, .mv (.t 37), none⟩]
abbrev r19_8 : List CO := [
  ⟨some 39, .bin .eql (.t 11) (.c (.p (.s (.int .i64 3)))), none⟩,
  ⟨some 38, .mv (.t 39), none⟩]
abbrev r19_9 : List CO := [
  ⟨some 41, .faddr 35 (.t 1), none⟩,
  ⟨some 42, .load false 1 (.t 41), none⟩,
  ⟨some 43, .call (.c (.fn (.func 35) [] [])) [.t 42], none⟩,
  ⟨some 40, .mv (.t 43), none⟩,
  ⟨some 44, .extract 0 (.t 40), none⟩,
  ⟨some 45, .extract 1 (.t 40), none⟩,
  ⟨some 4, .mv (.t 44), none⟩,
  ⟨some 5, .mv (.t 45), none⟩]
abbrev r19_10 : List CO := [
  ⟨some 46, .mv (.t 3), none⟩,
  ⟨some 47, .mv (.t 46), none⟩,
  ⟨some 48, .mv (.t 5), some (47, true)⟩,
  ⟨some 49, .bin .eql (.t 48) (.c (.p (.s (.int .i64 0)))), some (47, true)⟩,
  ⟨some 50, .pick (.t 47) (.t 49) (.c (.p (.s (.bool false)))), none⟩,
  ⟨some 51, .mv (.t 50), none⟩,
  ⟨some 52, .faddr 35 (.t 1), some (51, true)⟩,
  ⟨some 53, .load false 1 (.t 52), some (51, true)⟩,
  ⟨some 54, .len (.t 53), some (51, true)⟩,
  ⟨some 55, .bin .leq (.t 54) (.c (.p (.s (.int .i64 170)))), some (51, true)⟩,
  ⟨some 56, .pick (.t 51) (.t 55) (.c (.p (.s (.bool false)))), none⟩,
  ⟨some 3, .mv (.t 56), none⟩]
abbrev r19_3 : List CO := [
  ⟨some 3, .mv (.c (.p (.s (.bool false)))), none⟩]
abbrev k19_0 : CC := .seq (.reg r19_4) (.cond (.t 12) (.reg r19_5) (.seq (.reg r19_6) (.cond (.t 25) (.reg r19_7) (.seq (.reg r19_8) (.cond (.t 38) (.seq (.reg r19_9) (.rest [1, 3, 5] (.reg r19_10))) (.reg r19_3))))))
abbrev r19_11 : List CO := [
  ⟨some 57, .mv (.t 3), none⟩,
  ⟨some 58, .un .not (.t 57), none⟩]
abbrev r19_12 : List CO := [
  ⟨some 2, .mv (.c (.p (.s (.int .i64 1)))), none⟩]
abbrev r19_13 : List CO := [
  ⟨some 2, .mv (.c (.p (.s (.int .i64 0)))), none⟩]
abbrev c19 : CC := .seq (.reg r19_0) (.seq (.regd r19_1 b19_1) (.rest [1, 3] (.seq (.seq (.reg r19_2) (.block 0 k19_0)) (.rest [3] (.seq (.seq (.reg r19_11) (.cond (.t 58) (.seq (.reg r19_12) (.ret)) (.skip))) (.seq (.reg r19_13) (.ret)))))))
theorem F19 : Fun Try.prog 19 59 c19 [.tmp 2] 1 := ⟨⟨Try.f19, _, Try.func19, rfl, by kernel_rfl, Try.ntmps19, by kernel_rfl, by kernel_rfl⟩, by decide⟩

/-- linnet/mode.Mode -/
abbrev r20_0 : List CO := [
  ⟨some 2, .box (.t 0), none⟩,
  ⟨some 4, .alloc ([.s (.int .i64 0), .s (.int .i64 0), .s (.int .i64 0), .s (.int .u8 0), .s (.int .u8 0), .s (.int .u8 0), .s (.int .u8 0), .s (.int .u8 0), .s (.int .u8 0), .s (.int .u8 0), .s (.int .u8 0), .s (.int .u8 0), .s (.int .u8 0), .s (.int .u8 0), .s (.int .u8 0), .s (.int .u8 0), .s (.int .u8 0), .s (.int .u8 0), .s (.int .u8 0), .s (.int .u8 0), .s (.int .u8 0), .s (.int .u8 0), .s (.int .u8 0), .s (.int .u8 0), .s (.int .u8 0), .s (.int .u8 0), .s (.int .u8 0), .s (.int .u8 0), .s (.int .u8 0), .s (.int .u8 0), .s (.int .u8 0), .s (.int .u8 0), .s (.int .u8 0), .s (.int .u8 0), .s (.int .u8 0), .s (.int .u8 0), .s (.int .u8 0), .s (.int .u8 0), .s (.int .u8 0), .s (.int .u8 0), .s (.int .u8 0), .s (.int .u8 0), .s (.int .u8 0), .s (.int .u8 0), .s (.int .u8 0), .s (.int .u8 0), .s (.int .u8 0), .s (.int .u8 0), .s (.int .u8 0), .s (.int .u8 0), .s (.int .u8 0), .s (.int .u8 0), .s (.int .u8 0), .s (.int .u8 0), .s (.int .u8 0), .s (.int .u8 0), .s (.int .u8 0), .s (.int .u8 0), .s (.int .u8 0), .s (.int .u8 0), .s (.int .u8 0), .s (.int .u8 0), .s (.int .u8 0), .s (.int .u8 0), .s (.int .u8 0), .s (.int .u8 0), .s (.int .u8 0), .s (.bool false), .s (.bool false), .s (.int .i64 0)]), none⟩,
  ⟨some 5, .mv (.c (.p (.s (.slice none 0 0)))), none⟩,
  ⟨some 6, .mv (.c (.p (.s (.int .i64 0)))), none⟩]
abbrev r20_1 : List CO := [
  ⟨some 7, .load true 70 (.t 2), none⟩,
  ⟨some 8, .call (.c (.fn (.func 18) [] [])) [.t 7], none⟩,
  ⟨some 9, .bin .neq (.t 8) (.c (.p (.s (.int .i64 0)))), none⟩,
  ⟨some 10, .mv (.t 9), none⟩,
  ⟨some 11, .mv (.t 1), some (10, false)⟩,
  ⟨some 12, .bin .andNot (.t 11) (.c (.p (.s (.int .i64 31)))), some (10, false)⟩,
  ⟨some 13, .bin .neq (.t 12) (.c (.p (.s (.int .i64 0)))), some (10, false)⟩,
  ⟨some 14, .pick (.t 10) (.c (.p (.s (.bool true)))) (.t 13), none⟩]
abbrev r20_2 : List CO := [
  ⟨some 15, .load true 70 (.t 2), none⟩,
  ⟨none, .store 70 (.t 4) (.t 15), none⟩,
  ⟨some 5, .mv (.c (.p (.s (.slice none 0 0)))), none⟩,
  ⟨some 6, .mv (.c (.p (.s (.int .i64 1)))), none⟩]
abbrev r20_3 : List CO := [
  ⟨some 16, .mv (.t 1), none⟩,
  ⟨some 17, .bin .andNot (.t 16) (.c (.p (.s (.int .i64 4)))), none⟩,
  ⟨some 1, .mv (.t 17), none⟩]
abbrev r20_4 : List CO := [
  ⟨some 19, .mv (.t 1), none⟩,
  ⟨some 20, .faddr 0 (.t 2), none⟩,
  ⟨some 21, .load false 1 (.t 20), none⟩,
  ⟨some 22, .bin .eql (.t 19) (.t 21), none⟩,
  ⟨some 18, .mv (.t 22), none⟩]
abbrev r20_5 : List CO := [
  ⟨some 23, .load true 70 (.t 2), none⟩,
  ⟨none, .store 70 (.t 4) (.t 23), none⟩,
  ⟨some 5, .mv (.c (.p (.s (.slice none 0 0)))), none⟩,
  ⟨some 6, .mv (.c (.p (.s (.int .i64 0)))), none⟩]
abbrev r20_6 : List CO := [
  ⟨some 25, .faddr 2 (.t 2), none⟩,
  ⟨some 26, .load false 1 (.t 25), none⟩,
  ⟨some 27, .bin .eql (.t 26) (.c (.p (.s (.int .i64 65536)))), none⟩,
  ⟨some 24, .mv (.t 27), none⟩]
abbrev r20_7 : List CO := [
  ⟨some 28, .load true 70 (.t 2), none⟩,
  ⟨none, .store 70 (.t 4) (.t 28), none⟩,
  ⟨some 5, .mv (.c (.p (.s (.slice none 0 0)))), none⟩,
  ⟨some 6, .mv (.c (.p (.s (.int .i64 6)))), none⟩]
abbrev k20_0 : CC := .seq (.reg r20_4) (.rest [1, 2, 4, 18] (.cond (.t 18) (.seq (.reg r20_5) (.rest [4, 5, 6] (.ret))) (.seq (.reg r20_6) (.rest [1, 2, 4, 24] (.cond (.t 24) (.seq (.reg r20_7) (.rest [4, 5, 6] (.ret))) (.skip))))))
abbrev r20_8 : List CO := [
  ⟨some 29, .mv (.t 1), none⟩,
  ⟨some 30, .faddr 2 (.t 2), none⟩,
  ⟨some 31, .load false 1 (.t 30), none⟩,
  ⟨some 32, .bin .add (.t 31) (.c (.p (.s (.int .i64 1)))), none⟩,
  ⟨some 33, .faddr 0 (.t 2), none⟩,
  ⟨none, .store 1 (.t 33) (.t 29), none⟩,
  ⟨some 34, .faddr 2 (.t 2), none⟩,
  ⟨none, .store 1 (.t 34) (.t 32), none⟩]
abbrev r20_9 : List CO := [
  ⟨some 35, .load true 70 (.t 2), none⟩,
  ⟨some 36, .mv (.t 1), none⟩,
  ⟨some 37, .build ([.s (.int .i64 0), .s (.int .i64 0), .s (.int .i64 0), .s (.int .u8 0), .s (.int .u8 0), .s (.int .u8 0), .s (.int .u8 0), .s (.int .u8 0), .s (.int .u8 0), .s (.int .u8 0), .s (.int .u8 0), .s (.int .u8 0), .s (.int .u8 0), .s (.int .u8 0), .s (.int .u8 0), .s (.int .u8 0), .s (.int .u8 0), .s (.int .u8 0), .s (.int .u8 0), .s (.int .u8 0), .s (.int .u8 0), .s (.int .u8 0), .s (.int .u8 0), .s (.int .u8 0), .s (.int .u8 0), .s (.int .u8 0), .s (.int .u8 0), .s (.int .u8 0), .s (.int .u8 0), .s (.int .u8 0), .s (.int .u8 0), .s (.int .u8 0), .s (.int .u8 0), .s (.int .u8 0), .s (.int .u8 0), .s (.slice none 0 0)]) [(0, 1, .c (.p (.s (.int .i64 1)))), (1, 1, .t 36)], none⟩,
  ⟨some 38, .bslice 36 1 ([.s (.int .i64 0), .s (.int .i64 0), .s (.int .i64 0), .s (.int .u8 0), .s (.int .u8 0), .s (.int .u8 0), .s (.int .u8 0), .s (.int .u8 0), .s (.int .u8 0), .s (.int .u8 0), .s (.int .u8 0), .s (.int .u8 0), .s (.int .u8 0), .s (.int .u8 0), .s (.int .u8 0), .s (.int .u8 0), .s (.int .u8 0), .s (.int .u8 0), .s (.int .u8 0), .s (.int .u8 0), .s (.int .u8 0), .s (.int .u8 0), .s (.int .u8 0), .s (.int .u8 0), .s (.int .u8 0), .s (.int .u8 0), .s (.int .u8 0), .s (.int .u8 0), .s (.int .u8 0), .s (.int .u8 0), .s (.int .u8 0), .s (.int .u8 0), .s (.int .u8 0), .s (.int .u8 0), .s (.int .u8 0), .s (.slice none 0 0)]) [(0, .t 37)], none⟩,
  ⟨none, .store 70 (.t 4) (.t 35), none⟩,
  ⟨some 5, .mv (.t 38), none⟩,
  ⟨some 6, .mv (.c (.p (.s (.int .i64 0)))), none⟩]
abbrev c20 : CC := .seq (.reg r20_0) (.rest [1, 2, 4] (.seq (.seq (.reg r20_1) (.rest [1, 2, 4, 14] (.cond (.t 14) (.seq (.reg r20_2) (.rest [4, 5, 6] (.ret))) (.skip)))) (.rest [1, 2, 4] (.seq (.reg r20_3) (.seq (.block 0 k20_0) (.rest [1, 2, 4] (.seq (.reg r20_8) (.rest [1, 2, 4] (.seq (.reg r20_9) (.rest [4, 5, 6] (.ret)))))))))))
theorem F20 : Fun Try.prog 20 39 c20 [.cell 4 true 70, .tmp 5, .tmp 6] 2 := ⟨⟨Try.f20, _, Try.func20, rfl, by kernel_rfl, Try.ntmps20, by kernel_rfl, by kernel_rfl⟩, by decide⟩

/-- linnet/mode.Forward -/
abbrev r21_0 : List CO := [
  ⟨some 3, .box (.t 0), none⟩,
  ⟨some 5, .box (.t 2), none⟩,
  ⟨some 6, .alloc ([.s (.int .i64 0), .s (.int .i64 0), .s (.int .i64 0), .s (.int .u8 0), .s (.int .u8 0), .s (.int .u8 0), .s (.int .u8 0), .s (.int .u8 0), .s (.int .u8 0), .s (.int .u8 0), .s (.int .u8 0), .s (.int .u8 0), .s (.int .u8 0), .s (.int .u8 0), .s (.int .u8 0), .s (.int .u8 0), .s (.int .u8 0), .s (.int .u8 0), .s (.int .u8 0), .s (.int .u8 0), .s (.int .u8 0), .s (.int .u8 0), .s (.int .u8 0), .s (.int .u8 0), .s (.int .u8 0), .s (.int .u8 0), .s (.int .u8 0), .s (.int .u8 0), .s (.int .u8 0), .s (.int .u8 0), .s (.int .u8 0), .s (.int .u8 0), .s (.int .u8 0), .s (.int .u8 0), .s (.int .u8 0), .s (.int .u8 0), .s (.int .u8 0), .s (.int .u8 0), .s (.int .u8 0), .s (.int .u8 0), .s (.int .u8 0), .s (.int .u8 0), .s (.int .u8 0), .s (.int .u8 0), .s (.int .u8 0), .s (.int .u8 0), .s (.int .u8 0), .s (.int .u8 0), .s (.int .u8 0), .s (.int .u8 0), .s (.int .u8 0), .s (.int .u8 0), .s (.int .u8 0), .s (.int .u8 0), .s (.int .u8 0), .s (.int .u8 0), .s (.int .u8 0), .s (.int .u8 0), .s (.int .u8 0), .s (.int .u8 0), .s (.int .u8 0), .s (.int .u8 0), .s (.int .u8 0), .s (.int .u8 0), .s (.int .u8 0), .s (.int .u8 0), .s (.int .u8 0), .s (.bool false), .s (.bool false), .s (.int .i64 0)]), none⟩,
  ⟨some 7, .mv (.c (.p (.s (.slice none 0 0)))), none⟩,
  ⟨some 8, .mv (.c (.p (.s (.int .i64 0)))), none⟩]
abbrev r21_1 : List CO := [
  ⟨some 11, .load true 70 (.t 3), none⟩,
  ⟨some 12, .call (.c (.fn (.func 18) [] [])) [.t 11], none⟩,
  ⟨some 9, .mv (.t 12), none⟩]
abbrev r21_2 : List CO := [
  ⟨some 13, .mv (.t 9), none⟩,
  ⟨some 14, .bin .neq (.t 13) (.c (.p (.s (.int .i64 0)))), none⟩]
abbrev r21_3 : List CO := [
  ⟨some 15, .load true 70 (.t 3), none⟩,
  ⟨some 16, .mv (.t 9), none⟩,
  ⟨none, .store 70 (.t 6) (.t 15), none⟩,
  ⟨some 7, .mv (.c (.p (.s (.slice none 0 0)))), none⟩,
  ⟨some 8, .mv (.t 16), none⟩]
abbrev r21_4 : List CO := [
  ⟨some 10, .mv (.c (.p (.s (.int .i64 253)))), none⟩]
abbrev r21_5 : List CO := [
  ⟨some 17, .mv (.t 1), none⟩,
  ⟨some 18, .un .not (.t 17), none⟩]
abbrev r21_6 : List CO := [
  ⟨some 19, .build (List.replicate 32 (.s (.int .u8 0))) [], none⟩,
  ⟨none, .store 32 (.t 5) (.t 19), none⟩,
  ⟨some 10, .mv (.c (.p (.s (.int .i64 254)))), none⟩]
abbrev r21_7 : List CO := [
  ⟨some 21, .mv (.t 1), none⟩,
  ⟨some 22, .faddr 67 (.t 3), none⟩,
  ⟨some 23, .load false 1 (.t 22), none⟩,
  ⟨some 24, .beq false (.t 21) (.t 23), none⟩,
  ⟨some 25, .mv (.t 24), none⟩,
  ⟨some 26, .load true 32 (.t 5), some (25, true)⟩,
  ⟨some 27, .faddr 3 (.t 3), some (25, true)⟩,
  ⟨some 28, .load true 32 (.t 27), some (25, true)⟩,
  ⟨some 29, .eqs false (List.replicate 32 0) (.t 26) (.t 28), some (25, true)⟩,
  ⟨some 30, .pick (.t 25) (.t 29) (.c (.p (.s (.bool false)))), none⟩,
  ⟨some 20, .mv (.t 30), none⟩]
abbrev r21_8 : List CO := [
  ⟨some 31, .load true 70 (.t 3), none⟩,
  ⟨none, .store 70 (.t 6) (.t 31), none⟩,
  ⟨some 7, .mv (.c (.p (.s (.slice none 0 0)))), none⟩,
  ⟨some 8, .mv (.c (.p (.s (.int .i64 0)))), none⟩]
abbrev r21_9 : List CO := [
  ⟨some 33, .faddr 69 (.t 3), none⟩,
  ⟨some 34, .load false 1 (.t 33), none⟩,
  ⟨some 35, .bin .eql (.t 34) (.c (.p (.s (.int .i64 65536)))), none⟩,
  ⟨some 32, .mv (.t 35), none⟩]
abbrev r21_10 : List CO := [
  ⟨some 36, .load true 70 (.t 3), none⟩,
  ⟨none, .store 70 (.t 6) (.t 36), none⟩,
  ⟨some 7, .mv (.c (.p (.s (.slice none 0 0)))), none⟩,
  ⟨some 8, .mv (.c (.p (.s (.int .i64 6)))), none⟩]
abbrev k21_0 : CC := .seq (.reg r21_7) (.rest [1, 3, 5, 6, 10, 20] (.cond (.t 20) (.seq (.reg r21_8) (.rest [6, 7, 8] (.ret))) (.seq (.reg r21_9) (.rest [1, 3, 5, 6, 10, 32] (.cond (.t 32) (.seq (.reg r21_10) (.rest [6, 7, 8] (.ret))) (.skip))))))
abbrev r21_11 : List CO := [
  ⟨some 37, .mv (.t 1), none⟩,
  ⟨some 38, .load true 32 (.t 5), none⟩,
  ⟨some 39, .faddr 69 (.t 3), none⟩,
  ⟨some 40, .load false 1 (.t 39), none⟩,
  ⟨some 41, .bin .add (.t 40) (.c (.p (.s (.int .i64 1)))), none⟩,
  ⟨some 42, .faddr 67 (.t 3), none⟩,
  ⟨none, .store 1 (.t 42) (.t 37), none⟩,
  ⟨some 43, .faddr 3 (.t 3), none⟩,
  ⟨none, .store 32 (.t 43) (.t 38), none⟩,
  ⟨some 44, .faddr 69 (.t 3), none⟩,
  ⟨none, .store 1 (.t 44) (.t 41), none⟩]
abbrev b21_11 : List (List Nat) := [[], [], [], [2], [3], [0, 2, 3], [5, 0, 0, 2, 3], [0, 1, 2, 3, 5, 6], [7, 1, 6, 0, 1, 2, 3, 5, 6], [0, 1, 2, 3, 4, 5, 6, 7, 8], [9, 4, 8, 0, 1, 2, 3, 4, 5, 6, 7, 8]]
abbrev r21_12 : List CO := [
  ⟨some 45, .load true 70 (.t 3), none⟩,
  ⟨some 46, .mv (.t 10), none⟩,
  ⟨some 47, .load true 32 (.t 5), none⟩,
  ⟨some 48, .call (.c (.fn (.func 27) [] [])) [.t 46, .t 47], none⟩,
  ⟨none, .store 70 (.t 6) (.t 45), none⟩,
  ⟨some 7, .mv (.t 48), none⟩,
  ⟨some 8, .mv (.c (.p (.s (.int .i64 0)))), none⟩]
abbrev b21_12 : List (List Nat) := [[], [], [], [1, 2], [0, 3, 0], [3, 4, 0, 1, 2, 3, 4], [5, 0, 1, 2, 3, 4, 5]]
abbrev c21 : CC := .seq (.reg r21_0) (.rest [1, 3, 5, 6] (.seq (.seq (.reg r21_1) (.seq (.reg r21_2) (.cond (.t 14) (.seq (.reg r21_3) (.rest [6, 7, 8] (.ret))) (.skip)))) (.rest [1, 3, 5, 6] (.seq (.reg r21_4) (.seq (.seq (.reg r21_5) (.cond (.t 18) (.reg r21_6) (.skip))) (.rest [1, 3, 5, 6, 10] (.seq (.block 0 k21_0) (.rest [1, 3, 5, 6, 10] (.seq (.regd r21_11 b21_11) (.rest [3, 5, 6, 10] (.seq (.regd r21_12 b21_12) (.rest [6, 7, 8] (.ret)))))))))))))
theorem F21 : Fun Try.prog 21 49 c21 [.cell 6 true 70, .tmp 7, .tmp 8] 3 := ⟨⟨Try.f21, _, Try.func21, rfl, by kernel_rfl, Try.ntmps21, by kernel_rfl, by kernel_rfl⟩, by decide⟩

/-- linnet/linnetref16.May -/
abbrev r22_0 : List CO := [
  ⟨some 1, .box (.t 0), none⟩,
  ⟨some 2, .mv (.c (.p (.s (.bool false)))), none⟩]
abbrev r22_1 : List CO := [
  ⟨some 4, .build (List.replicate 32 (.s (.int .u8 0))) [], none⟩,
  ⟨some 3, .alloc (List.replicate 32 (.s (.int .u8 0))), none⟩,
  ⟨none, .store 32 (.t 3) (.t 4), none⟩]
abbrev r22_2 : List CO := [
  ⟨some 5, .faddr 0 (.t 1), none⟩,
  ⟨some 6, .load false 1 (.t 5), none⟩,
  ⟨some 7, .call (.c (.fn (.func 30) [] [])) [.t 6], none⟩,
  ⟨some 8, .mv (.t 7), none⟩,
  ⟨some 9, .faddr 1 (.t 1), some (8, true)⟩,
  ⟨some 10, .load false 1 (.t 9), some (8, true)⟩,
  ⟨some 11, .call (.c (.fn (.func 30) [] [])) [.t 10], some (8, true)⟩,
  ⟨some 12, .pick (.t 8) (.t 11) (.c (.p (.s (.bool false)))), none⟩,
  ⟨some 13, .mv (.t 12), none⟩,
  ⟨some 14, .faddr 2 (.t 1), some (13, true)⟩,
  ⟨some 15, .load false 1 (.t 14), some (13, true)⟩,
  ⟨some 16, .bin .geq (.t 15) (.c (.p (.s (.int .i64 0)))), some (13, true)⟩,
  ⟨some 17, .pick (.t 13) (.t 16) (.c (.p (.s (.bool false)))), none⟩,
  ⟨some 18, .mv (.t 17), none⟩,
  ⟨some 19, .faddr 2 (.t 1), some (18, true)⟩,
  ⟨some 20, .load false 1 (.t 19), some (18, true)⟩,
  ⟨some 21, .bin .leq (.t 20) (.c (.p (.s (.int .i64 65536)))), some (18, true)⟩,
  ⟨some 22, .pick (.t 18) (.t 21) (.c (.p (.s (.bool false)))), none⟩,
  ⟨some 23, .mv (.t 22), none⟩,
  ⟨some 24, .faddr 69 (.t 1), some (23, true)⟩,
  ⟨some 25, .load false 1 (.t 24), some (23, true)⟩,
  ⟨some 26, .bin .geq (.t 25) (.c (.p (.s (.int .i64 0)))), some (23, true)⟩,
  ⟨some 27, .pick (.t 23) (.t 26) (.c (.p (.s (.bool false)))), none⟩,
  ⟨some 28, .mv (.t 27), none⟩,
  ⟨some 29, .faddr 69 (.t 1), some (28, true)⟩,
  ⟨some 30, .load false 1 (.t 29), some (28, true)⟩,
  ⟨some 31, .bin .leq (.t 30) (.c (.p (.s (.int .i64 65536)))), some (28, true)⟩,
  ⟨some 32, .pick (.t 28) (.t 31) (.c (.p (.s (.bool false)))), none⟩,
  ⟨some 33, .mv (.t 32), none⟩,
  ⟨some 34, .faddr 67 (.t 1), some (33, true)⟩,
  ⟨some 35, .load false 1 (.t 34), some (33, true)⟩,
  ⟨some 36, .mv (.t 35), some (33, true)⟩,
  ⟨some 37, .faddr 3 (.t 1), some (36, false)⟩,
  ⟨some 38, .load true 32 (.t 37), some (36, false)⟩,
  ⟨some 39, .load true 32 (.t 3), some (36, false)⟩,
  ⟨some 40, .eqs false (List.replicate 32 0) (.t 38) (.t 39), some (36, false)⟩,
  ⟨some 41, .pick (.t 36) (.c (.p (.s (.bool true)))) (.t 40), some (33, true)⟩,
  ⟨some 42, .pick (.t 33) (.t 41) (.c (.p (.s (.bool false)))), none⟩,
  ⟨some 43, .mv (.t 42), none⟩,
  ⟨some 44, .faddr 68 (.t 1), some (43, true)⟩,
  ⟨some 45, .load false 1 (.t 44), some (43, true)⟩,
  ⟨some 46, .mv (.t 45), some (43, true)⟩,
  ⟨some 47, .faddr 35 (.t 1), some (46, false)⟩,
  ⟨some 48, .load true 32 (.t 47), some (46, false)⟩,
  ⟨some 49, .load true 32 (.t 3), some (46, false)⟩,
  ⟨some 50, .eqs false (List.replicate 32 0) (.t 48) (.t 49), some (46, false)⟩,
  ⟨some 51, .pick (.t 46) (.c (.p (.s (.bool true)))) (.t 50), some (43, true)⟩,
  ⟨some 52, .pick (.t 43) (.t 51) (.c (.p (.s (.bool false)))), none⟩,
  ⟨some 2, .mv (.t 52), none⟩]
abbrev c22 : CC := .seq (.reg r22_0) (.seq (.reg r22_1) (.seq (.reg r22_2) (.rest [2] (.ret))))
theorem F22 : Fun Try.prog 22 53 c22 [.tmp 2] 1 := ⟨⟨Try.f22, _, Try.func22, rfl, by kernel_rfl, Try.ntmps22, by kernel_rfl, by kernel_rfl⟩, by decide⟩

/-- linnet/linnetref16.Mode -/
abbrev r23_0 : List CO := [
  ⟨some 2, .box (.t 0), none⟩,
  ⟨some 4, .alloc ([.s (.int .i64 0), .s (.int .i64 0), .s (.int .i64 0), .s (.int .u8 0), .s (.int .u8 0), .s (.int .u8 0), .s (.int .u8 0), .s (.int .u8 0), .s (.int .u8 0), .s (.int .u8 0), .s (.int .u8 0), .s (.int .u8 0), .s (.int .u8 0), .s (.int .u8 0), .s (.int .u8 0), .s (.int .u8 0), .s (.int .u8 0), .s (.int .u8 0), .s (.int .u8 0), .s (.int .u8 0), .s (.int .u8 0), .s (.int .u8 0), .s (.int .u8 0), .s (.int .u8 0), .s (.int .u8 0), .s (.int .u8 0), .s (.int .u8 0), .s (.int .u8 0), .s (.int .u8 0), .s (.int .u8 0), .s (.int .u8 0), .s (.int .u8 0), .s (.int .u8 0), .s (.int .u8 0), .s (.int .u8 0), .s (.int .u8 0), .s (.int .u8 0), .s (.int .u8 0), .s (.int .u8 0), .s (.int .u8 0), .s (.int .u8 0), .s (.int .u8 0), .s (.int .u8 0), .s (.int .u8 0), .s (.int .u8 0), .s (.int .u8 0), .s (.int .u8 0), .s (.int .u8 0), .s (.int .u8 0), .s (.int .u8 0), .s (.int .u8 0), .s (.int .u8 0), .s (.int .u8 0), .s (.int .u8 0), .s (.int .u8 0), .s (.int .u8 0), .s (.int .u8 0), .s (.int .u8 0), .s (.int .u8 0), .s (.int .u8 0), .s (.int .u8 0), .s (.int .u8 0), .s (.int .u8 0), .s (.int .u8 0), .s (.int .u8 0), .s (.int .u8 0), .s (.int .u8 0), .s (.bool false), .s (.bool false), .s (.int .i64 0)]), none⟩,
  ⟨some 5, .mv (.c (.p (.s (.slice none 0 0)))), none⟩,
  ⟨some 6, .mv (.c (.p (.s (.int .i64 0)))), none⟩]
abbrev r23_1 : List CO := [
  ⟨some 7, .mv (.t 1), none⟩,
  ⟨some 8, .bin .lss (.t 7) (.c (.p (.s (.int .i64 0)))), none⟩,
  ⟨some 9, .mv (.t 8), none⟩,
  ⟨some 10, .mv (.t 1), some (9, false)⟩,
  ⟨some 11, .bin .gtr (.t 10) (.c (.p (.s (.int .i64 31)))), some (9, false)⟩,
  ⟨some 12, .pick (.t 9) (.c (.p (.s (.bool true)))) (.t 11), none⟩]
abbrev r23_2 : List CO := [
  ⟨some 13, .load true 70 (.t 2), none⟩,
  ⟨none, .store 70 (.t 4) (.t 13), none⟩,
  ⟨some 5, .mv (.c (.p (.s (.slice none 0 0)))), none⟩,
  ⟨some 6, .mv (.c (.p (.s (.int .i64 1)))), none⟩]
abbrev r23_3 : List CO := [
  ⟨some 14, .mv (.t 1), none⟩,
  ⟨some 15, .call (.c (.fn (.func 30) [] [])) [.t 14], none⟩,
  ⟨some 16, .un .not (.t 15), none⟩]
abbrev r23_4 : List CO := [
  ⟨some 17, .mv (.t 1), none⟩,
  ⟨some 18, .bin .sub (.t 17) (.c (.p (.s (.int .i64 4)))), none⟩,
  ⟨some 1, .mv (.t 18), none⟩]
abbrev r23_5 : List CO := [
  ⟨some 19, .mv (.t 1), none⟩,
  ⟨some 20, .faddr 0 (.t 2), none⟩,
  ⟨some 21, .load false 1 (.t 20), none⟩,
  ⟨some 22, .bin .eql (.t 19) (.t 21), none⟩]
abbrev r23_6 : List CO := [
  ⟨some 23, .load true 70 (.t 2), none⟩,
  ⟨none, .store 70 (.t 4) (.t 23), none⟩,
  ⟨some 5, .mv (.c (.p (.s (.slice none 0 0)))), none⟩,
  ⟨some 6, .mv (.c (.p (.s (.int .i64 0)))), none⟩]
abbrev r23_7 : List CO := [
  ⟨some 24, .faddr 2 (.t 2), none⟩,
  ⟨some 25, .load false 1 (.t 24), none⟩,
  ⟨some 26, .bin .eql (.t 25) (.c (.p (.s (.int .i64 65536)))), none⟩]
abbrev r23_8 : List CO := [
  ⟨some 27, .load true 70 (.t 2), none⟩,
  ⟨none, .store 70 (.t 4) (.t 27), none⟩,
  ⟨some 5, .mv (.c (.p (.s (.slice none 0 0)))), none⟩,
  ⟨some 6, .mv (.c (.p (.s (.int .i64 6)))), none⟩]
abbrev r23_9 : List CO := [
  ⟨some 28, .mv (.t 1), none⟩,
  ⟨some 29, .faddr 0 (.t 2), none⟩,
  ⟨none, .store 1 (.t 29) (.t 28), none⟩]
abbrev r23_10 : List CO := [
  ⟨some 30, .faddr 2 (.t 2), none⟩,
  ⟨some 31, .load false 1 (.t 30), none⟩,
  ⟨some 32, .bin .add (.t 31) (.c (.p (.s (.int .i64 1)))), none⟩,
  ⟨some 33, .faddr 2 (.t 2), none⟩,
  ⟨none, .store 1 (.t 33) (.t 32), none⟩]
abbrev r23_11 : List CO := [
  ⟨some 34, .load true 70 (.t 2), none⟩,
  ⟨some 35, .mv (.t 1), none⟩,
  ⟨some 36, .build ([.s (.int .i64 0), .s (.int .i64 0), .s (.int .i64 0), .s (.int .u8 0), .s (.int .u8 0), .s (.int .u8 0), .s (.int .u8 0), .s (.int .u8 0), .s (.int .u8 0), .s (.int .u8 0), .s (.int .u8 0), .s (.int .u8 0), .s (.int .u8 0), .s (.int .u8 0), .s (.int .u8 0), .s (.int .u8 0), .s (.int .u8 0), .s (.int .u8 0), .s (.int .u8 0), .s (.int .u8 0), .s (.int .u8 0), .s (.int .u8 0), .s (.int .u8 0), .s (.int .u8 0), .s (.int .u8 0), .s (.int .u8 0), .s (.int .u8 0), .s (.int .u8 0), .s (.int .u8 0), .s (.int .u8 0), .s (.int .u8 0), .s (.int .u8 0), .s (.int .u8 0), .s (.int .u8 0), .s (.int .u8 0), .s (.slice none 0 0)]) [(0, 1, .c (.p (.s (.int .i64 1)))), (1, 1, .t 35)], none⟩,
  ⟨some 37, .bslice 36 1 ([.s (.int .i64 0), .s (.int .i64 0), .s (.int .i64 0), .s (.int .u8 0), .s (.int .u8 0), .s (.int .u8 0), .s (.int .u8 0), .s (.int .u8 0), .s (.int .u8 0), .s (.int .u8 0), .s (.int .u8 0), .s (.int .u8 0), .s (.int .u8 0), .s (.int .u8 0), .s (.int .u8 0), .s (.int .u8 0), .s (.int .u8 0), .s (.int .u8 0), .s (.int .u8 0), .s (.int .u8 0), .s (.int .u8 0), .s (.int .u8 0), .s (.int .u8 0), .s (.int .u8 0), .s (.int .u8 0), .s (.int .u8 0), .s (.int .u8 0), .s (.int .u8 0), .s (.int .u8 0), .s (.int .u8 0), .s (.int .u8 0), .s (.int .u8 0), .s (.int .u8 0), .s (.int .u8 0), .s (.int .u8 0), .s (.slice none 0 0)]) [(0, .t 36)], none⟩,
  ⟨none, .store 70 (.t 4) (.t 34), none⟩,
  ⟨some 5, .mv (.t 37), none⟩,
  ⟨some 6, .mv (.c (.p (.s (.int .i64 0)))), none⟩]
abbrev c23 : CC := .seq (.reg r23_0) (.rest [1, 2, 4] (.seq (.seq (.reg r23_1) (.rest [1, 2, 4, 12] (.cond (.t 12) (.seq (.reg r23_2) (.rest [4, 5, 6] (.ret))) (.skip)))) (.rest [1, 2, 4] (.seq (.seq (.reg r23_3) (.cond (.t 16) (.reg r23_4) (.skip))) (.rest [1, 2, 4] (.seq (.seq (.reg r23_5) (.rest [1, 2, 4, 22] (.cond (.t 22) (.seq (.reg r23_6) (.rest [4, 5, 6] (.ret))) (.skip)))) (.rest [1, 2, 4] (.seq (.seq (.reg r23_7) (.cond (.t 26) (.seq (.reg r23_8) (.rest [4, 5, 6] (.ret))) (.skip))) (.rest [1, 2, 4] (.seq (.reg r23_9) (.seq (.reg r23_10) (.rest [1, 2, 4] (.seq (.reg r23_11) (.rest [4, 5, 6] (.ret)))))))))))))))
theorem F23 : Fun Try.prog 23 38 c23 [.cell 4 true 70, .tmp 5, .tmp 6] 2 := ⟨⟨Try.f23, _, Try.func23, rfl, by kernel_rfl, Try.ntmps23, by kernel_rfl, by kernel_rfl⟩, by decide⟩

/-- linnet/linnetref16.Forward -/
abbrev r24_0 : List CO := [
  ⟨some 3, .box (.t 0), none⟩,
  ⟨some 5, .box (.t 2), none⟩,
  ⟨some 6, .alloc ([.s (.int .i64 0), .s (.int .i64 0), .s (.int .i64 0), .s (.int .u8 0), .s (.int .u8 0), .s (.int .u8 0), .s (.int .u8 0), .s (.int .u8 0), .s (.int .u8 0), .s (.int .u8 0), .s (.int .u8 0), .s (.int .u8 0), .s (.int .u8 0), .s (.int .u8 0), .s (.int .u8 0), .s (.int .u8 0), .s (.int .u8 0), .s (.int .u8 0), .s (.int .u8 0), .s (.int .u8 0), .s (.int .u8 0), .s (.int .u8 0), .s (.int .u8 0), .s (.int .u8 0), .s (.int .u8 0), .s (.int .u8 0), .s (.int .u8 0), .s (.int .u8 0), .s (.int .u8 0), .s (.int .u8 0), .s (.int .u8 0), .s (.int .u8 0), .s (.int .u8 0), .s (.int .u8 0), .s (.int .u8 0), .s (.int .u8 0), .s (.int .u8 0), .s (.int .u8 0), .s (.int .u8 0), .s (.int .u8 0), .s (.int .u8 0), .s (.int .u8 0), .s (.int .u8 0), .s (.int .u8 0), .s (.int .u8 0), .s (.int .u8 0), .s (.int .u8 0), .s (.int .u8 0), .s (.int .u8 0), .s (.int .u8 0), .s (.int .u8 0), .s (.int .u8 0), .s (.int .u8 0), .s (.int .u8 0), .s (.int .u8 0), .s (.int .u8 0), .s (.int .u8 0), .s (.int .u8 0), .s (.int .u8 0), .s (.int .u8 0), .s (.int .u8 0), .s (.int .u8 0), .s (.int .u8 0), .s (.int .u8 0), .s (.int .u8 0), .s (.int .u8 0), .s (.int .u8 0), .s (.bool false), .s (.bool false), .s (.int .i64 0)]), none⟩,
  ⟨some 7, .mv (.c (.p (.s (.slice none 0 0)))), none⟩,
  ⟨some 8, .mv (.c (.p (.s (.int .i64 0)))), none⟩]
abbrev r24_1 : List CO := [
  ⟨some 9, .mv (.t 1), none⟩,
  ⟨some 10, .un .not (.t 9), none⟩]
abbrev r24_2 : List CO := [
  ⟨some 11, .build (List.replicate 32 (.s (.int .u8 0))) [], none⟩,
  ⟨none, .store 32 (.t 5) (.t 11), none⟩]
abbrev r24_3 : List CO := [
  ⟨some 12, .faddr 67 (.t 3), none⟩,
  ⟨some 13, .load false 1 (.t 12), none⟩,
  ⟨some 14, .mv (.t 1), none⟩,
  ⟨some 15, .beq false (.t 13) (.t 14), none⟩,
  ⟨some 16, .mv (.t 15), none⟩,
  ⟨some 17, .faddr 3 (.t 3), some (16, true)⟩,
  ⟨some 18, .load true 32 (.t 17), some (16, true)⟩,
  ⟨some 19, .load true 32 (.t 5), some (16, true)⟩,
  ⟨some 20, .eqs false (List.replicate 32 0) (.t 18) (.t 19), some (16, true)⟩,
  ⟨some 21, .pick (.t 16) (.t 20) (.c (.p (.s (.bool false)))), none⟩]
abbrev r24_4 : List CO := [
  ⟨some 22, .load true 70 (.t 3), none⟩,
  ⟨none, .store 70 (.t 6) (.t 22), none⟩,
  ⟨some 7, .mv (.c (.p (.s (.slice none 0 0)))), none⟩,
  ⟨some 8, .mv (.c (.p (.s (.int .i64 0)))), none⟩]
abbrev r24_5 : List CO := [
  ⟨some 23, .faddr 69 (.t 3), none⟩,
  ⟨some 24, .load false 1 (.t 23), none⟩,
  ⟨some 25, .bin .eql (.t 24) (.c (.p (.s (.int .i64 65536)))), none⟩]
abbrev r24_6 : List CO := [
  ⟨some 26, .load true 70 (.t 3), none⟩,
  ⟨none, .store 70 (.t 6) (.t 26), none⟩,
  ⟨some 7, .mv (.c (.p (.s (.slice none 0 0)))), none⟩,
  ⟨some 8, .mv (.c (.p (.s (.int .i64 6)))), none⟩]
abbrev r24_7 : List CO := [
  ⟨some 27, .mv (.t 1), none⟩,
  ⟨some 28, .faddr 67 (.t 3), none⟩,
  ⟨none, .store 1 (.t 28) (.t 27), none⟩]
abbrev r24_8 : List CO := [
  ⟨some 29, .load true 32 (.t 5), none⟩,
  ⟨some 30, .faddr 3 (.t 3), none⟩,
  ⟨none, .store 32 (.t 30) (.t 29), none⟩]
abbrev r24_9 : List CO := [
  ⟨some 31, .faddr 69 (.t 3), none⟩,
  ⟨some 32, .load false 1 (.t 31), none⟩,
  ⟨some 33, .bin .add (.t 32) (.c (.p (.s (.int .i64 1)))), none⟩,
  ⟨some 34, .faddr 69 (.t 3), none⟩,
  ⟨none, .store 1 (.t 34) (.t 33), none⟩]
abbrev r24_10 : List CO := [
  ⟨some 35, .mv (.t 1), none⟩]
abbrev r24_11 : List CO := [
  ⟨some 36, .load true 70 (.t 3), none⟩,
  ⟨some 37, .load true 32 (.t 5), none⟩,
  ⟨some 38, .build ([.s (.int .i64 0), .s (.int .i64 0), .s (.int .i64 0), .s (.int .u8 0), .s (.int .u8 0), .s (.int .u8 0), .s (.int .u8 0), .s (.int .u8 0), .s (.int .u8 0), .s (.int .u8 0), .s (.int .u8 0), .s (.int .u8 0), .s (.int .u8 0), .s (.int .u8 0), .s (.int .u8 0), .s (.int .u8 0), .s (.int .u8 0), .s (.int .u8 0), .s (.int .u8 0), .s (.int .u8 0), .s (.int .u8 0), .s (.int .u8 0), .s (.int .u8 0), .s (.int .u8 0), .s (.int .u8 0), .s (.int .u8 0), .s (.int .u8 0), .s (.int .u8 0), .s (.int .u8 0), .s (.int .u8 0), .s (.int .u8 0), .s (.int .u8 0), .s (.int .u8 0), .s (.int .u8 0), .s (.int .u8 0), .s (.slice none 0 0)]) [(0, 1, .c (.p (.s (.int .i64 2)))), (2, 1, .c (.p (.s (.int .i64 253)))), (3, 32, .t 37)], none⟩,
  ⟨some 39, .bslice 36 1 ([.s (.int .i64 0), .s (.int .i64 0), .s (.int .i64 0), .s (.int .u8 0), .s (.int .u8 0), .s (.int .u8 0), .s (.int .u8 0), .s (.int .u8 0), .s (.int .u8 0), .s (.int .u8 0), .s (.int .u8 0), .s (.int .u8 0), .s (.int .u8 0), .s (.int .u8 0), .s (.int .u8 0), .s (.int .u8 0), .s (.int .u8 0), .s (.int .u8 0), .s (.int .u8 0), .s (.int .u8 0), .s (.int .u8 0), .s (.int .u8 0), .s (.int .u8 0), .s (.int .u8 0), .s (.int .u8 0), .s (.int .u8 0), .s (.int .u8 0), .s (.int .u8 0), .s (.int .u8 0), .s (.int .u8 0), .s (.int .u8 0), .s (.int .u8 0), .s (.int .u8 0), .s (.int .u8 0), .s (.int .u8 0), .s (.slice none 0 0)]) [(0, .t 38)], none⟩,
  ⟨none, .store 70 (.t 6) (.t 36), none⟩,
  ⟨some 7, .mv (.t 39), none⟩,
  ⟨some 8, .mv (.c (.p (.s (.int .i64 0)))), none⟩]
abbrev b24_11 : List (List Nat) := [[], [], [1], [2], [0, 0], [3, 4, 0, 1, 2, 3, 4], [5, 0, 1, 2, 3, 4, 5]]
abbrev r24_12 : List CO := [
  ⟨some 40, .load true 70 (.t 3), none⟩,
  ⟨some 41, .build ([.s (.int .i64 0), .s (.int .i64 0), .s (.int .i64 0), .s (.int .u8 0), .s (.int .u8 0), .s (.int .u8 0), .s (.int .u8 0), .s (.int .u8 0), .s (.int .u8 0), .s (.int .u8 0), .s (.int .u8 0), .s (.int .u8 0), .s (.int .u8 0), .s (.int .u8 0), .s (.int .u8 0), .s (.int .u8 0), .s (.int .u8 0), .s (.int .u8 0), .s (.int .u8 0), .s (.int .u8 0), .s (.int .u8 0), .s (.int .u8 0), .s (.int .u8 0), .s (.int .u8 0), .s (.int .u8 0), .s (.int .u8 0), .s (.int .u8 0), .s (.int .u8 0), .s (.int .u8 0), .s (.int .u8 0), .s (.int .u8 0), .s (.int .u8 0), .s (.int .u8 0), .s (.int .u8 0), .s (.int .u8 0), .s (.slice none 0 0)]) [(0, 1, .c (.p (.s (.int .i64 2)))), (2, 1, .c (.p (.s (.int .i64 254))))], none⟩,
  ⟨some 42, .bslice 36 1 ([.s (.int .i64 0), .s (.int .i64 0), .s (.int .i64 0), .s (.int .u8 0), .s (.int .u8 0), .s (.int .u8 0), .s (.int .u8 0), .s (.int .u8 0), .s (.int .u8 0), .s (.int .u8 0), .s (.int .u8 0), .s (.int .u8 0), .s (.int .u8 0), .s (.int .u8 0), .s (.int .u8 0), .s (.int .u8 0), .s (.int .u8 0), .s (.int .u8 0), .s (.int .u8 0), .s (.int .u8 0), .s (.int .u8 0), .s (.int .u8 0), .s (.int .u8 0), .s (.int .u8 0), .s (.int .u8 0), .s (.int .u8 0), .s (.int .u8 0), .s (.int .u8 0), .s (.int .u8 0), .s (.int .u8 0), .s (.int .u8 0), .s (.int .u8 0), .s (.int .u8 0), .s (.int .u8 0), .s (.int .u8 0), .s (.slice none 0 0)]) [(0, .t 41)], none⟩,
  ⟨none, .store 70 (.t 6) (.t 40), none⟩,
  ⟨some 7, .mv (.t 42), none⟩,
  ⟨some 8, .mv (.c (.p (.s (.int .i64 0)))), none⟩]
abbrev c24 : CC := .seq (.reg r24_0) (.rest [1, 3, 5, 6] (.seq (.seq (.reg r24_1) (.cond (.t 10) (.reg r24_2) (.skip))) (.rest [1, 3, 5, 6] (.seq (.seq (.reg r24_3) (.rest [1, 3, 5, 6, 21] (.cond (.t 21) (.seq (.reg r24_4) (.rest [6, 7, 8] (.ret))) (.skip)))) (.rest [1, 3, 5, 6] (.seq (.seq (.reg r24_5) (.cond (.t 25) (.seq (.reg r24_6) (.rest [6, 7, 8] (.ret))) (.skip))) (.rest [1, 3, 5, 6] (.seq (.reg r24_7) (.seq (.reg r24_8) (.seq (.reg r24_9) (.rest [1, 3, 5, 6] (.seq (.seq (.reg r24_10) (.cond (.t 35) (.seq (.regd r24_11 b24_11) (.rest [6, 7, 8] (.ret))) (.skip))) (.rest [3, 6] (.seq (.reg r24_12) (.rest [6, 7, 8] (.ret))))))))))))))))
theorem F24 : Fun Try.prog 24 43 c24 [.cell 6 true 70, .tmp 7, .tmp 8] 3 := ⟨⟨Try.f24, _, Try.func24, rfl, by kernel_rfl, Try.ntmps24, by kernel_rfl, by kernel_rfl⟩, by decide⟩

/-- linnet/linnetref16.Answer -/
abbrev r25_0 : List CO := [
  ⟨some 2, .box (.t 0), none⟩,
  ⟨some 3, .box (.t 1), none⟩,
  ⟨some 4, .alloc ([.s (.int .i64 0), .s (.int .i64 0), .s (.int .i64 0), .s (.int .u8 0), .s (.int .u8 0), .s (.int .u8 0), .s (.int .u8 0), .s (.int .u8 0), .s (.int .u8 0), .s (.int .u8 0), .s (.int .u8 0), .s (.int .u8 0), .s (.int .u8 0), .s (.int .u8 0), .s (.int .u8 0), .s (.int .u8 0), .s (.int .u8 0), .s (.int .u8 0), .s (.int .u8 0), .s (.int .u8 0), .s (.int .u8 0), .s (.int .u8 0), .s (.int .u8 0), .s (.int .u8 0), .s (.int .u8 0), .s (.int .u8 0), .s (.int .u8 0), .s (.int .u8 0), .s (.int .u8 0), .s (.int .u8 0), .s (.int .u8 0), .s (.int .u8 0), .s (.int .u8 0), .s (.int .u8 0), .s (.int .u8 0), .s (.int .u8 0), .s (.int .u8 0), .s (.int .u8 0), .s (.int .u8 0), .s (.int .u8 0), .s (.int .u8 0), .s (.int .u8 0), .s (.int .u8 0), .s (.int .u8 0), .s (.int .u8 0), .s (.int .u8 0), .s (.int .u8 0), .s (.int .u8 0), .s (.int .u8 0), .s (.int .u8 0), .s (.int .u8 0), .s (.int .u8 0), .s (.int .u8 0), .s (.int .u8 0), .s (.int .u8 0), .s (.int .u8 0), .s (.int .u8 0), .s (.int .u8 0), .s (.int .u8 0), .s (.int .u8 0), .s (.int .u8 0), .s (.int .u8 0), .s (.int .u8 0), .s (.int .u8 0), .s (.int .u8 0), .s (.int .u8 0), .s (.int .u8 0), .s (.bool false), .s (.bool false), .s (.int .i64 0)]), none⟩,
  ⟨some 5, .mv (.c (.p (.s (.int .i64 0)))), none⟩]
abbrev r25_1 : List CO := [
  ⟨some 6, .faddr 0 (.t 3), none⟩,
  ⟨some 7, .load false 1 (.t 6), none⟩,
  ⟨some 8, .bin .eql (.t 7) (.c (.p (.s (.int .i64 1)))), none⟩,
  ⟨some 9, .mv (.t 8), none⟩,
  ⟨some 10, .faddr 1 (.t 3), some (9, true)⟩,
  ⟨some 11, .load false 1 (.t 10), some (9, true)⟩,
  ⟨some 12, .call (.c (.fn (.func 30) [] [])) [.t 11], some (9, true)⟩,
  ⟨some 13, .un .not (.t 12), some (9, true)⟩,
  ⟨some 14, .pick (.t 9) (.t 13) (.c (.p (.s (.bool false)))), none⟩]
abbrev r25_2 : List CO := [
  ⟨some 15, .faddr 2 (.t 2), none⟩,
  ⟨some 16, .load false 1 (.t 15), none⟩,
  ⟨some 17, .bin .eql (.t 16) (.c (.p (.s (.int .i64 0)))), none⟩]
abbrev r25_3 : List CO := [
  ⟨some 18, .load true 70 (.t 2), none⟩,
  ⟨none, .store 70 (.t 4) (.t 18), none⟩,
  ⟨some 5, .mv (.c (.p (.s (.int .i64 5)))), none⟩]
abbrev r25_4 : List CO := [
  ⟨some 19, .faddr 2 (.t 2), none⟩,
  ⟨some 20, .load false 1 (.t 19), none⟩,
  ⟨some 21, .bin .sub (.t 20) (.c (.p (.s (.int .i64 1)))), none⟩,
  ⟨some 22, .faddr 2 (.t 2), none⟩,
  ⟨none, .store 1 (.t 22) (.t 21), none⟩]
abbrev r25_5 : List CO := [
  ⟨some 23, .faddr 1 (.t 3), none⟩,
  ⟨some 24, .load false 1 (.t 23), none⟩,
  ⟨some 25, .bin .sub (.t 24) (.c (.p (.s (.int .i64 4)))), none⟩,
  ⟨some 26, .faddr 1 (.t 2), none⟩,
  ⟨none, .store 1 (.t 26) (.t 25), none⟩]
abbrev r25_6 : List CO := [
  ⟨some 27, .load true 70 (.t 2), none⟩,
  ⟨none, .store 70 (.t 4) (.t 27), none⟩,
  ⟨some 5, .mv (.c (.p (.s (.int .i64 0)))), none⟩]
abbrev r25_7 : List CO := [
  ⟨some 28, .faddr 0 (.t 3), none⟩,
  ⟨some 29, .load false 1 (.t 28), none⟩,
  ⟨some 30, .bin .neq (.t 29) (.c (.p (.s (.int .i64 2)))), none⟩,
  ⟨some 31, .mv (.t 30), none⟩,
  ⟨some 32, .faddr 2 (.t 3), some (31, false)⟩,
  ⟨some 33, .load false 1 (.t 32), some (31, false)⟩,
  ⟨some 34, .bin .gtr (.t 33) (.c (.p (.s (.int .i64 252)))), some (31, false)⟩,
  ⟨some 35, .pick (.t 31) (.c (.p (.s (.bool true)))) (.t 34), none⟩,
  ⟨some 36, .mv (.t 35), none⟩,
  ⟨some 37, .faddr 69 (.t 2), some (36, false)⟩,
  ⟨some 38, .load false 1 (.t 37), some (36, false)⟩,
  ⟨some 39, .bin .eql (.t 38) (.c (.p (.s (.int .i64 0)))), some (36, false)⟩,
  ⟨some 40, .pick (.t 36) (.c (.p (.s (.bool true)))) (.t 39), none⟩]
abbrev r25_8 : List CO := [
  ⟨some 41, .load true 70 (.t 2), none⟩,
  ⟨none, .store 70 (.t 4) (.t 41), none⟩,
  ⟨some 5, .mv (.c (.p (.s (.int .i64 5)))), none⟩]
abbrev r25_9 : List CO := [
  ⟨some 42, .faddr 69 (.t 2), none⟩,
  ⟨some 43, .load false 1 (.t 42), none⟩,
  ⟨some 44, .bin .sub (.t 43) (.c (.p (.s (.int .i64 1)))), none⟩,
  ⟨some 45, .faddr 69 (.t 2), none⟩,
  ⟨none, .store 1 (.t 45) (.t 44), none⟩]
abbrev r25_10 : List CO := [
  ⟨some 46, .faddr 69 (.t 2), none⟩,
  ⟨some 47, .load false 1 (.t 46), none⟩,
  ⟨some 48, .bin .gtr (.t 47) (.c (.p (.s (.int .i64 0)))), none⟩]
abbrev r25_11 : List CO := [
  ⟨some 49, .load true 70 (.t 2), none⟩,
  ⟨none, .store 70 (.t 4) (.t 49), none⟩,
  ⟨some 5, .mv (.c (.p (.s (.int .i64 0)))), none⟩]
abbrev r25_12 : List CO := [
  ⟨some 50, .faddr 2 (.t 3), none⟩,
  ⟨some 51, .load false 1 (.t 50), none⟩,
  ⟨some 52, .bin .eql (.t 51) (.c (.p (.s (.int .i64 251)))), none⟩,
  ⟨some 53, .mv (.t 52), none⟩,
  ⟨some 54, .faddr 67 (.t 2), some (53, true)⟩,
  ⟨some 55, .load false 1 (.t 54), some (53, true)⟩,
  ⟨some 56, .pick (.t 53) (.t 55) (.c (.p (.s (.bool false)))), none⟩]
abbrev r25_13 : List CO := [
  ⟨some 57, .faddr 68 (.t 2), none⟩,
  ⟨none, .store 1 (.t 57) (.c (.p (.s (.bool true)))), none⟩]
abbrev r25_14 : List CO := [
  ⟨some 58, .faddr 3 (.t 2), none⟩,
  ⟨some 59, .load true 32 (.t 58), none⟩,
  ⟨some 60, .faddr 35 (.t 2), none⟩,
  ⟨none, .store 32 (.t 60) (.t 59), none⟩]
abbrev r25_15 : List CO := [
  ⟨some 61, .faddr 68 (.t 2), none⟩,
  ⟨none, .store 1 (.t 61) (.c (.p (.s (.bool false)))), none⟩]
abbrev r25_16 : List CO := [
  ⟨some 62, .build (List.replicate 32 (.s (.int .u8 0))) [], none⟩,
  ⟨some 63, .faddr 35 (.t 2), none⟩,
  ⟨none, .store 32 (.t 63) (.t 62), none⟩]
abbrev r25_17 : List CO := [
  ⟨some 64, .load true 70 (.t 2), none⟩,
  ⟨none, .store 70 (.t 4) (.t 64), none⟩,
  ⟨some 5, .mv (.c (.p (.s (.int .i64 0)))), none⟩]
abbrev c25 : CC := .seq (.reg r25_0) (.rest [2, 3, 4] (.seq (.seq (.reg r25_1) (.rest [2, 3, 4, 14] (.cond (.t 14) (.seq (.seq (.reg r25_2) (.cond (.t 17) (.seq (.reg r25_3) (.ret)) (.skip))) (.rest [2, 3, 4] (.seq (.reg r25_4) (.rest [2, 3, 4] (.seq (.reg r25_5) (.rest [2, 4] (.seq (.reg r25_6) (.ret)))))))) (.skip)))) (.rest [2, 3, 4] (.seq (.seq (.reg r25_7) (.rest [2, 3, 4, 40] (.cond (.t 40) (.seq (.reg r25_8) (.ret)) (.skip)))) (.rest [2, 3, 4] (.seq (.reg r25_9) (.rest [2, 3, 4] (.seq (.seq (.reg r25_10) (.cond (.t 48) (.seq (.reg r25_11) (.ret)) (.skip))) (.rest [2, 3, 4] (.seq (.seq (.reg r25_12) (.rest [2, 4, 56] (.cond (.t 56) (.seq (.reg r25_13) (.reg r25_14)) (.seq (.reg r25_15) (.reg r25_16))))) (.rest [2, 4] (.seq (.reg r25_17) (.ret)))))))))))))
theorem F25 : Fun Try.prog 25 65 c25 [.cell 4 true 70, .tmp 5] 2 := ⟨⟨Try.f25, _, Try.func25, rfl, by kernel_rfl, Try.ntmps25, by kernel_rfl, by kernel_rfl⟩, by decide⟩

/-- linnet/linnetlaw16.ask -/
abbrev r26_0 : List CO := [
  ⟨some 2, .box (.t 0), none⟩,
  ⟨some 3, .box (.t 1), none⟩,
  ⟨some 4, .alloc ([.s (.int .i64 0), .s (.int .i64 0), .s (.int .i64 0), .s (.int .u8 0), .s (.int .u8 0), .s (.int .u8 0), .s (.int .u8 0), .s (.int .u8 0), .s (.int .u8 0), .s (.int .u8 0), .s (.int .u8 0), .s (.int .u8 0), .s (.int .u8 0), .s (.int .u8 0), .s (.int .u8 0), .s (.int .u8 0), .s (.int .u8 0), .s (.int .u8 0), .s (.int .u8 0), .s (.int .u8 0), .s (.int .u8 0), .s (.int .u8 0), .s (.int .u8 0), .s (.int .u8 0), .s (.int .u8 0), .s (.int .u8 0), .s (.int .u8 0), .s (.int .u8 0), .s (.int .u8 0), .s (.int .u8 0), .s (.int .u8 0), .s (.int .u8 0), .s (.int .u8 0), .s (.int .u8 0), .s (.int .u8 0), .s (.int .u8 0), .s (.int .u8 0), .s (.int .u8 0), .s (.int .u8 0), .s (.int .u8 0), .s (.int .u8 0), .s (.int .u8 0), .s (.int .u8 0), .s (.int .u8 0), .s (.int .u8 0), .s (.int .u8 0), .s (.int .u8 0), .s (.int .u8 0), .s (.int .u8 0), .s (.int .u8 0), .s (.int .u8 0), .s (.int .u8 0), .s (.int .u8 0), .s (.int .u8 0), .s (.int .u8 0), .s (.int .u8 0), .s (.int .u8 0), .s (.int .u8 0), .s (.int .u8 0), .s (.int .u8 0), .s (.int .u8 0), .s (.int .u8 0), .s (.int .u8 0), .s (.int .u8 0), .s (.int .u8 0), .s (.int .u8 0), .s (.int .u8 0), .s (.bool false), .s (.bool false), .s (.int .i64 0)]), none⟩,
  ⟨some 5, .mv (.c (.p (.s (.slice none 0 0)))), none⟩,
  ⟨some 6, .mv (.c (.p (.s (.int .i64 0)))), none⟩]
abbrev r26_1 : List CO := [
  ⟨some 7, .faddr 1 (.t 3), none⟩,
  ⟨some 8, .load false 1 (.t 7), none⟩]
abbrev r26_2 : List CO := [
  ⟨some 9, .load true 70 (.t 2), none⟩,
  ⟨some 10, .faddr 2 (.t 3), none⟩,
  ⟨some 11, .load false 1 (.t 10), none⟩,
  ⟨some 12, .faddr 3 (.t 3), none⟩,
  ⟨some 13, .load true 32 (.t 12), none⟩,
  ⟨some 14, .call (.c (.fn (.func 21) [] [])) [.t 9, .t 11, .t 13], none⟩,
  ⟨some 15, .extract 0 (.t 14), none⟩,
  ⟨some 16, .extract 1 (.t 14), none⟩,
  ⟨some 17, .extract 2 (.t 14), none⟩,
  ⟨none, .store 70 (.t 4) (.t 15), none⟩,
  ⟨some 5, .mv (.t 16), none⟩,
  ⟨some 6, .mv (.t 17), none⟩]
abbrev r26_3 : List CO := [
  ⟨some 18, .load true 70 (.t 2), none⟩,
  ⟨some 19, .faddr 0 (.t 3), none⟩,
  ⟨some 20, .load false 1 (.t 19), none⟩,
  ⟨some 21, .call (.c (.fn (.func 20) [] [])) [.t 18, .t 20], none⟩,
  ⟨some 22, .extract 0 (.t 21), none⟩,
  ⟨some 23, .extract 1 (.t 21), none⟩,
  ⟨some 24, .extract 2 (.t 21), none⟩,
  ⟨none, .store 70 (.t 4) (.t 22), none⟩,
  ⟨some 5, .mv (.t 23), none⟩,
  ⟨some 6, .mv (.t 24), none⟩]
abbrev c26 : CC := .seq (.reg r26_0) (.rest [2, 3, 4] (.seq (.seq (.reg r26_1) (.cond (.t 8) (.seq (.reg r26_2) (.rest [4, 5, 6] (.ret))) (.skip))) (.rest [2, 3, 4] (.seq (.reg r26_3) (.rest [4, 5, 6] (.ret))))))
theorem F26 : Fun Try.prog 26 25 c26 [.cell 4 true 70, .tmp 5, .tmp 6] 2 := ⟨⟨Try.f26, _, Try.func26, rfl, by kernel_rfl, Try.ntmps26, by kernel_rfl, by kernel_rfl⟩, by decide⟩

/-- linnet/mode.forward -/
abbrev r27_0 : List CO := [
  ⟨some 3, .box (.t 1), none⟩,
  ⟨some 4, .mv (.c (.p (.s (.slice none 0 0)))), none⟩]
abbrev r27_1 : List CO := [
  ⟨some 5, .mv (.t 0), none⟩,
  ⟨some 6, .load true 32 (.t 3), none⟩,
  ⟨some 7, .build ([.s (.int .i64 0), .s (.int .i64 0), .s (.int .i64 0), .s (.int .u8 0), .s (.int .u8 0), .s (.int .u8 0), .s (.int .u8 0), .s (.int .u8 0), .s (.int .u8 0), .s (.int .u8 0), .s (.int .u8 0), .s (.int .u8 0), .s (.int .u8 0), .s (.int .u8 0), .s (.int .u8 0), .s (.int .u8 0), .s (.int .u8 0), .s (.int .u8 0), .s (.int .u8 0), .s (.int .u8 0), .s (.int .u8 0), .s (.int .u8 0), .s (.int .u8 0), .s (.int .u8 0), .s (.int .u8 0), .s (.int .u8 0), .s (.int .u8 0), .s (.int .u8 0), .s (.int .u8 0), .s (.int .u8 0), .s (.int .u8 0), .s (.int .u8 0), .s (.int .u8 0), .s (.int .u8 0), .s (.int .u8 0), .s (.slice none 0 0)]) [(0, 1, .c (.p (.s (.int .i64 2)))), (2, 1, .t 5), (3, 32, .t 6)], none⟩,
  ⟨some 8, .bslice 36 1 ([.s (.int .i64 0), .s (.int .i64 0), .s (.int .i64 0), .s (.int .u8 0), .s (.int .u8 0), .s (.int .u8 0), .s (.int .u8 0), .s (.int .u8 0), .s (.int .u8 0), .s (.int .u8 0), .s (.int .u8 0), .s (.int .u8 0), .s (.int .u8 0), .s (.int .u8 0), .s (.int .u8 0), .s (.int .u8 0), .s (.int .u8 0), .s (.int .u8 0), .s (.int .u8 0), .s (.int .u8 0), .s (.int .u8 0), .s (.int .u8 0), .s (.int .u8 0), .s (.int .u8 0), .s (.int .u8 0), .s (.int .u8 0), .s (.int .u8 0), .s (.int .u8 0), .s (.int .u8 0), .s (.int .u8 0), .s (.int .u8 0), .s (.int .u8 0), .s (.int .u8 0), .s (.int .u8 0), .s (.int .u8 0), .s (.slice none 0 0)]) [(0, .t 7)], none⟩,
  ⟨some 4, .mv (.t 8), none⟩]
abbrev c27 : CC := .seq (.reg r27_0) (.seq (.reg r27_1) (.rest [4] (.ret)))
theorem F27 : Fun Try.prog 27 9 c27 [.tmp 4] 2 := ⟨⟨Try.f27, _, Try.func27, rfl, by kernel_rfl, Try.ntmps27, by kernel_rfl, by kernel_rfl⟩, by decide⟩

/-- linnet/mode.bits -/
abbrev r28_0 : List CO := [
  ⟨some 2, .mv (.c (.p (.s (.bool false)))), none⟩]
abbrev r28_1 : List CO := [
  ⟨some 3, .mv (.t 0), none⟩,
  ⟨some 4, .bin .andNot (.t 3) (.c (.p (.s (.int .i64 27)))), none⟩,
  ⟨some 5, .bin .eql (.t 4) (.c (.p (.s (.int .i64 0)))), none⟩,
  ⟨some 2, .mv (.t 5), none⟩]
abbrev c28 : CC := .seq (.reg r28_0) (.seq (.reg r28_1) (.rest [2] (.ret)))
theorem F28 : Fun Try.prog 28 6 c28 [.tmp 2] 1 := ⟨⟨Try.f28, _, Try.func28, rfl, by kernel_rfl, Try.ntmps28, by kernel_rfl, by kernel_rfl⟩, by decide⟩

/-- linnet/mode.keys -/
abbrev r29_0 : List CO := [
  ⟨some 3, .box (.t 1), none⟩,
  ⟨some 4, .mv (.c (.p (.s (.bool false)))), none⟩]
abbrev r29_1 : List CO := [
  ⟨some 5, .mv (.t 0), none⟩,
  ⟨some 6, .mv (.t 5), none⟩,
  ⟨some 7, .load true 32 (.t 3), some (6, false)⟩,
  ⟨some 8, .build (List.replicate 32 (.s (.int .u8 0))) [], some (6, false)⟩,
  ⟨some 9, .eqs false (List.replicate 32 0) (.t 7) (.t 8), some (6, false)⟩,
  ⟨some 10, .pick (.t 6) (.c (.p (.s (.bool true)))) (.t 9), none⟩,
  ⟨some 4, .mv (.t 10), none⟩]
abbrev c29 : CC := .seq (.reg r29_0) (.seq (.reg r29_1) (.rest [4] (.ret)))
theorem F29 : Fun Try.prog 29 11 c29 [.tmp 4] 2 := ⟨⟨Try.f29, _, Try.func29, rfl, by kernel_rfl, Try.ntmps29, by kernel_rfl, by kernel_rfl⟩, by decide⟩

/-- linnet/linnetref16.bits -/
abbrev r30_0 : List CO := [
  ⟨some 2, .mv (.c (.p (.s (.bool false)))), none⟩]
abbrev r30_1 : List CO := [
  ⟨some 3, .mv (.t 0), none⟩,
  ⟨some 4, .bin .geq (.t 3) (.c (.p (.s (.int .i64 0)))), none⟩,
  ⟨some 5, .mv (.t 4), none⟩,
  ⟨some 6, .mv (.t 0), some (5, true)⟩,
  ⟨some 7, .bin .lss (.t 6) (.c (.p (.s (.int .i64 32)))), some (5, true)⟩,
  ⟨some 8, .pick (.t 5) (.t 7) (.c (.p (.s (.bool false)))), none⟩,
  ⟨some 9, .mv (.t 8), none⟩,
  ⟨some 10, .mv (.t 0), some (9, true)⟩,
  ⟨some 11, .bin .quo (.t 10) (.c (.p (.s (.int .i64 4)))), some (9, true)⟩,
  ⟨some 12, .bin .rem (.t 11) (.c (.p (.s (.int .i64 2)))), some (9, true)⟩,
  ⟨some 13, .bin .eql (.t 12) (.c (.p (.s (.int .i64 0)))), some (9, true)⟩,
  ⟨some 14, .pick (.t 9) (.t 13) (.c (.p (.s (.bool false)))), none⟩,
  ⟨some 2, .mv (.t 14), none⟩]
abbrev c30 : CC := .seq (.reg r30_0) (.seq (.reg r30_1) (.rest [2] (.ret)))
theorem F30 : Fun Try.prog 30 15 c30 [.tmp 2] 1 := ⟨⟨Try.f30, _, Try.func30, rfl, by kernel_rfl, Try.ntmps30, by kernel_rfl, by kernel_rfl⟩, by decide⟩

/-- linnet/linnetref07.Put -/
abbrev r31_0 : List CO := [
  ⟨some 2, .mv (.c (.p (.s (.slice none 0 0)))), none⟩,
  ⟨some 3, .mv (.c (.p (.s (.bool false)))), none⟩]
abbrev r31_1 : List CO := [
  ⟨some 4, .mv (.c (.p (.s (.slice none 0 0)))), none⟩]
abbrev r31_2 : List CO := [
  ⟨some 5, .mv (.c (.p (.s (.int .i64 0)))), none⟩]
abbrev r31_3 : List CO := [
  ⟨some 8, .mv (.t 5), none⟩,
  ⟨some 9, .mv (.t 0), none⟩,
  ⟨some 10, .len (.t 9), none⟩,
  ⟨some 11, .bin .lss (.t 8) (.t 10), none⟩]
abbrev r31_5 : List CO := [
  ⟨some 14, .mv (.t 0), none⟩,
  ⟨some 15, .mv (.t 5), none⟩,
  ⟨some 16, .iaddrS 6 (.t 14) (.t 15), none⟩,
  ⟨some 17, .load true 6 (.t 16), none⟩,
  ⟨some 6, .alloc ([.s (.int .i64 0), .s (.int .i64 0), .s (.bool false), .s (.bool false), .s (.bool false), .s (.int .u8 0)]), none⟩,
  ⟨none, .store 6 (.t 6) (.t 17), none⟩]
abbrev r31_6 : List CO := [
  ⟨some 18, .load true 6 (.t 6), none⟩,
  ⟨some 19, .call (.c (.fn (.func 36) [] [])) [.t 18], none⟩,
  ⟨some 20, .un .not (.t 19), none⟩]
abbrev r31_7 : List CO := [
  ⟨some 2, .mv (.c (.p (.s (.slice none 0 0)))), none⟩,
  ⟨some 3, .mv (.c (.p (.s (.bool false)))), none⟩]
abbrev r31_8 : List CO := [
  ⟨some 21, .faddr 1 (.t 6), none⟩,
  ⟨some 22, .load false 1 (.t 21), none⟩,
  ⟨some 7, .mv (.t 22), none⟩]
abbrev r31_9 : List CO := [
  ⟨some 23, .faddr 2 (.t 6), none⟩,
  ⟨some 24, .load false 1 (.t 23), none⟩]
abbrev r31_10 : List CO := [
  ⟨some 25, .mv (.t 7), none⟩,
  ⟨some 26, .bin .add (.t 25) (.c (.p (.s (.int .i64 128)))), none⟩,
  ⟨some 7, .mv (.t 26), none⟩]
abbrev r31_11 : List CO := [
  ⟨some 27, .faddr 3 (.t 6), none⟩,
  ⟨some 28, .load false 1 (.t 27), none⟩]
abbrev r31_12 : List CO := [
  ⟨some 29, .mv (.t 7), none⟩,
  ⟨some 30, .bin .add (.t 29) (.c (.p (.s (.int .i64 64)))), none⟩,
  ⟨some 7, .mv (.t 30), none⟩]
abbrev r31_13 : List CO := [
  ⟨some 31, .faddr 4 (.t 6), none⟩,
  ⟨some 32, .load false 1 (.t 31), none⟩]
abbrev r31_14 : List CO := [
  ⟨some 33, .mv (.t 7), none⟩,
  ⟨some 34, .bin .add (.t 33) (.c (.p (.s (.int .i64 32)))), none⟩,
  ⟨some 7, .mv (.t 34), none⟩]
abbrev r31_15 : List CO := [
  ⟨some 35, .mv (.t 4), none⟩,
  ⟨some 36, .faddr 0 (.t 6), none⟩,
  ⟨some 37, .load false 1 (.t 36), none⟩,
  ⟨some 38, .toInt .u8 (.t 37), none⟩,
  ⟨some 39, .mv (.t 7), none⟩,
  ⟨some 40, .toInt .u8 (.t 39), none⟩,
  ⟨some 41, .faddr 5 (.t 6), none⟩,
  ⟨some 42, .load false 1 (.t 41), none⟩,
  ⟨some 43, .bslice 1 3 ([.s (.int .u8 0)]) [(0, .t 38), (1, .t 40), (2, .t 42)], none⟩,
  ⟨some 44, .append 1 1 ([.s (.int .u8 0)]) (.t 35) (.t 43), none⟩,
  ⟨some 4, .mv (.t 44), none⟩]
abbrev k31_1 : CC := .seq (.reg r31_5) (.rest [0, 4, 5, 6] (.seq (.seq (.reg r31_6) (.cond (.t 20) (.seq (.reg r31_7) (.ret)) (.skip))) (.rest [0, 4, 5, 6] (.seq (.reg r31_8) (.seq (.seq (.reg r31_9) (.cond (.t 24) (.reg r31_10) (.skip))) (.rest [0, 4, 5, 6, 7] (.seq (.seq (.reg r31_11) (.cond (.t 28) (.reg r31_12) (.skip))) (.rest [0, 4, 5, 6, 7] (.seq (.seq (.reg r31_13) (.cond (.t 32) (.reg r31_14) (.skip))) (.rest [0, 4, 5, 6, 7] (.reg r31_15)))))))))))
abbrev r31_4 : List CO := [
  ⟨some 12, .mv (.t 5), none⟩,
  ⟨some 13, .bin .add (.t 12) (.c (.p (.s (.int .i64 1)))), none⟩,
  ⟨some 5, .mv (.t 13), none⟩]
abbrev l31_17 : CC := .seq (.seq (.reg r31_3) (.rest [0, 4, 5, 11] (.cond (.t 11) (.skip) (.exit 0)))) (.rest [0, 4, 5] (.seq (.block 1 k31_1) (.rest [0, 4, 5] (.reg r31_4))))
abbrev k31_0 : CC := .loop l31_17
abbrev r31_16 : List CO := [
  ⟨some 45, .mv (.t 4), none⟩,
  ⟨some 2, .mv (.t 45), none⟩,
  ⟨some 3, .mv (.c (.p (.s (.bool true)))), none⟩]
abbrev c31 : CC := .seq (.reg r31_0) (.seq (.reg r31_1) (.seq (.seq (.reg r31_2) (.block 0 k31_0)) (.rest [4] (.seq (.reg r31_16) (.ret)))))
theorem F31 : Fun Try.prog 31 46 c31 [.tmp 2, .tmp 3] 1 := ⟨⟨Try.f31, _, Try.func31, rfl, by kernel_rfl, Try.ntmps31, by kernel_rfl, by kernel_rfl⟩, by decide⟩

/-- linnet/mode.Check$1 -/
abbrev r32_0 : List CO := [
  ⟨some 2, .mv (.c (.p (.s (.bool false)))), none⟩]
abbrev r32_1 : List CO := [
  ⟨some 3, .mv (.t 0), none⟩,
  ⟨some 4, .bin .geq (.t 3) (.c (.p (.s (.int .i64 0)))), none⟩,
  ⟨some 5, .mv (.t 4), none⟩,
  ⟨some 6, .mv (.t 0), some (5, true)⟩,
  ⟨some 7, .bin .leq (.t 6) (.c (.p (.s (.int .i64 65536)))), some (5, true)⟩,
  ⟨some 8, .pick (.t 5) (.t 7) (.c (.p (.s (.bool false)))), none⟩,
  ⟨some 2, .mv (.t 8), none⟩]
abbrev c32 : CC := .seq (.reg r32_0) (.seq (.reg r32_1) (.rest [2] (.ret)))
theorem F32 : Fun Try.prog 32 9 c32 [.tmp 2] 1 := ⟨⟨Try.f32, _, Try.func32, rfl, by kernel_rfl, Try.ntmps32, by kernel_rfl, by kernel_rfl⟩, by decide⟩

/-- linnet/subopt.Same -/
abbrev r33_0 : List CO := [
  ⟨some 2, .box (.t 0), none⟩,
  ⟨some 3, .box (.t 1), none⟩,
  ⟨some 4, .mv (.c (.p (.s (.bool false)))), none⟩]
abbrev r33_1 : List CO := [
  ⟨some 5, .faddr 0 (.t 2), none⟩,
  ⟨some 6, .load false 1 (.t 5), none⟩,
  ⟨some 7, .faddr 0 (.t 3), none⟩,
  ⟨some 8, .load false 1 (.t 7), none⟩,
  ⟨some 9, .bin .eql (.t 6) (.t 8), none⟩,
  ⟨some 10, .mv (.t 9), none⟩,
  ⟨some 11, .faddr 1 (.t 2), some (10, true)⟩,
  ⟨some 12, .load false 1 (.t 11), some (10, true)⟩,
  ⟨some 13, .faddr 1 (.t 3), some (10, true)⟩,
  ⟨some 14, .load false 1 (.t 13), some (10, true)⟩,
  ⟨some 15, .bin .eql (.t 12) (.t 14), some (10, true)⟩,
  ⟨some 16, .pick (.t 10) (.t 15) (.c (.p (.s (.bool false)))), none⟩,
  ⟨some 17, .mv (.t 16), none⟩,
  ⟨some 18, .faddr 2 (.t 2), some (17, true)⟩,
  ⟨some 19, .load false 1 (.t 18), some (17, true)⟩,
  ⟨some 20, .faddr 2 (.t 3), some (17, true)⟩,
  ⟨some 21, .load false 1 (.t 20), some (17, true)⟩,
  ⟨some 22, .bin .eql (.t 19) (.t 21), some (17, true)⟩,
  ⟨some 23, .pick (.t 17) (.t 22) (.c (.p (.s (.bool false)))), none⟩,
  ⟨some 24, .mv (.t 23), none⟩,
  ⟨some 25, .faddr 3 (.t 2), some (24, true)⟩,
  ⟨some 26, .load true 32 (.t 25), some (24, true)⟩,
  ⟨some 27, .faddr 3 (.t 3), some (24, true)⟩,
  ⟨some 28, .load true 32 (.t 27), some (24, true)⟩,
  ⟨some 29, .eqs false (List.replicate 32 0) (.t 26) (.t 28), some (24, true)⟩,
  ⟨some 30, .pick (.t 24) (.t 29) (.c (.p (.s (.bool false)))), none⟩,
  ⟨some 31, .mv (.t 30), none⟩,
  ⟨some 32, .faddr 35 (.t 2), some (31, true)⟩,
  ⟨some 33, .load false 1 (.t 32), some (31, true)⟩,
  ⟨some 34, .faddr 35 (.t 3), some (31, true)⟩,
  ⟨some 35, .load false 1 (.t 34), some (31, true)⟩,
  ⟨some 36, .call (.c (.fn (.func 37) [] [])) [.t 33, .t 35], some (31, true)⟩,
  ⟨some 37, .pick (.t 31) (.t 36) (.c (.p (.s (.bool false)))), none⟩,
  ⟨some 4, .mv (.t 37), none⟩]
abbrev c33 : CC := .seq (.reg r33_0) (.seq (.reg r33_1) (.rest [4] (.ret)))
theorem F33 : Fun Try.prog 33 38 c33 [.tmp 4] 2 := ⟨⟨Try.f33, _, Try.func33, rfl, by kernel_rfl, Try.ntmps33, by kernel_rfl, by kernel_rfl⟩, by decide⟩

/-- linnet/subopt.parts -/
abbrev r34_0 : List CO := [
  ⟨some 1, .box (.t 0), none⟩,
  ⟨some 2, .alloc ([.s (.int .i64 0), .s (.int .i64 0), .s (.int .i64 0), .s (.int .u8 0), .s (.int .u8 0), .s (.int .u8 0), .s (.int .u8 0), .s (.int .u8 0), .s (.int .u8 0), .s (.int .u8 0), .s (.int .u8 0), .s (.int .u8 0), .s (.int .u8 0), .s (.int .u8 0), .s (.int .u8 0), .s (.int .u8 0), .s (.int .u8 0), .s (.int .u8 0), .s (.int .u8 0), .s (.int .u8 0), .s (.int .u8 0), .s (.int .u8 0), .s (.int .u8 0), .s (.int .u8 0), .s (.int .u8 0), .s (.int .u8 0), .s (.int .u8 0), .s (.int .u8 0), .s (.int .u8 0), .s (.int .u8 0), .s (.int .u8 0), .s (.int .u8 0), .s (.int .u8 0), .s (.int .u8 0), .s (.int .u8 0), .s (.slice none 0 0)]), none⟩]
abbrev r34_1 : List CO := [
  ⟨some 4, .faddr 0 (.t 1), none⟩,
  ⟨some 5, .load false 1 (.t 4), none⟩,
  ⟨some 6, .build ([.s (.int .i64 0), .s (.int .i64 0), .s (.int .i64 0), .s (.int .u8 0), .s (.int .u8 0), .s (.int .u8 0), .s (.int .u8 0), .s (.int .u8 0), .s (.int .u8 0), .s (.int .u8 0), .s (.int .u8 0), .s (.int .u8 0), .s (.int .u8 0), .s (.int .u8 0), .s (.int .u8 0), .s (.int .u8 0), .s (.int .u8 0), .s (.int .u8 0), .s (.int .u8 0), .s (.int .u8 0), .s (.int .u8 0), .s (.int .u8 0), .s (.int .u8 0), .s (.int .u8 0), .s (.int .u8 0), .s (.int .u8 0), .s (.int .u8 0), .s (.int .u8 0), .s (.int .u8 0), .s (.int .u8 0), .s (.int .u8 0), .s (.int .u8 0), .s (.int .u8 0), .s (.int .u8 0), .s (.int .u8 0), .s (.slice none 0 0)]) [(0, 1, .t 5)], none⟩,
  ⟨some 3, .alloc ([.s (.int .i64 0), .s (.int .i64 0), .s (.int .i64 0), .s (.int .u8 0), .s (.int .u8 0), .s (.int .u8 0), .s (.int .u8 0), .s (.int .u8 0), .s (.int .u8 0), .s (.int .u8 0), .s (.int .u8 0), .s (.int .u8 0), .s (.int .u8 0), .s (.int .u8 0), .s (.int .u8 0), .s (.int .u8 0), .s (.int .u8 0), .s (.int .u8 0), .s (.int .u8 0), .s (.int .u8 0), .s (.int .u8 0), .s (.int .u8 0), .s (.int .u8 0), .s (.int .u8 0), .s (.int .u8 0), .s (.int .u8 0), .s (.int .u8 0), .s (.int .u8 0), .s (.int .u8 0), .s (.int .u8 0), .s (.int .u8 0), .s (.int .u8 0), .s (.int .u8 0), .s (.int .u8 0), .s (.int .u8 0), .s (.slice none 0 0)]), none⟩,
  ⟨none, .store 36 (.t 3) (.t 6), none⟩]
abbrev r34_2 : List CO := [
  ⟨some 7, .faddr 0 (.t 1), none⟩,
  ⟨some 8, .load false 1 (.t 7), none⟩]
abbrev r34_3 : List CO := [
  ⟨some 10, .bin .eql (.t 8) (.c (.p (.s (.int .i64 1)))), none⟩,
  ⟨some 9, .mv (.t 10), none⟩]
abbrev r34_4 : List CO := [
  ⟨some 11, .faddr 1 (.t 1), none⟩,
  ⟨some 12, .load false 1 (.t 11), none⟩,
  ⟨some 13, .faddr 1 (.t 3), none⟩,
  ⟨none, .store 1 (.t 13) (.t 12), none⟩]
abbrev r34_5 : List CO := [
  ⟨some 15, .bin .eql (.t 8) (.c (.p (.s (.int .i64 2)))), none⟩,
  ⟨some 14, .mv (.t 15), none⟩]
abbrev r34_6 : List CO := [
  ⟨some 16, .faddr 2 (.t 1), none⟩,
  ⟨some 17, .load false 1 (.t 16), none⟩,
  ⟨some 18, .faddr 2 (.t 3), none⟩,
  ⟨none, .store 1 (.t 18) (.t 17), none⟩]
abbrev r34_7 : List CO := [
  ⟨some 19, .faddr 2 (.t 1), none⟩,
  ⟨some 20, .load false 1 (.t 19), none⟩,
  ⟨some 21, .bin .eql (.t 20) (.c (.p (.s (.int .i64 253)))), none⟩]
abbrev r34_8 : List CO := [
  ⟨some 22, .faddr 3 (.t 1), none⟩,
  ⟨some 23, .load true 32 (.t 22), none⟩,
  ⟨some 24, .faddr 3 (.t 3), none⟩,
  ⟨none, .store 32 (.t 24) (.t 23), none⟩]
abbrev r34_9 : List CO := [
  ⟨some 26, .bin .eql (.t 8) (.c (.p (.s (.int .i64 3)))), none⟩,
  ⟨some 25, .mv (.t 26), none⟩]
abbrev r34_10 : List CO := [
  ⟨some 27, .faddr 35 (.t 1), none⟩,
  ⟨some 28, .load false 1 (.t 27), none⟩,
  ⟨some 29, .faddr 35 (.t 3), none⟩,
  ⟨none, .store 1 (.t 29) (.t 28), none⟩]
abbrev k34_0 : CC := .seq (.reg r34_3) (.cond (.t 9) (.reg r34_4) (.seq (.reg r34_5) (.cond (.t 14) (.seq (.reg r34_6) (.rest [1, 2, 3] (.seq (.reg r34_7) (.cond (.t 21) (.reg r34_8) (.skip))))) (.seq (.reg r34_9) (.cond (.t 25) (.reg r34_10) (.skip))))))
abbrev r34_11 : List CO := [
  ⟨some 30, .load true 36 (.t 3), none⟩,
  ⟨none, .store 36 (.t 2) (.t 30), none⟩]
abbrev c34 : CC := .seq (.reg r34_0) (.seq (.reg r34_1) (.rest [1, 2, 3] (.seq (.seq (.reg r34_2) (.block 0 k34_0)) (.rest [2, 3] (.seq (.reg r34_11) (.ret))))))
theorem F34 : Fun Try.prog 34 31 c34 [.cell 2 true 36] 1 := ⟨⟨Try.f34, _, Try.func34, rfl, by kernel_rfl, Try.ntmps34, by kernel_rfl, by kernel_rfl⟩, by decide⟩

/-- linnet/slc.Put -/
abbrev r35_0 : List CO := [
  ⟨some 2, .mv (.c (.p (.s (.slice none 0 0)))), none⟩,
  ⟨some 3, .mv (.c (.p (.s (.int .i64 0)))), none⟩]
abbrev r35_1 : List CO := [
  ⟨some 4, .mv (.c (.p (.s (.slice none 0 0)))), none⟩]
abbrev r35_2 : List CO := [
  ⟨some 8, .mv (.t 0), none⟩,
  ⟨some 9, .len (.t 8), none⟩,
  ⟨some 10, .mv (.c (.p (.s (.int .i64 0)))), none⟩]
abbrev r35_3 : List CO := [
  ⟨some 11, .bin .lss (.t 10) (.t 9), none⟩]
abbrev r35_4 : List CO := [
  ⟨some 12, .iaddrS 6 (.t 8) (.t 10), none⟩,
  ⟨some 13, .load true 6 (.t 12), none⟩,
  ⟨some 6, .alloc ([.s (.int .i64 0), .s (.int .i64 0), .s (.bool false), .s (.bool false), .s (.bool false), .s (.int .u8 0)]), none⟩,
  ⟨none, .store 6 (.t 6) (.t 13), none⟩]
abbrev r35_5 : List CO := [
  ⟨some 14, .load true 6 (.t 6), none⟩,
  ⟨some 15, .call (.c (.fn (.func 38) [] [])) [.t 14], none⟩,
  ⟨some 7, .mv (.t 15), none⟩]
abbrev r35_6 : List CO := [
  ⟨some 16, .mv (.t 7), none⟩,
  ⟨some 17, .bin .neq (.t 16) (.c (.p (.s (.int .i64 0)))), none⟩]
abbrev r35_7 : List CO := [
  ⟨some 18, .mv (.t 7), none⟩,
  ⟨some 2, .mv (.c (.p (.s (.slice none 0 0)))), none⟩,
  ⟨some 3, .mv (.t 18), none⟩]
abbrev r35_8 : List CO := [
  ⟨some 19, .mv (.t 4), none⟩,
  ⟨some 20, .faddr 0 (.t 6), none⟩,
  ⟨some 21, .load false 1 (.t 20), none⟩,
  ⟨some 22, .toInt .u8 (.t 21), none⟩,
  ⟨some 23, .faddr 1 (.t 6), none⟩,
  ⟨some 24, .load false 1 (.t 23), none⟩,
  ⟨some 25, .toInt .u8 (.t 24), none⟩,
  ⟨some 26, .faddr 2 (.t 6), none⟩,
  ⟨some 27, .load false 1 (.t 26), none⟩,
  ⟨some 28, .call (.c (.fn (.func 39) [] [])) [.t 27, .c (.p (.s (.int .u8 128)))], none⟩,
  ⟨some 29, .bin .or (.t 25) (.t 28), none⟩,
  ⟨some 30, .faddr 3 (.t 6), none⟩,
  ⟨some 31, .load false 1 (.t 30), none⟩,
  ⟨some 32, .call (.c (.fn (.func 39) [] [])) [.t 31, .c (.p (.s (.int .u8 64)))], none⟩,
  ⟨some 33, .bin .or (.t 29) (.t 32), none⟩,
  ⟨some 34, .faddr 4 (.t 6), none⟩,
  ⟨some 35, .load false 1 (.t 34), none⟩,
  ⟨some 36, .call (.c (.fn (.func 39) [] [])) [.t 35, .c (.p (.s (.int .u8 32)))], none⟩,
  ⟨some 37, .bin .or (.t 33) (.t 36), none⟩,
  ⟨some 38, .faddr 5 (.t 6), none⟩,
  ⟨some 39, .load false 1 (.t 38), none⟩,
  ⟨some 40, .bslice 1 3 ([.s (.int .u8 0)]) [(0, .t 22), (1, .t 37), (2, .t 39)], none⟩,
  ⟨some 41, .append 1 1 ([.s (.int .u8 0)]) (.t 19) (.t 40), none⟩,
  ⟨some 4, .mv (.t 41), none⟩]
abbrev b35_8 : List (List Nat) := [[], [], [1], [2], [], [4], [5], [], [7], [8], [6, 9], [], [11], [12, 9], [10, 13], [], [15], [16, 13], [14, 17], [], [19], [3, 18, 20], [0, 21, 17], [22, 22, 0, 1, 2, 3, 4, 5, 6, 7, 8, 9, 10, 11, 12, 13, 14, 15, 16, 17, 18, 19, 20, 21, 22]]
abbrev k35_1 : CC := .seq (.reg r35_4) (.rest [4, 6, 8, 9, 10] (.seq (.seq (.reg r35_5) (.seq (.reg r35_6) (.cond (.t 17) (.seq (.reg r35_7) (.ret)) (.skip)))) (.rest [4, 6, 8, 9, 10] (.regd r35_8 b35_8))))
abbrev r35_9 : List CO := [
  ⟨some 42, .bin .add (.t 10) (.c (.p (.s (.int .i64 1)))), none⟩,
  ⟨some 10, .mv (.t 42), none⟩]
abbrev l35_12 : CC := .seq (.reg r35_3) (.seq (.cond (.t 11) (.skip) (.exit 0)) (.seq (.block 1 k35_1) (.rest [4, 8, 9, 10] (.reg r35_9))))
abbrev k35_0 : CC := .loop l35_12
abbrev r35_10 : List CO := [
  ⟨some 43, .mv (.t 4), none⟩,
  ⟨some 2, .mv (.t 43), none⟩,
  ⟨some 3, .mv (.c (.p (.s (.int .i64 0)))), none⟩]
abbrev c35 : CC := .seq (.reg r35_0) (.seq (.reg r35_1) (.seq (.seq (.reg r35_2) (.block 0 k35_0)) (.rest [4] (.seq (.reg r35_10) (.ret)))))
theorem F35 : Fun Try.prog 35 44 c35 [.tmp 2, .tmp 3] 1 := ⟨⟨Try.f35, _, Try.func35, rfl, by kernel_rfl, Try.ntmps35, by kernel_rfl, by kernel_rfl⟩, by decide⟩

/-- linnet/linnetref07.May -/
abbrev r36_0 : List CO := [
  ⟨some 1, .box (.t 0), none⟩,
  ⟨some 2, .mv (.c (.p (.s (.bool false)))), none⟩]
abbrev r36_1 : List CO := [
  ⟨some 3, .faddr 0 (.t 1), none⟩,
  ⟨some 4, .load false 1 (.t 3), none⟩,
  ⟨some 5, .bin .geq (.t 4) (.c (.p (.s (.int .i64 0)))), none⟩,
  ⟨some 6, .mv (.t 5), none⟩,
  ⟨some 7, .faddr 0 (.t 1), some (6, true)⟩,
  ⟨some 8, .load false 1 (.t 7), some (6, true)⟩,
  ⟨some 9, .bin .leq (.t 8) (.c (.p (.s (.int .i64 255)))), some (6, true)⟩,
  ⟨some 10, .pick (.t 6) (.t 9) (.c (.p (.s (.bool false)))), none⟩,
  ⟨some 11, .mv (.t 10), none⟩,
  ⟨some 12, .faddr 1 (.t 1), some (11, true)⟩,
  ⟨some 13, .load false 1 (.t 12), some (11, true)⟩,
  ⟨some 14, .bin .geq (.t 13) (.c (.p (.s (.int .i64 0)))), some (11, true)⟩,
  ⟨some 15, .pick (.t 11) (.t 14) (.c (.p (.s (.bool false)))), none⟩,
  ⟨some 16, .mv (.t 15), none⟩,
  ⟨some 17, .faddr 1 (.t 1), some (16, true)⟩,
  ⟨some 18, .load false 1 (.t 17), some (16, true)⟩,
  ⟨some 19, .bin .leq (.t 18) (.c (.p (.s (.int .i64 3)))), some (16, true)⟩,
  ⟨some 20, .pick (.t 16) (.t 19) (.c (.p (.s (.bool false)))), none⟩,
  ⟨some 2, .mv (.t 20), none⟩]
abbrev c36 : CC := .seq (.reg r36_0) (.seq (.reg r36_1) (.rest [2] (.ret)))
theorem F36 : Fun Try.prog 36 21 c36 [.tmp 2] 1 := ⟨⟨Try.f36, _, Try.func36, rfl, by kernel_rfl, Try.ntmps36, by kernel_rfl, by kernel_rfl⟩, by decide⟩

/-- slices.Equal[[]linnet/api.Triple,linnet/api.Triple] -/
abbrev r37_0 : List CO := [
  ⟨some 4, .mv (.c (.p (.s (.bool false)))), none⟩]
abbrev r37_1 : List CO := [
  ⟨some 6, .mv (.t 0), none⟩,
  ⟨some 7, .len (.t 6), none⟩,
  ⟨some 8, .mv (.t 1), none⟩,
  ⟨some 9, .len (.t 8), none⟩,
  ⟨some 10, .bin .neq (.t 7) (.t 9), none⟩]
abbrev r37_2 : List CO := [
  ⟨some 4, .mv (.c (.p (.s (.bool false)))), none⟩]
abbrev r37_3 : List CO := [
  ⟨some 11, .mv (.t 0), none⟩,
  ⟨some 12, .len (.t 11), none⟩,
  ⟨some 13, .mv (.c (.p (.s (.int .i64 0)))), none⟩]
abbrev r37_4 : List CO := [
  ⟨some 14, .bin .lss (.t 13) (.t 12), none⟩]
abbrev r37_5 : List CO := [
  ⟨some 15, .mv (.t 13), none⟩,
  ⟨some 5, .mv (.t 15), none⟩]
abbrev r37_6 : List CO := [
  ⟨some 16, .mv (.t 0), none⟩,
  ⟨some 17, .mv (.t 5), none⟩,
  ⟨some 18, .iaddrS 6 (.t 16) (.t 17), none⟩,
  ⟨some 19, .load true 6 (.t 18), none⟩,
  ⟨some 20, .mv (.t 1), none⟩,
  ⟨some 21, .mv (.t 5), none⟩,
  ⟨some 22, .iaddrS 6 (.t 20) (.t 21), none⟩,
  ⟨some 23, .load true 6 (.t 22), none⟩,
  ⟨some 24, .eqs true [0, 0, 1, 1, 1, 0] (.t 19) (.t 23), none⟩]
abbrev b37_6 : List (List Nat) := [[], [], [0, 1], [2], [], [], [4, 5], [6], [3, 7]]
abbrev r37_7 : List CO := [
  ⟨some 4, .mv (.c (.p (.s (.bool false)))), none⟩]
abbrev k37_1 : CC := .seq (.reg r37_5) (.seq (.regd r37_6 b37_6) (.rest [0, 1, 12, 13, 24] (.cond (.t 24) (.seq (.reg r37_7) (.ret)) (.skip))))
abbrev r37_8 : List CO := [
  ⟨some 25, .bin .add (.t 13) (.c (.p (.s (.int .i64 1)))), none⟩,
  ⟨some 13, .mv (.t 25), none⟩]
abbrev l37_11 : CC := .seq (.reg r37_4) (.seq (.cond (.t 14) (.skip) (.exit 0)) (.seq (.block 1 k37_1) (.rest [0, 1, 12, 13] (.reg r37_8))))
abbrev k37_0 : CC := .loop l37_11
abbrev r37_9 : List CO := [
  ⟨some 4, .mv (.c (.p (.s (.bool true)))), none⟩]
abbrev c37 : CC := .seq (.reg r37_0) (.seq (.seq (.reg r37_1) (.rest [0, 1, 10] (.cond (.t 10) (.seq (.reg r37_2) (.ret)) (.skip)))) (.rest [0, 1] (.seq (.seq (.reg r37_3) (.block 0 k37_0)) (.rest [] (.seq (.reg r37_9) (.ret))))))
theorem F37 : Fun Try.prog 37 26 c37 [.tmp 4] 2 := ⟨⟨Try.f37, _, Try.func37, rfl, by kernel_rfl, Try.ntmps37, by kernel_rfl, by kernel_rfl⟩, by decide⟩

/-- linnet/slc.Check -/
abbrev r38_0 : List CO := [
  ⟨some 1, .box (.t 0), none⟩,
  ⟨some 2, .mv (.c (.p (.s (.int .i64 0)))), none⟩]
abbrev r38_1 : List CO := [
  ⟨some 3, .faddr 0 (.t 1), none⟩,
  ⟨some 4, .load false 1 (.t 3), none⟩,
  ⟨some 5, .bin .lss (.t 4) (.c (.p (.s (.int .i64 0)))), none⟩,
  ⟨some 6, .mv (.t 5), none⟩,
  ⟨some 7, .faddr 0 (.t 1), some (6, false)⟩,
  ⟨some 8, .load false 1 (.t 7), some (6, false)⟩,
  ⟨some 9, .bin .gtr (.t 8) (.c (.p (.s (.int .i64 255)))), some (6, false)⟩,
  ⟨some 10, .pick (.t 6) (.c (.p (.s (.bool true)))) (.t 9), none⟩,
  ⟨some 11, .mv (.t 10), none⟩,
  ⟨some 12, .faddr 1 (.t 1), some (11, false)⟩,
  ⟨some 13, .load false 1 (.t 12), some (11, false)⟩,
  ⟨some 14, .bin .lss (.t 13) (.c (.p (.s (.int .i64 0)))), some (11, false)⟩,
  ⟨some 15, .pick (.t 11) (.c (.p (.s (.bool true)))) (.t 14), none⟩,
  ⟨some 16, .mv (.t 15), none⟩,
  ⟨some 17, .faddr 1 (.t 1), some (16, false)⟩,
  ⟨some 18, .load false 1 (.t 17), some (16, false)⟩,
  ⟨some 19, .bin .gtr (.t 18) (.c (.p (.s (.int .i64 3)))), some (16, false)⟩,
  ⟨some 20, .pick (.t 16) (.c (.p (.s (.bool true)))) (.t 19), none⟩]
abbrev r38_2 : List CO := [
  ⟨some 2, .mv (.c (.p (.s (.int .i64 1)))), none⟩]
abbrev r38_3 : List CO := [
  ⟨some 2, .mv (.c (.p (.s (.int .i64 0)))), none⟩]
abbrev c38 : CC := .seq (.reg r38_0) (.seq (.seq (.reg r38_1) (.rest [20] (.cond (.t 20) (.seq (.reg r38_2) (.ret)) (.skip)))) (.rest [] (.seq (.reg r38_3) (.ret))))
theorem F38 : Fun Try.prog 38 21 c38 [.tmp 2] 1 := ⟨⟨Try.f38, _, Try.func38, rfl, by kernel_rfl, Try.ntmps38, by kernel_rfl, by kernel_rfl⟩, by decide⟩

/-- linnet/slc.mark -/
abbrev r39_0 : List CO := [
  ⟨some 4, .mv (.c (.p (.s (.int .u8 0)))), none⟩]
abbrev r39_1 : List CO := [
  ⟨some 5, .mv (.t 0), none⟩]
abbrev r39_2 : List CO := [
  ⟨some 6, .mv (.t 1), none⟩,
  ⟨some 4, .mv (.t 6), none⟩]
abbrev r39_3 : List CO := [
  ⟨some 4, .mv (.c (.p (.s (.int .u8 0)))), none⟩]
abbrev c39 : CC := .seq (.reg r39_0) (.seq (.seq (.reg r39_1) (.cond (.t 5) (.seq (.reg r39_2) (.ret)) (.skip))) (.seq (.reg r39_3) (.ret)))
theorem F39 : Fun Try.prog 39 7 c39 [.tmp 4] 2 := ⟨⟨Try.f39, _, Try.func39, rfl, by kernel_rfl, Try.ntmps39, by kernel_rfl, by kernel_rfl⟩, by decide⟩

end Go.Proofs.Ytccdnkekmpndiaa
