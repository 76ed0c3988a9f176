/- Code of functions of the given program in compact form, printed by a program of this repository (wip/tools/gen.py) out of what Lean prints of the loaded functions; each is checked by the kernel. -/
import Derived.Test.YtlijecknkpcgfaaDoorZ3
import Derived.Test.YtlijecknkpcgfaaDoorSst
import Derived.Test.YtlijecknkpcgfaaDoorProg
import Derived.KernelRfl
namespace Go.Proofs.YtlijecknkpcgfaaDoor
open Go Go.Shade

/-- linnet/linnetlaw22.ScriptJoins -/
abbrev r3_0 : List CO := [
  ⟨some 4, .mv (.c (.p (.s (.bool false)))), none⟩]
abbrev r3_1 : List CO := [
  ⟨some 13, .mv (.t 0), none⟩,
  ⟨some 14, .call (.c (.fn (.func 9) [] [])) [.t 13], none⟩,
  ⟨some 15, .mv (.t 1), none⟩,
  ⟨some 16, .call (.c (.fn (.func 10) [] [])) [.t 15], none⟩,
  ⟨some 0, .mv (.t 14), none⟩,
  ⟨some 1, .mv (.t 16), none⟩]
abbrev r3_2 : List CO := [
  ⟨some 18, .mv (.t 0), none⟩,
  ⟨some 19, .call (.c (.fn (.func 11) [] [])) [.t 18], none⟩,
  ⟨some 17, .mv (.t 19), none⟩,
  ⟨some 20, .extract 0 (.t 17), none⟩,
  ⟨some 21, .extract 1 (.t 17), none⟩,
  ⟨some 5, .mv (.t 20), none⟩,
  ⟨some 6, .mv (.t 21), none⟩]
abbrev r3_3 : List CO := [
  ⟨some 22, .mv (.t 6), none⟩,
  ⟨some 23, .bin .neq (.t 22) (.c (.p (.s (.int .i64 0)))), none⟩]
abbrev r3_4 : List CO := [
  ⟨some 24, .mv (.t 5), none⟩,
  ⟨some 25, .len (.t 24), none⟩,
  ⟨some 26, .bin .eql (.t 25) (.c (.p (.s (.int .i64 0)))), none⟩,
  ⟨some 27, .mv (.t 26), none⟩,
  ⟨some 28, .call (.c (.fn (.func 12) [] [])) [], some (27, true)⟩,
  ⟨some 29, .pick (.t 27) (.t 28) (.c (.p (.s (.bool false)))), none⟩,
  ⟨some 4, .mv (.t 29), none⟩]
abbrev r3_5 : List CO := [
  ⟨some 31, .mv (.t 1), none⟩,
  ⟨some 32, .call (.c (.fn (.func 13) [] [])) [.t 31], none⟩,
  ⟨some 30, .mv (.t 32), none⟩,
  ⟨some 33, .extract 0 (.t 30), none⟩,
  ⟨some 34, .extract 1 (.t 30), none⟩,
  ⟨some 35, .extract 2 (.t 30), none⟩,
  ⟨some 7, .mv (.t 33), none⟩,
  ⟨some 8, .mv (.t 34), none⟩,
  ⟨some 9, .mv (.t 35), none⟩]
abbrev r3_6 : List CO := [
  ⟨some 37, .bslice 1 0 ([.s (.int .u8 0)]) [], none⟩,
  ⟨some 38, .mv (.t 5), none⟩,
  ⟨some 39, .append 1 1 ([.s (.int .u8 0)]) (.t 37) (.t 38), none⟩,
  ⟨some 40, .mv (.t 1), none⟩,
  ⟨some 41, .append 1 1 ([.s (.int .u8 0)]) (.t 39) (.t 40), none⟩,
  ⟨some 42, .call (.c (.fn (.func 13) [] [])) [.t 41], none⟩,
  ⟨some 36, .mv (.t 42), none⟩,
  ⟨some 43, .extract 0 (.t 36), none⟩,
  ⟨some 44, .extract 1 (.t 36), none⟩,
  ⟨some 45, .extract 2 (.t 36), none⟩,
  ⟨some 10, .mv (.t 43), none⟩,
  ⟨some 11, .mv (.t 44), none⟩,
  ⟨some 12, .mv (.t 45), none⟩]
abbrev r3_7 : List CO := [
  ⟨some 46, .mv (.t 10), none⟩,
  ⟨some 47, .bslice 50 0 (tz50) [], none⟩,
  ⟨some 48, .mv (.t 0), none⟩,
  ⟨some 49, .append 50 152 (tz50) (.t 47) (.t 48), none⟩,
  ⟨some 50, .mv (.t 7), none⟩,
  ⟨some 51, .append 50 152 (tz50) (.t 49) (.t 50), none⟩,
  ⟨some 52, .call (.c (.fn (.func 14) [] [])) [.t 46, .t 51], none⟩,
  ⟨some 53, .mv (.t 52), none⟩,
  ⟨some 54, .mv (.t 11), some (53, true)⟩,
  ⟨some 55, .mv (.t 5), some (53, true)⟩,
  ⟨some 56, .len (.t 55), some (53, true)⟩,
  ⟨some 57, .mv (.t 8), some (53, true)⟩,
  ⟨some 58, .bin .add (.t 56) (.t 57), some (53, true)⟩,
  ⟨some 59, .bin .eql (.t 54) (.t 58), some (53, true)⟩,
  ⟨some 60, .pick (.t 53) (.t 59) (.c (.p (.s (.bool false)))), none⟩,
  ⟨some 61, .mv (.t 60), none⟩,
  ⟨some 62, .mv (.t 9), some (61, true)⟩,
  ⟨some 63, .mv (.t 12), some (61, true)⟩,
  ⟨some 64, .bin .eql (.t 62) (.t 63), some (61, true)⟩,
  ⟨some 65, .pick (.t 61) (.t 64) (.c (.p (.s (.bool false)))), none⟩,
  ⟨some 66, .mv (.t 65), none⟩,
  ⟨some 67, .call (.c (.fn (.func 12) [] [])) [], some (66, true)⟩,
  ⟨some 68, .pick (.t 66) (.t 67) (.c (.p (.s (.bool false)))), none⟩,
  ⟨some 4, .mv (.t 68), none⟩]
abbrev c3 : CC := .seq (.reg r3_0) (.seq (.reg r3_1) (.rest [0, 1] (.seq (.reg r3_2) (.rest [0, 1, 5, 6] (.seq (.seq (.reg r3_3) (.cond (.t 23) (.seq (.reg r3_4) (.rest [4] (.ret))) (.skip))) (.rest [0, 1, 5] (.seq (.reg r3_5) (.rest [0, 1, 5, 7, 8, 9] (.seq (.reg r3_6) (.rest [0, 5, 7, 8, 9, 10, 11, 12] (.seq (.reg r3_7) (.rest [4] (.ret)))))))))))))
theorem F3 : Fun Tryd.prog 3 69 c3 [.tmp 4] 2 := ⟨⟨Tryd.f3, _, Tryd.func3, rfl, by kernel_rfl, Tryd.ntmps3, by kernel_rfl, by kernel_rfl⟩, by decide⟩

/-- linnet/linnetlaw22.ScriptShort -/
abbrev r4_0 : List CO := [
  ⟨some 2, .mv (.c (.p (.s (.bool false)))), none⟩]
abbrev r4_1 : List CO := [
  ⟨some 13, .mv (.t 0), none⟩,
  ⟨some 14, .call (.c (.fn (.func 9) [] [])) [.t 13], none⟩,
  ⟨some 0, .mv (.t 14), none⟩]
abbrev r4_2 : List CO := [
  ⟨some 16, .mv (.t 0), none⟩,
  ⟨some 17, .call (.c (.fn (.func 11) [] [])) [.t 16], none⟩,
  ⟨some 15, .mv (.t 17), none⟩,
  ⟨some 18, .extract 0 (.t 15), none⟩,
  ⟨some 19, .extract 1 (.t 15), none⟩,
  ⟨some 3, .mv (.t 18), none⟩,
  ⟨some 4, .mv (.t 19), none⟩]
abbrev r4_3 : List CO := [
  ⟨some 21, .call (.c (.fn (.func 13) [] [])) [.c (.p (.s (.slice none 0 0)))], none⟩,
  ⟨some 20, .mv (.t 21), none⟩,
  ⟨some 22, .extract 0 (.t 20), none⟩,
  ⟨some 23, .extract 1 (.t 20), none⟩,
  ⟨some 24, .extract 2 (.t 20), none⟩,
  ⟨some 5, .mv (.t 22), none⟩,
  ⟨some 6, .mv (.t 23), none⟩,
  ⟨some 7, .mv (.t 24), none⟩]
abbrev r4_4 : List CO := [
  ⟨some 25, .mv (.t 5), none⟩,
  ⟨some 26, .len (.t 25), none⟩,
  ⟨some 27, .bin .neq (.t 26) (.c (.p (.s (.int .i64 0)))), none⟩,
  ⟨some 28, .mv (.t 27), none⟩,
  ⟨some 29, .mv (.t 6), some (28, false)⟩,
  ⟨some 30, .bin .neq (.t 29) (.c (.p (.s (.int .i64 0)))), some (28, false)⟩,
  ⟨some 31, .pick (.t 28) (.c (.p (.s (.bool true)))) (.t 30), none⟩,
  ⟨some 32, .mv (.t 31), none⟩,
  ⟨some 33, .mv (.t 7), some (32, false)⟩,
  ⟨some 34, .bin .neq (.t 33) (.c (.p (.s (.int .i64 0)))), some (32, false)⟩,
  ⟨some 35, .pick (.t 32) (.c (.p (.s (.bool true)))) (.t 34), none⟩]
abbrev r4_5 : List CO := [
  ⟨some 2, .mv (.c (.p (.s (.bool false)))), none⟩]
abbrev r4_6 : List CO := [
  ⟨some 36, .mv (.t 4), none⟩,
  ⟨some 37, .bin .neq (.t 36) (.c (.p (.s (.int .i64 0)))), none⟩,
  ⟨some 38, .mv (.t 37), none⟩,
  ⟨some 39, .mv (.t 0), some (38, false)⟩,
  ⟨some 40, .len (.t 39), some (38, false)⟩,
  ⟨some 41, .bin .eql (.t 40) (.c (.p (.s (.int .i64 0)))), some (38, false)⟩,
  ⟨some 42, .pick (.t 38) (.c (.p (.s (.bool true)))) (.t 41), none⟩]
abbrev r4_7 : List CO := [
  ⟨some 43, .call (.c (.fn (.func 12) [] [])) [], none⟩,
  ⟨some 2, .mv (.t 43), none⟩]
abbrev r4_8 : List CO := [
  ⟨some 44, .mv (.t 3), none⟩,
  ⟨some 45, .len (.t 44), none⟩,
  ⟨some 46, .bin .eql (.t 45) (.c (.p (.s (.int .i64 0)))), none⟩]
abbrev r4_9 : List CO := [
  ⟨some 2, .mv (.c (.p (.s (.bool false)))), none⟩]
abbrev r4_10 : List CO := [
  ⟨some 48, .mv (.t 3), none⟩,
  ⟨some 49, .mv (.t 3), none⟩,
  ⟨some 50, .len (.t 49), none⟩,
  ⟨some 51, .bin .sub (.t 50) (.c (.p (.s (.int .i64 1)))), none⟩,
  ⟨some 52, .slice 1 (.t 48) none (some (.t 51)), none⟩,
  ⟨some 53, .call (.c (.fn (.func 13) [] [])) [.t 52], none⟩,
  ⟨some 47, .mv (.t 53), none⟩,
  ⟨some 54, .extract 0 (.t 47), none⟩,
  ⟨some 55, .extract 1 (.t 47), none⟩,
  ⟨some 56, .extract 2 (.t 47), none⟩,
  ⟨some 8, .mv (.t 54), none⟩,
  ⟨some 9, .mv (.t 55), none⟩,
  ⟨some 10, .mv (.t 56), none⟩]
abbrev r4_11 : List CO := [
  ⟨some 58, .mv (.t 0), none⟩,
  ⟨some 59, .mv (.t 0), none⟩,
  ⟨some 60, .len (.t 59), none⟩,
  ⟨some 61, .bin .sub (.t 60) (.c (.p (.s (.int .i64 1)))), none⟩,
  ⟨some 62, .slice 50 (.t 58) none (some (.t 61)), none⟩,
  ⟨some 63, .call (.c (.fn (.func 11) [] [])) [.t 62], none⟩,
  ⟨some 57, .mv (.t 63), none⟩,
  ⟨some 64, .extract 0 (.t 57), none⟩,
  ⟨some 65, .extract 1 (.t 57), none⟩,
  ⟨some 11, .mv (.t 64), none⟩,
  ⟨some 12, .mv (.t 65), none⟩]
abbrev r4_12 : List CO := [
  ⟨some 66, .mv (.t 12), none⟩,
  ⟨some 67, .bin .eql (.t 66) (.c (.p (.s (.int .i64 0)))), none⟩,
  ⟨some 68, .mv (.t 67), none⟩,
  ⟨some 69, .mv (.t 10), some (68, true)⟩,
  ⟨some 70, .bin .eql (.t 69) (.c (.p (.s (.int .i64 2)))), some (68, true)⟩,
  ⟨some 71, .pick (.t 68) (.t 70) (.c (.p (.s (.bool false)))), none⟩,
  ⟨some 72, .mv (.t 71), none⟩,
  ⟨some 73, .mv (.t 9), some (72, true)⟩,
  ⟨some 74, .mv (.t 11), some (72, true)⟩,
  ⟨some 75, .len (.t 74), some (72, true)⟩,
  ⟨some 76, .bin .eql (.t 73) (.t 75), some (72, true)⟩,
  ⟨some 77, .pick (.t 72) (.t 76) (.c (.p (.s (.bool false)))), none⟩,
  ⟨some 78, .mv (.t 77), none⟩,
  ⟨some 79, .mv (.t 8), some (78, true)⟩,
  ⟨some 80, .mv (.t 0), some (78, true)⟩,
  ⟨some 81, .mv (.t 0), some (78, true)⟩,
  ⟨some 82, .len (.t 81), some (78, true)⟩,
  ⟨some 83, .bin .sub (.t 82) (.c (.p (.s (.int .i64 1)))), some (78, true)⟩,
  ⟨some 84, .slice 50 (.t 80) none (some (.t 83)), some (78, true)⟩,
  ⟨some 85, .call (.c (.fn (.func 14) [] [])) [.t 79, .t 84], some (78, true)⟩,
  ⟨some 86, .pick (.t 78) (.t 85) (.c (.p (.s (.bool false)))), none⟩,
  ⟨some 87, .mv (.t 86), none⟩,
  ⟨some 88, .call (.c (.fn (.func 12) [] [])) [], some (87, true)⟩,
  ⟨some 89, .pick (.t 87) (.t 88) (.c (.p (.s (.bool false)))), none⟩,
  ⟨some 2, .mv (.t 89), none⟩]
abbrev c4 : CC := .seq (.reg r4_0) (.seq (.reg r4_1) (.seq (.reg r4_2) (.rest [0, 3, 4] (.seq (.reg r4_3) (.rest [0, 3, 4, 5, 6, 7] (.seq (.seq (.reg r4_4) (.rest [0, 3, 4, 35] (.cond (.t 35) (.seq (.reg r4_5) (.ret)) (.skip)))) (.rest [0, 3, 4] (.seq (.seq (.reg r4_6) (.rest [0, 3, 42] (.cond (.t 42) (.seq (.reg r4_7) (.ret)) (.skip)))) (.rest [0, 3] (.seq (.seq (.reg r4_8) (.cond (.t 46) (.seq (.reg r4_9) (.ret)) (.skip))) (.rest [0, 3] (.seq (.reg r4_10) (.rest [0, 8, 9, 10] (.seq (.reg r4_11) (.rest [0, 8, 9, 10, 11, 12] (.seq (.reg r4_12) (.rest [2] (.ret))))))))))))))))))
theorem F4 : Fun Tryd.prog 4 90 c4 [.tmp 2] 1 := ⟨⟨Tryd.f4, _, Tryd.func4, rfl, by kernel_rfl, Tryd.ntmps4, by kernel_rfl, by kernel_rfl⟩, by decide⟩

/-- linnet/linnetlaw22.ScriptLong -/
abbrev r5_0 : List CO := [
  ⟨some 4, .mv (.c (.p (.s (.bool false)))), none⟩]
abbrev r5_1 : List CO := [
  ⟨some 14, .mv (.t 1), none⟩,
  ⟨some 15, .bin .rem (.t 14) (.c (.p (.s (.int .u8 5)))), none⟩,
  ⟨some 16, .toInt .i64 (.t 15), none⟩,
  ⟨some 17, .bin .add (.c (.p (.s (.int .i64 4094)))) (.t 16), none⟩,
  ⟨some 5, .mv (.t 17), none⟩]
abbrev r5_2 : List CO := [
  ⟨some 6, .mv (.c (.p (.s (.slice none 0 0)))), none⟩]
abbrev r5_3 : List CO := [
  ⟨some 7, .mv (.c (.p (.s (.slice none 0 0)))), none⟩]
abbrev r5_4 : List CO := [
  ⟨some 8, .mv (.c (.p (.s (.int .i64 0)))), none⟩]
abbrev r5_5 : List CO := [
  ⟨some 18, .mv (.t 8), none⟩,
  ⟨some 19, .mv (.t 5), none⟩,
  ⟨some 20, .bin .lss (.t 18) (.t 19), none⟩]
abbrev r5_7 : List CO := [
  ⟨some 23, .mv (.t 6), none⟩,
  ⟨some 24, .mv (.t 0), none⟩,
  ⟨some 25, .bslice 1 2 ([.s (.int .u8 0)]) [(0, .c (.p (.s (.int .u8 0)))), (1, .t 24)], none⟩,
  ⟨some 26, .append 1 1 ([.s (.int .u8 0)]) (.t 23) (.t 25), none⟩,
  ⟨some 6, .mv (.t 26), none⟩]
abbrev r5_8 : List CO := [
  ⟨some 27, .mv (.t 7), none⟩,
  ⟨some 28, .mv (.t 0), none⟩,
  ⟨some 29, .build (tz50) [(3, 1, .t 28)], none⟩,
  ⟨some 30, .bslice 50 1 (tz50) [(0, .t 29)], none⟩,
  ⟨some 31, .append 50 152 (tz50) (.t 27) (.t 30), none⟩,
  ⟨some 7, .mv (.t 31), none⟩]
abbrev k5_1 : CC := .seq (.reg r5_7) (.rest [0, 5, 6, 7, 8] (.reg r5_8))
abbrev r5_6 : List CO := [
  ⟨some 21, .mv (.t 8), none⟩,
  ⟨some 22, .bin .add (.t 21) (.c (.p (.s (.int .i64 1)))), none⟩,
  ⟨some 8, .mv (.t 22), none⟩]
abbrev l5_10 : CC := .seq (.seq (.reg r5_5) (.cond (.t 20) (.skip) (.exit 0))) (.seq (.block 1 k5_1) (.rest [0, 5, 6, 7, 8] (.reg r5_6)))
abbrev k5_0 : CC := .loop l5_10
abbrev r5_9 : List CO := [
  ⟨some 33, .mv (.t 6), none⟩,
  ⟨some 34, .call (.c (.fn (.func 13) [] [])) [.t 33], none⟩,
  ⟨some 32, .mv (.t 34), none⟩,
  ⟨some 35, .extract 0 (.t 32), none⟩,
  ⟨some 36, .extract 1 (.t 32), none⟩,
  ⟨some 37, .extract 2 (.t 32), none⟩,
  ⟨some 9, .mv (.t 35), none⟩,
  ⟨some 10, .mv (.t 36), none⟩,
  ⟨some 11, .mv (.t 37), none⟩]
abbrev r5_10 : List CO := [
  ⟨some 39, .mv (.t 7), none⟩,
  ⟨some 40, .call (.c (.fn (.func 11) [] [])) [.t 39], none⟩,
  ⟨some 38, .mv (.t 40), none⟩,
  ⟨some 41, .extract 0 (.t 38), none⟩,
  ⟨some 42, .extract 1 (.t 38), none⟩,
  ⟨some 12, .mv (.t 41), none⟩,
  ⟨some 13, .mv (.t 42), none⟩]
abbrev r5_11 : List CO := [
  ⟨some 43, .mv (.t 5), none⟩,
  ⟨some 44, .bin .gtr (.t 43) (.c (.p (.s (.int .i64 4096)))), none⟩]
abbrev r5_12 : List CO := [
  ⟨some 45, .mv (.t 9), none⟩,
  ⟨some 46, .len (.t 45), none⟩,
  ⟨some 47, .bin .eql (.t 46) (.c (.p (.s (.int .i64 4096)))), none⟩,
  ⟨some 48, .mv (.t 47), none⟩,
  ⟨some 49, .mv (.t 10), some (48, true)⟩,
  ⟨some 50, .bin .eql (.t 49) (.c (.p (.s (.int .i64 8192)))), some (48, true)⟩,
  ⟨some 51, .pick (.t 48) (.t 50) (.c (.p (.s (.bool false)))), none⟩,
  ⟨some 52, .mv (.t 51), none⟩,
  ⟨some 53, .mv (.t 11), some (52, true)⟩,
  ⟨some 54, .bin .eql (.t 53) (.c (.p (.s (.int .i64 0)))), some (52, true)⟩,
  ⟨some 55, .pick (.t 52) (.t 54) (.c (.p (.s (.bool false)))), none⟩,
  ⟨some 56, .mv (.t 55), none⟩,
  ⟨some 57, .mv (.t 12), some (56, true)⟩,
  ⟨some 58, .len (.t 57), some (56, true)⟩,
  ⟨some 59, .bin .eql (.t 58) (.c (.p (.s (.int .i64 0)))), some (56, true)⟩,
  ⟨some 60, .pick (.t 56) (.t 59) (.c (.p (.s (.bool false)))), none⟩,
  ⟨some 61, .mv (.t 60), none⟩,
  ⟨some 62, .mv (.t 13), some (61, true)⟩,
  ⟨some 63, .bin .eql (.t 62) (.c (.p (.s (.int .i64 3)))), some (61, true)⟩,
  ⟨some 64, .pick (.t 61) (.t 63) (.c (.p (.s (.bool false)))), none⟩,
  ⟨some 65, .mv (.t 64), none⟩,
  ⟨some 66, .call (.c (.fn (.func 12) [] [])) [], some (65, true)⟩,
  ⟨some 67, .pick (.t 65) (.t 66) (.c (.p (.s (.bool false)))), none⟩,
  ⟨some 4, .mv (.t 67), none⟩]
abbrev r5_13 : List CO := [
  ⟨some 68, .mv (.t 9), none⟩,
  ⟨some 69, .len (.t 68), none⟩,
  ⟨some 70, .mv (.t 5), none⟩,
  ⟨some 71, .bin .eql (.t 69) (.t 70), none⟩,
  ⟨some 72, .mv (.t 71), none⟩,
  ⟨some 73, .mv (.t 10), some (72, true)⟩,
  ⟨some 74, .mv (.t 6), some (72, true)⟩,
  ⟨some 75, .len (.t 74), some (72, true)⟩,
  ⟨some 76, .bin .eql (.t 73) (.t 75), some (72, true)⟩,
  ⟨some 77, .pick (.t 72) (.t 76) (.c (.p (.s (.bool false)))), none⟩,
  ⟨some 78, .mv (.t 77), none⟩,
  ⟨some 79, .mv (.t 11), some (78, true)⟩,
  ⟨some 80, .bin .eql (.t 79) (.c (.p (.s (.int .i64 0)))), some (78, true)⟩,
  ⟨some 81, .pick (.t 78) (.t 80) (.c (.p (.s (.bool false)))), none⟩,
  ⟨some 82, .mv (.t 81), none⟩,
  ⟨some 83, .mv (.t 13), some (82, true)⟩,
  ⟨some 84, .bin .eql (.t 83) (.c (.p (.s (.int .i64 0)))), some (82, true)⟩,
  ⟨some 85, .pick (.t 82) (.t 84) (.c (.p (.s (.bool false)))), none⟩,
  ⟨some 86, .mv (.t 85), none⟩,
  ⟨some 87, .mv (.t 12), some (86, true)⟩,
  ⟨some 88, .mv (.t 6), some (86, true)⟩,
  ⟨some 89, .call (.c (.fn (.func 15) [] [])) [.t 87, .t 88], some (86, true)⟩,
  ⟨some 90, .pick (.t 86) (.t 89) (.c (.p (.s (.bool false)))), none⟩,
  ⟨some 91, .mv (.t 90), none⟩,
  ⟨some 92, .call (.c (.fn (.func 12) [] [])) [], some (91, true)⟩,
  ⟨some 93, .pick (.t 91) (.t 92) (.c (.p (.s (.bool false)))), none⟩,
  ⟨some 4, .mv (.t 93), none⟩]
abbrev c5 : CC := .seq (.reg r5_0) (.seq (.reg r5_1) (.rest [0, 5] (.seq (.reg r5_2) (.seq (.reg r5_3) (.seq (.seq (.reg r5_4) (.block 0 k5_0)) (.rest [5, 6, 7] (.seq (.reg r5_9) (.rest [5, 6, 7, 9, 10, 11] (.seq (.reg r5_10) (.rest [5, 6, 9, 10, 11, 12, 13] (.seq (.seq (.reg r5_11) (.cond (.t 44) (.seq (.reg r5_12) (.rest [4] (.ret))) (.skip))) (.rest [5, 6, 9, 10, 11, 12, 13] (.seq (.reg r5_13) (.rest [4] (.ret)))))))))))))))
theorem F5 : Fun Tryd.prog 5 94 c5 [.tmp 4] 2 := ⟨⟨Tryd.f5, _, Tryd.func5, rfl, by kernel_rfl, Tryd.ntmps5, by kernel_rfl, by kernel_rfl⟩, by decide⟩

/-- linnet/linnetlaw22.ScriptWeights -/
abbrev r6_0 : List CO := [
  ⟨some 3, .box (.t 0), none⟩,
  ⟨some 6, .mv (.c (.p (.s (.bool false)))), none⟩]
abbrev r6_1 : List CO := [
  ⟨some 18, .mv (.t 2), none⟩,
  ⟨some 19, .toInt .i64 (.t 18), none⟩,
  ⟨some 20, .load true 4 (.t 3), none⟩,
  ⟨some 21, .mv (.t 1), none⟩,
  ⟨some 22, .build (tz50) [(0, 1, .c (.p (.s (.int .i64 7)))), (2, 1, .t 19), (45, 4, .t 20), (49, 1, .t 21)], none⟩,
  ⟨some 7, .alloc (tz50), none⟩,
  ⟨none, .store 50 (.t 7) (.t 22), none⟩]
abbrev r6_2 : List CO := [
  ⟨some 23, .aslice 1 4 (.t 3) none none, none⟩,
  ⟨some 24, .call (.c (.fn (.func 16) [] [])) [.t 23], none⟩,
  ⟨some 8, .mv (.t 24), none⟩]
abbrev r6_3 : List CO := [
  ⟨some 26, .mv (.t 8), none⟩,
  ⟨some 27, .call (.c (.fn (.func 17) [] [])) [.t 26], none⟩,
  ⟨some 25, .mv (.t 27), none⟩,
  ⟨some 28, .extract 0 (.t 25), none⟩,
  ⟨some 29, .extract 1 (.t 25), none⟩,
  ⟨some 9, .mv (.t 28), none⟩,
  ⟨some 10, .mv (.t 29), none⟩]
abbrev r6_4 : List CO := [
  ⟨some 30, .mv (.t 10), none⟩,
  ⟨some 31, .bin .neq (.t 30) (.c (.p (.s (.int .i64 0)))), none⟩,
  ⟨some 32, .mv (.t 31), none⟩,
  ⟨some 33, .mv (.t 9), some (32, false)⟩,
  ⟨some 34, .len (.t 33), some (32, false)⟩,
  ⟨some 35, .bin .neq (.t 34) (.c (.p (.s (.int .i64 4)))), some (32, false)⟩,
  ⟨some 36, .pick (.t 32) (.c (.p (.s (.bool true)))) (.t 35), none⟩]
abbrev r6_5 : List CO := [
  ⟨some 6, .mv (.c (.p (.s (.bool false)))), none⟩]
abbrev r6_6 : List CO := [
  ⟨some 37, .load true 50 (.t 7), none⟩,
  ⟨some 11, .alloc (tz50), none⟩,
  ⟨none, .store 50 (.t 11) (.t 37), none⟩]
abbrev r6_7 : List CO := [
  ⟨some 12, .mv (.c (.p (.s (.int .i64 0)))), none⟩]
abbrev r6_8 : List CO := [
  ⟨some 38, .mv (.t 12), none⟩,
  ⟨some 39, .bin .lss (.t 38) (.c (.p (.s (.int .i64 4)))), none⟩]
abbrev r6_10 : List CO := [
  ⟨some 42, .mv (.t 12), none⟩,
  ⟨some 43, .mv (.t 9), none⟩,
  ⟨some 44, .mv (.t 12), none⟩,
  ⟨some 45, .iaddrS 1 (.t 43) (.t 44), none⟩,
  ⟨some 46, .load false 1 (.t 45), none⟩,
  ⟨some 47, .faddr 45 (.t 11), none⟩,
  ⟨some 48, .iaddrA 1 4 (.t 47) (.t 42), none⟩,
  ⟨none, .store 1 (.t 48) (.t 46), none⟩]
abbrev k6_1 : CC := .reg r6_10
abbrev r6_9 : List CO := [
  ⟨some 40, .mv (.t 12), none⟩,
  ⟨some 41, .bin .add (.t 40) (.c (.p (.s (.int .i64 1)))), none⟩,
  ⟨some 12, .mv (.t 41), none⟩]
abbrev l6_12 : CC := .seq (.seq (.reg r6_8) (.cond (.t 39) (.skip) (.exit 0))) (.seq (.block 1 k6_1) (.rest [7, 8, 9, 11, 12] (.reg r6_9)))
abbrev k6_0 : CC := .loop l6_12
abbrev r6_11 : List CO := [
  ⟨some 50, .load true 50 (.t 7), none⟩,
  ⟨some 51, .bslice 50 1 (tz50) [(0, .t 50)], none⟩,
  ⟨some 52, .call (.c (.fn (.func 11) [] [])) [.t 51], none⟩,
  ⟨some 49, .mv (.t 52), none⟩,
  ⟨some 53, .extract 0 (.t 49), none⟩,
  ⟨some 54, .extract 1 (.t 49), none⟩,
  ⟨some 13, .mv (.t 53), none⟩,
  ⟨some 14, .mv (.t 54), none⟩]
abbrev r6_12 : List CO := [
  ⟨some 56, .load true 50 (.t 11), none⟩,
  ⟨some 57, .bslice 50 1 (tz50) [(0, .t 56)], none⟩,
  ⟨some 58, .call (.c (.fn (.func 11) [] [])) [.t 57], none⟩,
  ⟨some 55, .mv (.t 58), none⟩,
  ⟨some 59, .extract 0 (.t 55), none⟩,
  ⟨some 60, .extract 1 (.t 55), none⟩,
  ⟨some 15, .mv (.t 59), none⟩,
  ⟨some 16, .mv (.t 60), none⟩]
abbrev r6_13 : List CO := [
  ⟨some 61, .load true 50 (.t 7), none⟩,
  ⟨some 62, .bslice 50 1 (tz50) [(0, .t 61)], none⟩,
  ⟨some 63, .load true 50 (.t 11), none⟩,
  ⟨some 64, .bslice 50 1 (tz50) [(0, .t 63)], none⟩,
  ⟨some 65, .call (.c (.fn (.func 14) [] [])) [.t 62, .t 64], none⟩,
  ⟨some 17, .mv (.t 65), none⟩]
abbrev r6_14 : List CO := [
  ⟨some 66, .mv (.t 14), none⟩,
  ⟨some 67, .bin .eql (.t 66) (.c (.p (.s (.int .i64 0)))), none⟩,
  ⟨some 68, .mv (.t 17), none⟩,
  ⟨some 69, .beq false (.t 67) (.t 68), none⟩,
  ⟨some 70, .mv (.t 69), none⟩,
  ⟨some 71, .mv (.t 14), some (70, true)⟩,
  ⟨some 72, .bin .neq (.t 71) (.c (.p (.s (.int .i64 0)))), some (70, true)⟩,
  ⟨some 73, .mv (.t 72), some (70, true)⟩,
  ⟨some 74, .mv (.t 13), some (73, false)⟩,
  ⟨some 75, .mv (.t 15), some (73, false)⟩,
  ⟨some 76, .call (.c (.fn (.func 15) [] [])) [.t 74, .t 75], some (73, false)⟩,
  ⟨some 77, .pick (.t 73) (.c (.p (.s (.bool true)))) (.t 76), some (70, true)⟩,
  ⟨some 78, .pick (.t 70) (.t 77) (.c (.p (.s (.bool false)))), none⟩,
  ⟨some 79, .mv (.t 78), none⟩,
  ⟨some 80, .mv (.t 16), some (79, true)⟩,
  ⟨some 81, .bin .eql (.t 80) (.c (.p (.s (.int .i64 0)))), some (79, true)⟩,
  ⟨some 82, .pick (.t 79) (.t 81) (.c (.p (.s (.bool false)))), none⟩,
  ⟨some 83, .mv (.t 82), none⟩,
  ⟨some 84, .mv (.t 15), some (83, true)⟩,
  ⟨some 85, .len (.t 84), some (83, true)⟩,
  ⟨some 86, .bin .eql (.t 85) (.c (.p (.s (.int .i64 42)))), some (83, true)⟩,
  ⟨some 87, .pick (.t 83) (.t 86) (.c (.p (.s (.bool false)))), none⟩,
  ⟨some 88, .mv (.t 87), none⟩,
  ⟨some 89, .mv (.t 15), some (88, true)⟩,
  ⟨some 90, .slice 1 (.t 89) (some (.c (.p (.s (.int .i64 2))))) (some (.c (.p (.s (.int .i64 34))))), some (88, true)⟩,
  ⟨some 91, .mv (.t 8), some (88, true)⟩,
  ⟨some 92, .call (.c (.fn (.func 15) [] [])) [.t 90, .t 91], some (88, true)⟩,
  ⟨some 93, .pick (.t 88) (.t 92) (.c (.p (.s (.bool false)))), none⟩,
  ⟨some 94, .mv (.t 93), none⟩,
  ⟨some 95, .call (.c (.fn (.func 12) [] [])) [], some (94, true)⟩,
  ⟨some 96, .pick (.t 94) (.t 95) (.c (.p (.s (.bool false)))), none⟩,
  ⟨some 6, .mv (.t 96), none⟩]
abbrev c6 : CC := .seq (.reg r6_0) (.seq (.reg r6_1) (.rest [3, 7] (.seq (.reg r6_2) (.seq (.reg r6_3) (.rest [7, 8, 9, 10] (.seq (.seq (.reg r6_4) (.rest [7, 8, 9, 36] (.cond (.t 36) (.seq (.reg r6_5) (.ret)) (.skip)))) (.rest [7, 8, 9] (.seq (.reg r6_6) (.seq (.seq (.reg r6_7) (.block 0 k6_0)) (.rest [7, 8, 11] (.seq (.reg r6_11) (.rest [7, 8, 11, 13, 14] (.seq (.reg r6_12) (.rest [7, 8, 11, 13, 14, 15, 16] (.seq (.reg r6_13) (.rest [8, 13, 14, 15, 16, 17] (.seq (.reg r6_14) (.rest [6] (.ret)))))))))))))))))))
theorem F6 : Fun Tryd.prog 6 97 c6 [.tmp 6] 3 := ⟨⟨Tryd.f6, _, Tryd.func6, rfl, by kernel_rfl, Tryd.ntmps6, by kernel_rfl, by kernel_rfl⟩, by decide⟩

/-- linnet/linnetlaw22.ScriptBack -/
abbrev r8_0 : List CO := [
  ⟨some 4, .mv (.c (.p (.s (.bool false)))), none⟩]
abbrev r8_1 : List CO := [
  ⟨some 16, .mv (.t 0), none⟩,
  ⟨some 17, .call (.c (.fn (.func 9) [] [])) [.t 16], none⟩,
  ⟨some 18, .mv (.t 1), none⟩,
  ⟨some 19, .call (.c (.fn (.func 10) [] [])) [.t 18], none⟩,
  ⟨some 0, .mv (.t 17), none⟩,
  ⟨some 1, .mv (.t 19), none⟩]
abbrev r8_2 : List CO := [
  ⟨some 21, .mv (.t 0), none⟩,
  ⟨some 22, .call (.c (.fn (.func 11) [] [])) [.t 21], none⟩,
  ⟨some 20, .mv (.t 22), none⟩,
  ⟨some 23, .extract 0 (.t 20), none⟩,
  ⟨some 24, .extract 1 (.t 20), none⟩,
  ⟨some 5, .mv (.t 23), none⟩,
  ⟨some 6, .mv (.t 24), none⟩]
abbrev r8_3 : List CO := [
  ⟨some 25, .mv (.t 6), none⟩,
  ⟨some 26, .bin .eql (.t 25) (.c (.p (.s (.int .i64 0)))), none⟩]
abbrev r8_4 : List CO := [
  ⟨some 28, .mv (.t 5), none⟩,
  ⟨some 29, .call (.c (.fn (.func 13) [] [])) [.t 28], none⟩,
  ⟨some 27, .mv (.t 29), none⟩,
  ⟨some 30, .extract 0 (.t 27), none⟩,
  ⟨some 31, .extract 1 (.t 27), none⟩,
  ⟨some 32, .extract 2 (.t 27), none⟩,
  ⟨some 7, .mv (.t 30), none⟩,
  ⟨some 8, .mv (.t 31), none⟩,
  ⟨some 9, .mv (.t 32), none⟩]
abbrev r8_5 : List CO := [
  ⟨some 33, .mv (.t 9), none⟩,
  ⟨some 34, .bin .neq (.t 33) (.c (.p (.s (.int .i64 0)))), none⟩,
  ⟨some 35, .mv (.t 34), none⟩,
  ⟨some 36, .mv (.t 8), some (35, false)⟩,
  ⟨some 37, .mv (.t 5), some (35, false)⟩,
  ⟨some 38, .len (.t 37), some (35, false)⟩,
  ⟨some 39, .bin .neq (.t 36) (.t 38), some (35, false)⟩,
  ⟨some 40, .pick (.t 35) (.c (.p (.s (.bool true)))) (.t 39), none⟩,
  ⟨some 41, .mv (.t 40), none⟩,
  ⟨some 42, .mv (.t 7), some (41, false)⟩,
  ⟨some 43, .mv (.t 0), some (41, false)⟩,
  ⟨some 44, .call (.c (.fn (.func 14) [] [])) [.t 42, .t 43], some (41, false)⟩,
  ⟨some 45, .un .not (.t 44), some (41, false)⟩,
  ⟨some 46, .pick (.t 41) (.c (.p (.s (.bool true)))) (.t 45), none⟩]
abbrev r8_6 : List CO := [
  ⟨some 4, .mv (.c (.p (.s (.bool false)))), none⟩]
abbrev r8_7 : List CO := [
  ⟨some 48, .mv (.t 1), none⟩,
  ⟨some 49, .call (.c (.fn (.func 13) [] [])) [.t 48], none⟩,
  ⟨some 47, .mv (.t 49), none⟩,
  ⟨some 50, .extract 0 (.t 47), none⟩,
  ⟨some 51, .extract 1 (.t 47), none⟩,
  ⟨some 52, .extract 2 (.t 47), none⟩,
  ⟨some 10, .mv (.t 50), none⟩,
  ⟨some 11, .mv (.t 51), none⟩,
  ⟨some 12, .mv (.t 52), none⟩]
abbrev r8_8 : List CO := [
  ⟨some 53, .mv (.t 11), none⟩,
  ⟨some 54, .bin .lss (.t 53) (.c (.p (.s (.int .i64 0)))), none⟩,
  ⟨some 55, .mv (.t 54), none⟩,
  ⟨some 56, .mv (.t 11), some (55, false)⟩,
  ⟨some 57, .mv (.t 1), some (55, false)⟩,
  ⟨some 58, .len (.t 57), some (55, false)⟩,
  ⟨some 59, .bin .gtr (.t 56) (.t 58), some (55, false)⟩,
  ⟨some 60, .pick (.t 55) (.c (.p (.s (.bool true)))) (.t 59), none⟩,
  ⟨some 61, .mv (.t 60), none⟩,
  ⟨some 62, .mv (.t 10), some (61, false)⟩,
  ⟨some 63, .len (.t 62), some (61, false)⟩,
  ⟨some 64, .mv (.t 11), some (61, false)⟩,
  ⟨some 65, .bin .gtr (.t 63) (.t 64), some (61, false)⟩,
  ⟨some 66, .pick (.t 61) (.c (.p (.s (.bool true)))) (.t 65), none⟩]
abbrev r8_9 : List CO := [
  ⟨some 4, .mv (.c (.p (.s (.bool false)))), none⟩]
abbrev r8_10 : List CO := [
  ⟨some 68, .mv (.t 10), none⟩,
  ⟨some 69, .call (.c (.fn (.func 11) [] [])) [.t 68], none⟩,
  ⟨some 67, .mv (.t 69), none⟩,
  ⟨some 70, .extract 0 (.t 67), none⟩,
  ⟨some 71, .extract 1 (.t 67), none⟩,
  ⟨some 13, .mv (.t 70), none⟩,
  ⟨some 14, .mv (.t 71), none⟩]
abbrev r8_11 : List CO := [
  ⟨some 15, .mv (.c (.p (.s (.int .i64 0)))), none⟩]
abbrev r8_12 : List CO := [
  ⟨some 72, .mv (.t 15), none⟩,
  ⟨some 73, .mv (.t 10), none⟩,
  ⟨some 74, .len (.t 73), none⟩,
  ⟨some 75, .bin .lss (.t 72) (.t 74), none⟩]
abbrev r8_14 : List CO := [
  ⟨some 78, .mv (.t 10), none⟩,
  ⟨some 79, .mv (.t 15), none⟩,
  ⟨some 80, .iaddrS 50 (.t 78) (.t 79), none⟩,
  ⟨some 81, .load true 50 (.t 80), none⟩,
  ⟨some 82, .call (.c (.fn (.func 18) [] [])) [.t 81], none⟩,
  ⟨some 83, .bin .neq (.t 82) (.c (.p (.s (.int .i64 0)))), none⟩]
abbrev r8_15 : List CO := [
  ⟨some 4, .mv (.c (.p (.s (.bool false)))), none⟩]
abbrev k8_1 : CC := .seq (.reg r8_14) (.rest [1, 10, 11, 13, 14, 15, 83] (.cond (.t 83) (.seq (.reg r8_15) (.ret)) (.skip)))
abbrev r8_13 : List CO := [
  ⟨some 76, .mv (.t 15), none⟩,
  ⟨some 77, .bin .add (.t 76) (.c (.p (.s (.int .i64 1)))), none⟩,
  ⟨some 15, .mv (.t 77), none⟩]
abbrev l8_17 : CC := .seq (.seq (.reg r8_12) (.rest [1, 10, 11, 13, 14, 15, 75] (.cond (.t 75) (.skip) (.exit 0)))) (.rest [1, 10, 11, 13, 14, 15] (.seq (.block 1 k8_1) (.rest [1, 10, 11, 13, 14, 15] (.reg r8_13))))
abbrev k8_0 : CC := .loop l8_17
abbrev r8_16 : List CO := [
  ⟨some 84, .mv (.t 14), none⟩,
  ⟨some 85, .bin .eql (.t 84) (.c (.p (.s (.int .i64 0)))), none⟩,
  ⟨some 86, .mv (.t 85), none⟩,
  ⟨some 87, .mv (.t 13), some (86, true)⟩,
  ⟨some 88, .mv (.t 1), some (86, true)⟩,
  ⟨some 89, .mv (.t 11), some (86, true)⟩,
  ⟨some 90, .slice 1 (.t 88) none (some (.t 89)), some (86, true)⟩,
  ⟨some 91, .call (.c (.fn (.func 15) [] [])) [.t 87, .t 90], some (86, true)⟩,
  ⟨some 92, .pick (.t 86) (.t 91) (.c (.p (.s (.bool false)))), none⟩,
  ⟨some 93, .mv (.t 92), none⟩,
  ⟨some 94, .call (.c (.fn (.func 12) [] [])) [], some (93, true)⟩,
  ⟨some 95, .pick (.t 93) (.t 94) (.c (.p (.s (.bool false)))), none⟩,
  ⟨some 4, .mv (.t 95), none⟩]
abbrev c8 : CC := .seq (.reg r8_0) (.seq (.reg r8_1) (.rest [0, 1] (.seq (.reg r8_2) (.rest [0, 1, 5, 6] (.seq (.seq (.reg r8_3) (.cond (.t 26) (.seq (.reg r8_4) (.rest [0, 1, 5, 7, 8, 9] (.seq (.reg r8_5) (.rest [1, 46] (.cond (.t 46) (.seq (.reg r8_6) (.ret)) (.skip)))))) (.skip))) (.rest [1] (.seq (.reg r8_7) (.rest [1, 10, 11] (.seq (.seq (.reg r8_8) (.rest [1, 10, 11, 66] (.cond (.t 66) (.seq (.reg r8_9) (.ret)) (.skip)))) (.rest [1, 10, 11] (.seq (.reg r8_10) (.rest [1, 10, 11, 13, 14] (.seq (.seq (.reg r8_11) (.block 0 k8_0)) (.rest [1, 11, 13, 14] (.seq (.reg r8_16) (.rest [4] (.ret)))))))))))))))))
theorem F8 : Fun Tryd.prog 8 96 c8 [.tmp 4] 2 := ⟨⟨Tryd.f8, _, Tryd.func8, rfl, by kernel_rfl, Tryd.ntmps8, by kernel_rfl, by kernel_rfl⟩, by decide⟩

end Go.Proofs.YtlijecknkpcgfaaDoor
