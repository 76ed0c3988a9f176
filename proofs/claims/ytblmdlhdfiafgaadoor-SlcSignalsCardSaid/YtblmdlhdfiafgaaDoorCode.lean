/- Code of functions of the given program in compact form, printed by a program of this repository (wip/tools/gen.py) out of what Lean prints of the loaded functions; each is checked by the kernel. -/
import Derived.Test.YtblmdlhdfiafgaaDoorSz
import Derived.Test.YtblmdlhdfiafgaaDoorProg
import Derived.KernelRfl
namespace Go.Proofs.YtblmdlhdfiafgaaDoor
open Go Go.Shade

/-- linnet/linnetlaw07.SlcBack -/
abbrev r3_0 : List CO := [
  ⟨some 4, .mv (.c (.p (.s (.bool false)))), none⟩]
abbrev r3_1 : List CO := [
  ⟨some 13, .mv (.t 0), none⟩,
  ⟨some 14, .call (.c (.fn (.func 9) [] [])) [.t 13], none⟩,
  ⟨some 15, .mv (.t 1), none⟩,
  ⟨some 16, .call (.c (.fn (.func 10) [] [])) [.t 15], none⟩,
  ⟨some 0, .mv (.t 14), none⟩,
  ⟨some 1, .mv (.t 16), none⟩]
abbrev r3_2 : List CO := [
  ⟨some 18, .mv (.t 0), none⟩,
  ⟨some 19, .call (.c (.fn (.func 11) [] [])) [.t 18], none⟩,
  ⟨some 17, .mv (.t 19), none⟩,
  ⟨some 20, .extract 0 (.t 17), none⟩,
  ⟨some 21, .extract 1 (.t 17), none⟩,
  ⟨some 5, .mv (.t 20), none⟩,
  ⟨some 6, .mv (.t 21), none⟩]
abbrev r3_3 : List CO := [
  ⟨some 22, .mv (.t 6), none⟩,
  ⟨some 23, .bin .eql (.t 22) (.c (.p (.s (.int .i64 0)))), none⟩]
abbrev r3_4 : List CO := [
  ⟨some 25, .mv (.t 5), none⟩,
  ⟨some 26, .call (.c (.fn (.func 12) [] [])) [.t 25], none⟩,
  ⟨some 24, .mv (.t 26), none⟩,
  ⟨some 27, .extract 0 (.t 24), none⟩,
  ⟨some 28, .extract 1 (.t 24), none⟩,
  ⟨some 7, .mv (.t 27), none⟩,
  ⟨some 8, .mv (.t 28), none⟩]
abbrev r3_5 : List CO := [
  ⟨some 29, .mv (.t 8), none⟩,
  ⟨some 30, .bin .neq (.t 29) (.c (.p (.s (.int .i64 0)))), none⟩,
  ⟨some 31, .mv (.t 30), none⟩,
  ⟨some 32, .mv (.t 7), some (31, false)⟩,
  ⟨some 33, .mv (.t 0), some (31, false)⟩,
  ⟨some 34, .call (.c (.fn (.func 13) [] [])) [.t 32, .t 33], some (31, false)⟩,
  ⟨some 35, .un .not (.t 34), some (31, false)⟩,
  ⟨some 36, .pick (.t 31) (.c (.p (.s (.bool true)))) (.t 35), none⟩,
  ⟨some 37, .mv (.t 36), none⟩,
  ⟨some 38, .mv (.t 5), some (37, false)⟩,
  ⟨some 39, .len (.t 38), some (37, false)⟩,
  ⟨some 40, .mv (.t 0), some (37, false)⟩,
  ⟨some 41, .len (.t 40), some (37, false)⟩,
  ⟨some 42, .bin .mul (.c (.p (.s (.int .i64 3)))) (.t 41), some (37, false)⟩,
  ⟨some 43, .bin .neq (.t 39) (.t 42), some (37, false)⟩,
  ⟨some 44, .pick (.t 37) (.c (.p (.s (.bool true)))) (.t 43), none⟩]
abbrev r3_6 : List CO := [
  ⟨some 4, .mv (.c (.p (.s (.bool false)))), none⟩]
abbrev r3_7 : List CO := [
  ⟨some 46, .mv (.t 1), none⟩,
  ⟨some 47, .call (.c (.fn (.func 12) [] [])) [.t 46], none⟩,
  ⟨some 45, .mv (.t 47), none⟩,
  ⟨some 48, .extract 0 (.t 45), none⟩,
  ⟨some 49, .extract 1 (.t 45), none⟩,
  ⟨some 9, .mv (.t 48), none⟩,
  ⟨some 10, .mv (.t 49), none⟩]
abbrev r3_8 : List CO := [
  ⟨some 50, .mv (.t 10), none⟩,
  ⟨some 51, .bin .neq (.t 50) (.c (.p (.s (.int .i64 0)))), none⟩]
abbrev r3_9 : List CO := [
  ⟨some 52, .mv (.t 9), none⟩,
  ⟨some 53, .len (.t 52), none⟩,
  ⟨some 54, .bin .eql (.t 53) (.c (.p (.s (.int .i64 0)))), none⟩,
  ⟨some 55, .mv (.t 54), none⟩,
  ⟨some 56, .call (.c (.fn (.func 14) [] [])) [], some (55, true)⟩,
  ⟨some 57, .pick (.t 55) (.t 56) (.c (.p (.s (.bool false)))), none⟩,
  ⟨some 4, .mv (.t 57), none⟩]
abbrev r3_10 : List CO := [
  ⟨some 59, .mv (.t 9), none⟩,
  ⟨some 60, .call (.c (.fn (.func 11) [] [])) [.t 59], none⟩,
  ⟨some 58, .mv (.t 60), none⟩,
  ⟨some 61, .extract 0 (.t 58), none⟩,
  ⟨some 62, .extract 1 (.t 58), none⟩,
  ⟨some 11, .mv (.t 61), none⟩,
  ⟨some 12, .mv (.t 62), none⟩]
abbrev r3_11 : List CO := [
  ⟨some 63, .mv (.t 12), none⟩,
  ⟨some 64, .bin .eql (.t 63) (.c (.p (.s (.int .i64 0)))), none⟩,
  ⟨some 65, .mv (.t 64), none⟩,
  ⟨some 66, .mv (.t 11), some (65, true)⟩,
  ⟨some 67, .mv (.t 1), some (65, true)⟩,
  ⟨some 68, .call (.c (.fn (.func 15) [] [])) [.t 66, .t 67], some (65, true)⟩,
  ⟨some 69, .pick (.t 65) (.t 68) (.c (.p (.s (.bool false)))), none⟩,
  ⟨some 70, .mv (.t 69), none⟩,
  ⟨some 71, .call (.c (.fn (.func 14) [] [])) [], some (70, true)⟩,
  ⟨some 72, .pick (.t 70) (.t 71) (.c (.p (.s (.bool false)))), none⟩,
  ⟨some 4, .mv (.t 72), none⟩]
abbrev c3 : CC := .seq (.reg r3_0) (.seq (.reg r3_1) (.rest [0, 1] (.seq (.reg r3_2) (.rest [0, 1, 5, 6] (.seq (.seq (.reg r3_3) (.cond (.t 23) (.seq (.reg r3_4) (.rest [0, 1, 5, 7, 8] (.seq (.reg r3_5) (.rest [1, 44] (.cond (.t 44) (.seq (.reg r3_6) (.ret)) (.skip)))))) (.skip))) (.rest [1] (.seq (.reg r3_7) (.rest [1, 9, 10] (.seq (.seq (.reg r3_8) (.cond (.t 51) (.seq (.reg r3_9) (.rest [4] (.ret))) (.skip))) (.rest [1, 9] (.seq (.reg r3_10) (.rest [1, 11, 12] (.seq (.reg r3_11) (.rest [4] (.ret)))))))))))))))
theorem F3 : Fun Tryd.prog 3 73 c3 [.tmp 4] 2 := ⟨⟨Tryd.f3, _, Tryd.func3, rfl, by kernel_rfl, Tryd.ntmps3, by kernel_rfl, by kernel_rfl⟩, by decide⟩

/-- linnet/linnetlaw07.SlcParts -/
abbrev r4_0 : List CO := [
  ⟨some 4, .mv (.c (.p (.s (.bool false)))), none⟩]
abbrev r4_1 : List CO := [
  ⟨some 11, .mv (.t 0), none⟩,
  ⟨some 12, .call (.c (.fn (.func 10) [] [])) [.t 11], none⟩,
  ⟨some 13, .mv (.t 1), none⟩,
  ⟨some 14, .call (.c (.fn (.func 10) [] [])) [.t 13], none⟩,
  ⟨some 0, .mv (.t 12), none⟩,
  ⟨some 1, .mv (.t 14), none⟩]
abbrev r4_2 : List CO := [
  ⟨some 16, .mv (.t 0), none⟩,
  ⟨some 17, .call (.c (.fn (.func 12) [] [])) [.t 16], none⟩,
  ⟨some 15, .mv (.t 17), none⟩,
  ⟨some 18, .extract 0 (.t 15), none⟩,
  ⟨some 19, .extract 1 (.t 15), none⟩,
  ⟨some 5, .mv (.t 18), none⟩,
  ⟨some 6, .mv (.t 19), none⟩]
abbrev r4_3 : List CO := [
  ⟨some 21, .mv (.t 1), none⟩,
  ⟨some 22, .call (.c (.fn (.func 12) [] [])) [.t 21], none⟩,
  ⟨some 20, .mv (.t 22), none⟩,
  ⟨some 23, .extract 0 (.t 20), none⟩,
  ⟨some 24, .extract 1 (.t 20), none⟩,
  ⟨some 7, .mv (.t 23), none⟩,
  ⟨some 8, .mv (.t 24), none⟩]
abbrev r4_4 : List CO := [
  ⟨some 26, .bslice 1 0 ([.s (.int .u8 0)]) [], none⟩,
  ⟨some 27, .mv (.t 0), none⟩,
  ⟨some 28, .append 1 1 ([.s (.int .u8 0)]) (.t 26) (.t 27), none⟩,
  ⟨some 29, .mv (.t 1), none⟩,
  ⟨some 30, .append 1 1 ([.s (.int .u8 0)]) (.t 28) (.t 29), none⟩,
  ⟨some 31, .call (.c (.fn (.func 12) [] [])) [.t 30], none⟩,
  ⟨some 25, .mv (.t 31), none⟩,
  ⟨some 32, .extract 0 (.t 25), none⟩,
  ⟨some 33, .extract 1 (.t 25), none⟩,
  ⟨some 9, .mv (.t 32), none⟩,
  ⟨some 10, .mv (.t 33), none⟩]
abbrev r4_5 : List CO := [
  ⟨some 34, .mv (.t 0), none⟩,
  ⟨some 35, .len (.t 34), none⟩,
  ⟨some 36, .bin .rem (.t 35) (.c (.p (.s (.int .i64 3)))), none⟩,
  ⟨some 37, .bin .eql (.t 36) (.c (.p (.s (.int .i64 0)))), none⟩,
  ⟨some 38, .mv (.t 37), none⟩,
  ⟨some 39, .mv (.t 1), some (38, true)⟩,
  ⟨some 40, .len (.t 39), some (38, true)⟩,
  ⟨some 41, .bin .rem (.t 40) (.c (.p (.s (.int .i64 3)))), some (38, true)⟩,
  ⟨some 42, .bin .eql (.t 41) (.c (.p (.s (.int .i64 0)))), some (38, true)⟩,
  ⟨some 43, .pick (.t 38) (.t 42) (.c (.p (.s (.bool false)))), none⟩]
abbrev r4_6 : List CO := [
  ⟨some 44, .mv (.t 10), none⟩,
  ⟨some 45, .bin .eql (.t 44) (.c (.p (.s (.int .i64 0)))), none⟩,
  ⟨some 46, .mv (.t 6), none⟩,
  ⟨some 47, .bin .eql (.t 46) (.c (.p (.s (.int .i64 0)))), none⟩,
  ⟨some 48, .mv (.t 47), none⟩,
  ⟨some 49, .mv (.t 8), some (48, true)⟩,
  ⟨some 50, .bin .eql (.t 49) (.c (.p (.s (.int .i64 0)))), some (48, true)⟩,
  ⟨some 51, .pick (.t 48) (.t 50) (.c (.p (.s (.bool false)))), none⟩,
  ⟨some 52, .beq true (.t 45) (.t 51), none⟩]
abbrev r4_7 : List CO := [
  ⟨some 4, .mv (.c (.p (.s (.bool false)))), none⟩]
abbrev r4_8 : List CO := [
  ⟨some 53, .mv (.t 6), none⟩,
  ⟨some 54, .bin .neq (.t 53) (.c (.p (.s (.int .i64 0)))), none⟩,
  ⟨some 55, .mv (.t 54), none⟩,
  ⟨some 56, .mv (.t 8), some (55, false)⟩,
  ⟨some 57, .bin .neq (.t 56) (.c (.p (.s (.int .i64 0)))), some (55, false)⟩,
  ⟨some 58, .pick (.t 55) (.c (.p (.s (.bool true)))) (.t 57), none⟩]
abbrev r4_9 : List CO := [
  ⟨some 59, .call (.c (.fn (.func 14) [] [])) [], none⟩,
  ⟨some 4, .mv (.t 59), none⟩]
abbrev r4_10 : List CO := [
  ⟨some 60, .mv (.t 10), none⟩,
  ⟨some 61, .bin .eql (.t 60) (.c (.p (.s (.int .i64 0)))), none⟩,
  ⟨some 62, .mv (.t 61), none⟩,
  ⟨some 63, .mv (.t 9), some (62, true)⟩,
  ⟨some 64, .bslice 6 0 ([.s (.int .i64 0), .s (.int .i64 0), .s (.bool false), .s (.bool false), .s (.bool false), .s (.int .u8 0)]) [], some (62, true)⟩,
  ⟨some 65, .mv (.t 5), some (62, true)⟩,
  ⟨some 66, .append 6 24 ([.s (.int .i64 0), .s (.int .i64 0), .s (.bool false), .s (.bool false), .s (.bool false), .s (.int .u8 0)]) (.t 64) (.t 65), some (62, true)⟩,
  ⟨some 67, .mv (.t 7), some (62, true)⟩,
  ⟨some 68, .append 6 24 ([.s (.int .i64 0), .s (.int .i64 0), .s (.bool false), .s (.bool false), .s (.bool false), .s (.int .u8 0)]) (.t 66) (.t 67), some (62, true)⟩,
  ⟨some 69, .call (.c (.fn (.func 13) [] [])) [.t 63, .t 68], some (62, true)⟩,
  ⟨some 70, .pick (.t 62) (.t 69) (.c (.p (.s (.bool false)))), none⟩,
  ⟨some 71, .mv (.t 70), none⟩,
  ⟨some 72, .call (.c (.fn (.func 14) [] [])) [], some (71, true)⟩,
  ⟨some 73, .pick (.t 71) (.t 72) (.c (.p (.s (.bool false)))), none⟩,
  ⟨some 4, .mv (.t 73), none⟩]
abbrev c4 : CC := .seq (.reg r4_0) (.seq (.reg r4_1) (.rest [0, 1] (.seq (.reg r4_2) (.rest [0, 1, 5, 6] (.seq (.reg r4_3) (.rest [0, 1, 5, 6, 7, 8] (.seq (.reg r4_4) (.rest [0, 1, 5, 6, 7, 8, 9, 10] (.seq (.seq (.reg r4_5) (.rest [5, 6, 7, 8, 9, 10, 43] (.cond (.t 43) (.seq (.reg r4_6) (.rest [5, 6, 7, 8, 9, 10, 52] (.cond (.t 52) (.seq (.reg r4_7) (.ret)) (.skip)))) (.skip)))) (.rest [5, 6, 7, 8, 9, 10] (.seq (.seq (.reg r4_8) (.rest [5, 7, 9, 10, 58] (.cond (.t 58) (.seq (.reg r4_9) (.ret)) (.skip)))) (.rest [5, 7, 9, 10] (.seq (.reg r4_10) (.rest [4] (.ret)))))))))))))))
theorem F4 : Fun Tryd.prog 4 74 c4 [.tmp 4] 2 := ⟨⟨Tryd.f4, _, Tryd.func4, rfl, by kernel_rfl, Tryd.ntmps4, by kernel_rfl, by kernel_rfl⟩, by decide⟩

/-- linnet/linnetlaw07.SlcMarks -/
abbrev r5_0 : List CO := [
  ⟨some 2, .box (.t 0), none⟩,
  ⟨some 4, .mv (.c (.p (.s (.bool false)))), none⟩]
abbrev r5_1 : List CO := [
  ⟨some 13, .mv (.t 1), none⟩,
  ⟨some 14, .bslice 1 3 ([.s (.int .u8 0)]) [(0, .c (.p (.s (.int .u8 7)))), (1, .t 13), (2, .c (.p (.s (.int .u8 9))))], none⟩,
  ⟨some 15, .call (.c (.fn (.func 12) [] [])) [.t 14], none⟩,
  ⟨some 12, .mv (.t 15), none⟩,
  ⟨some 16, .extract 0 (.t 12), none⟩,
  ⟨some 17, .extract 1 (.t 12), none⟩,
  ⟨some 5, .mv (.t 16), none⟩,
  ⟨some 6, .mv (.t 17), none⟩]
abbrev r5_2 : List CO := [
  ⟨some 18, .mv (.t 6), none⟩,
  ⟨some 19, .bin .eql (.t 18) (.c (.p (.s (.int .i64 0)))), none⟩,
  ⟨some 20, .mv (.t 1), none⟩,
  ⟨some 21, .bin .and (.t 20) (.c (.p (.s (.int .u8 28)))), none⟩,
  ⟨some 22, .bin .eql (.t 21) (.c (.p (.s (.int .u8 0)))), none⟩,
  ⟨some 23, .beq true (.t 19) (.t 22), none⟩]
abbrev r5_3 : List CO := [
  ⟨some 4, .mv (.c (.p (.s (.bool false)))), none⟩]
abbrev r5_4 : List CO := [
  ⟨some 24, .mv (.t 6), none⟩,
  ⟨some 25, .bin .eql (.t 24) (.c (.p (.s (.int .i64 0)))), none⟩,
  ⟨some 26, .mv (.t 25), none⟩,
  ⟨some 27, .mv (.t 5), some (26, true)⟩,
  ⟨some 28, .len (.t 27), some (26, true)⟩,
  ⟨some 29, .bin .neq (.t 28) (.c (.p (.s (.int .i64 1)))), some (26, true)⟩,
  ⟨some 30, .mv (.t 29), some (26, true)⟩,
  ⟨some 31, .mv (.t 5), some (30, false)⟩,
  ⟨some 32, .iaddrS 6 (.t 31) (.c (.p (.s (.int .i64 0)))), some (30, false)⟩,
  ⟨some 33, .faddr 0 (.t 32), some (30, false)⟩,
  ⟨some 34, .load false 1 (.t 33), some (30, false)⟩,
  ⟨some 35, .bin .neq (.t 34) (.c (.p (.s (.int .i64 7)))), some (30, false)⟩,
  ⟨some 36, .pick (.t 30) (.c (.p (.s (.bool true)))) (.t 35), some (26, true)⟩,
  ⟨some 37, .mv (.t 36), some (26, true)⟩,
  ⟨some 38, .mv (.t 5), some (37, false)⟩,
  ⟨some 39, .iaddrS 6 (.t 38) (.c (.p (.s (.int .i64 0)))), some (37, false)⟩,
  ⟨some 40, .faddr 5 (.t 39), some (37, false)⟩,
  ⟨some 41, .load false 1 (.t 40), some (37, false)⟩,
  ⟨some 42, .bin .neq (.t 41) (.c (.p (.s (.int .u8 9)))), some (37, false)⟩,
  ⟨some 43, .pick (.t 37) (.c (.p (.s (.bool true)))) (.t 42), some (26, true)⟩,
  ⟨some 44, .mv (.t 43), some (26, true)⟩,
  ⟨some 45, .mv (.t 5), some (44, false)⟩,
  ⟨some 46, .iaddrS 6 (.t 45) (.c (.p (.s (.int .i64 0)))), some (44, false)⟩,
  ⟨some 47, .faddr 1 (.t 46), some (44, false)⟩,
  ⟨some 48, .load false 1 (.t 47), some (44, false)⟩,
  ⟨some 49, .mv (.t 1), some (44, false)⟩,
  ⟨some 50, .bin .rem (.t 49) (.c (.p (.s (.int .u8 4)))), some (44, false)⟩,
  ⟨some 51, .toInt .i64 (.t 50), some (44, false)⟩,
  ⟨some 52, .bin .neq (.t 48) (.t 51), some (44, false)⟩,
  ⟨some 53, .pick (.t 44) (.c (.p (.s (.bool true)))) (.t 52), some (26, true)⟩,
  ⟨some 54, .mv (.t 53), some (26, true)⟩,
  ⟨some 55, .mv (.t 5), some (54, false)⟩,
  ⟨some 56, .iaddrS 6 (.t 55) (.c (.p (.s (.int .i64 0)))), some (54, false)⟩,
  ⟨some 57, .faddr 2 (.t 56), some (54, false)⟩,
  ⟨some 58, .load false 1 (.t 57), some (54, false)⟩,
  ⟨some 59, .mv (.t 1), some (54, false)⟩,
  ⟨some 60, .bin .geq (.t 59) (.c (.p (.s (.int .u8 128)))), some (54, false)⟩,
  ⟨some 61, .beq true (.t 58) (.t 60), some (54, false)⟩,
  ⟨some 62, .pick (.t 54) (.c (.p (.s (.bool true)))) (.t 61), some (26, true)⟩,
  ⟨some 63, .mv (.t 62), some (26, true)⟩,
  ⟨some 64, .mv (.t 5), some (63, false)⟩,
  ⟨some 65, .iaddrS 6 (.t 64) (.c (.p (.s (.int .i64 0)))), some (63, false)⟩,
  ⟨some 66, .faddr 3 (.t 65), some (63, false)⟩,
  ⟨some 67, .load false 1 (.t 66), some (63, false)⟩,
  ⟨some 68, .mv (.t 1), some (63, false)⟩,
  ⟨some 69, .bin .and (.t 68) (.c (.p (.s (.int .u8 64)))), some (63, false)⟩,
  ⟨some 70, .bin .neq (.t 69) (.c (.p (.s (.int .u8 0)))), some (63, false)⟩,
  ⟨some 71, .beq true (.t 67) (.t 70), some (63, false)⟩,
  ⟨some 72, .pick (.t 63) (.c (.p (.s (.bool true)))) (.t 71), some (26, true)⟩,
  ⟨some 73, .mv (.t 72), some (26, true)⟩,
  ⟨some 74, .mv (.t 5), some (73, false)⟩,
  ⟨some 75, .iaddrS 6 (.t 74) (.c (.p (.s (.int .i64 0)))), some (73, false)⟩,
  ⟨some 76, .faddr 4 (.t 75), some (73, false)⟩,
  ⟨some 77, .load false 1 (.t 76), some (73, false)⟩,
  ⟨some 78, .mv (.t 1), some (73, false)⟩,
  ⟨some 79, .bin .and (.t 78) (.c (.p (.s (.int .u8 32)))), some (73, false)⟩,
  ⟨some 80, .bin .neq (.t 79) (.c (.p (.s (.int .u8 0)))), some (73, false)⟩,
  ⟨some 81, .beq true (.t 77) (.t 80), some (73, false)⟩,
  ⟨some 82, .pick (.t 73) (.c (.p (.s (.bool true)))) (.t 81), some (26, true)⟩,
  ⟨some 83, .pick (.t 26) (.t 82) (.c (.p (.s (.bool false)))), none⟩]
abbrev r5_5 : List CO := [
  ⟨some 4, .mv (.c (.p (.s (.bool false)))), none⟩]
abbrev r5_6 : List CO := [
  ⟨some 85, .load true 6 (.t 2), none⟩,
  ⟨some 86, .bslice 6 1 ([.s (.int .i64 0), .s (.int .i64 0), .s (.bool false), .s (.bool false), .s (.bool false), .s (.int .u8 0)]) [(0, .t 85)], none⟩,
  ⟨some 87, .call (.c (.fn (.func 11) [] [])) [.t 86], none⟩,
  ⟨some 84, .mv (.t 87), none⟩,
  ⟨some 88, .extract 0 (.t 84), none⟩,
  ⟨some 89, .extract 1 (.t 84), none⟩,
  ⟨some 7, .mv (.t 88), none⟩,
  ⟨some 8, .mv (.t 89), none⟩]
abbrev r5_7 : List CO := [
  ⟨some 90, .mv (.t 8), none⟩,
  ⟨some 91, .bin .neq (.t 90) (.c (.p (.s (.int .i64 0)))), none⟩]
abbrev r5_8 : List CO := [
  ⟨some 92, .mv (.t 7), none⟩,
  ⟨some 93, .len (.t 92), none⟩,
  ⟨some 94, .bin .eql (.t 93) (.c (.p (.s (.int .i64 0)))), none⟩,
  ⟨some 95, .mv (.t 94), none⟩,
  ⟨some 96, .call (.c (.fn (.func 14) [] [])) [], some (95, true)⟩,
  ⟨some 97, .pick (.t 95) (.t 96) (.c (.p (.s (.bool false)))), none⟩,
  ⟨some 4, .mv (.t 97), none⟩]
abbrev r5_9 : List CO := [
  ⟨some 98, .load true 6 (.t 2), none⟩,
  ⟨some 9, .alloc ([.s (.int .i64 0), .s (.int .i64 0), .s (.bool false), .s (.bool false), .s (.bool false), .s (.int .u8 0)]), none⟩,
  ⟨none, .store 6 (.t 9) (.t 98), none⟩]
abbrev r5_10 : List CO := [
  ⟨some 99, .faddr 2 (.t 9), none⟩,
  ⟨some 100, .load false 1 (.t 99), none⟩,
  ⟨some 101, .un .not (.t 100), none⟩,
  ⟨some 102, .faddr 2 (.t 9), none⟩,
  ⟨none, .store 1 (.t 102) (.t 101), none⟩]
abbrev r5_11 : List CO := [
  ⟨some 104, .load true 6 (.t 9), none⟩,
  ⟨some 105, .bslice 6 1 ([.s (.int .i64 0), .s (.int .i64 0), .s (.bool false), .s (.bool false), .s (.bool false), .s (.int .u8 0)]) [(0, .t 104)], none⟩,
  ⟨some 106, .call (.c (.fn (.func 11) [] [])) [.t 105], none⟩,
  ⟨some 103, .mv (.t 106), none⟩,
  ⟨some 107, .extract 0 (.t 103), none⟩,
  ⟨some 108, .extract 1 (.t 103), none⟩,
  ⟨some 10, .mv (.t 107), none⟩,
  ⟨some 11, .mv (.t 108), none⟩]
abbrev r5_12 : List CO := [
  ⟨some 109, .mv (.t 11), none⟩,
  ⟨some 110, .bin .eql (.t 109) (.c (.p (.s (.int .i64 0)))), none⟩,
  ⟨some 111, .mv (.t 110), none⟩,
  ⟨some 112, .mv (.t 7), some (111, true)⟩,
  ⟨some 113, .len (.t 112), some (111, true)⟩,
  ⟨some 114, .bin .eql (.t 113) (.c (.p (.s (.int .i64 3)))), some (111, true)⟩,
  ⟨some 115, .pick (.t 111) (.t 114) (.c (.p (.s (.bool false)))), none⟩,
  ⟨some 116, .mv (.t 115), none⟩,
  ⟨some 117, .mv (.t 10), some (116, true)⟩,
  ⟨some 118, .len (.t 117), some (116, true)⟩,
  ⟨some 119, .bin .eql (.t 118) (.c (.p (.s (.int .i64 3)))), some (116, true)⟩,
  ⟨some 120, .pick (.t 116) (.t 119) (.c (.p (.s (.bool false)))), none⟩,
  ⟨some 121, .mv (.t 120), none⟩,
  ⟨some 122, .mv (.t 7), some (121, true)⟩,
  ⟨some 123, .iaddrS 1 (.t 122) (.c (.p (.s (.int .i64 0)))), some (121, true)⟩,
  ⟨some 124, .load false 1 (.t 123), some (121, true)⟩,
  ⟨some 125, .mv (.t 10), some (121, true)⟩,
  ⟨some 126, .iaddrS 1 (.t 125) (.c (.p (.s (.int .i64 0)))), some (121, true)⟩,
  ⟨some 127, .load false 1 (.t 126), some (121, true)⟩,
  ⟨some 128, .bin .eql (.t 124) (.t 127), some (121, true)⟩,
  ⟨some 129, .pick (.t 121) (.t 128) (.c (.p (.s (.bool false)))), none⟩,
  ⟨some 130, .mv (.t 129), none⟩,
  ⟨some 131, .mv (.t 7), some (130, true)⟩,
  ⟨some 132, .iaddrS 1 (.t 131) (.c (.p (.s (.int .i64 1)))), some (130, true)⟩,
  ⟨some 133, .load false 1 (.t 132), some (130, true)⟩,
  ⟨some 134, .mv (.t 10), some (130, true)⟩,
  ⟨some 135, .iaddrS 1 (.t 134) (.c (.p (.s (.int .i64 1)))), some (130, true)⟩,
  ⟨some 136, .load false 1 (.t 135), some (130, true)⟩,
  ⟨some 137, .bin .xor (.t 133) (.t 136), some (130, true)⟩,
  ⟨some 138, .bin .eql (.t 137) (.c (.p (.s (.int .u8 128)))), some (130, true)⟩,
  ⟨some 139, .pick (.t 130) (.t 138) (.c (.p (.s (.bool false)))), none⟩,
  ⟨some 140, .mv (.t 139), none⟩,
  ⟨some 141, .mv (.t 7), some (140, true)⟩,
  ⟨some 142, .iaddrS 1 (.t 141) (.c (.p (.s (.int .i64 2)))), some (140, true)⟩,
  ⟨some 143, .load false 1 (.t 142), some (140, true)⟩,
  ⟨some 144, .mv (.t 10), some (140, true)⟩,
  ⟨some 145, .iaddrS 1 (.t 144) (.c (.p (.s (.int .i64 2)))), some (140, true)⟩,
  ⟨some 146, .load false 1 (.t 145), some (140, true)⟩,
  ⟨some 147, .bin .eql (.t 143) (.t 146), some (140, true)⟩,
  ⟨some 148, .pick (.t 140) (.t 147) (.c (.p (.s (.bool false)))), none⟩,
  ⟨some 149, .mv (.t 148), none⟩,
  ⟨some 150, .call (.c (.fn (.func 14) [] [])) [], some (149, true)⟩,
  ⟨some 151, .pick (.t 149) (.t 150) (.c (.p (.s (.bool false)))), none⟩,
  ⟨some 4, .mv (.t 151), none⟩]
abbrev b5_12 : List (List Nat) := [[], [0], [1], [2], [3, 2], [4, 2], [2, 5], [6, 2], [7], [8, 7], [9, 7], [7, 10], [11, 7], [12], [13, 12], [14, 12], [12], [16, 12], [17, 12], [15, 18, 12], [12, 19], [20, 12], [21], [22, 21], [23, 21], [21], [25, 21], [26, 21], [24, 27, 21], [28, 21], [21, 29], [30, 21], [31], [32, 31], [33, 31], [31], [35, 31], [36, 31], [34, 37, 31], [31, 38], [39, 31], [40, 40], [40, 41], [42, 41, 0, 1, 2, 3, 4, 5, 6, 7, 8, 9, 10, 11, 12, 13, 14, 15, 16, 17, 18, 19, 20, 21, 22, 23, 24, 25, 26, 27, 28, 29, 30, 31, 32, 33, 34, 35, 36, 37, 38, 39, 40, 41, 42]]
abbrev c5 : CC := .seq (.reg r5_0) (.seq (.reg r5_1) (.rest [1, 2, 5, 6] (.seq (.seq (.reg r5_2) (.rest [1, 2, 5, 6, 23] (.cond (.t 23) (.seq (.reg r5_3) (.ret)) (.skip)))) (.rest [1, 2, 5, 6] (.seq (.seq (.reg r5_4) (.rest [2, 83] (.cond (.t 83) (.seq (.reg r5_5) (.ret)) (.skip)))) (.rest [2] (.seq (.reg r5_6) (.rest [2, 7, 8] (.seq (.seq (.reg r5_7) (.cond (.t 91) (.seq (.reg r5_8) (.rest [4] (.ret))) (.skip))) (.rest [2, 7] (.seq (.reg r5_9) (.seq (.reg r5_10) (.rest [7, 9] (.seq (.reg r5_11) (.rest [7, 10, 11] (.seq (.regd r5_12 b5_12) (.rest [4] (.ret))))))))))))))))))
theorem F5 : Fun Tryd.prog 5 152 c5 [.tmp 4] 2 := ⟨⟨Tryd.f5, _, Tryd.func5, rfl, by kernel_rfl, Tryd.ntmps5, by kernel_rfl, by kernel_rfl⟩, by decide⟩

/-- linnet/linnetlaw07.SlcAlone -/
abbrev r6_0 : List CO := [
  ⟨some 2, .box (.t 0), none⟩,
  ⟨some 3, .box (.t 1), none⟩,
  ⟨some 4, .mv (.c (.p (.s (.bool false)))), none⟩]
abbrev r6_1 : List CO := [
  ⟨some 13, .load true 6 (.t 2), none⟩,
  ⟨some 14, .bslice 6 1 ([.s (.int .i64 0), .s (.int .i64 0), .s (.bool false), .s (.bool false), .s (.bool false), .s (.int .u8 0)]) [(0, .t 13)], none⟩,
  ⟨some 15, .call (.c (.fn (.func 11) [] [])) [.t 14], none⟩,
  ⟨some 12, .mv (.t 15), none⟩,
  ⟨some 16, .extract 0 (.t 12), none⟩,
  ⟨some 17, .extract 1 (.t 12), none⟩,
  ⟨some 5, .mv (.t 16), none⟩,
  ⟨some 6, .mv (.t 17), none⟩]
abbrev r6_2 : List CO := [
  ⟨some 19, .load true 6 (.t 3), none⟩,
  ⟨some 20, .bslice 6 1 ([.s (.int .i64 0), .s (.int .i64 0), .s (.bool false), .s (.bool false), .s (.bool false), .s (.int .u8 0)]) [(0, .t 19)], none⟩,
  ⟨some 21, .call (.c (.fn (.func 11) [] [])) [.t 20], none⟩,
  ⟨some 18, .mv (.t 21), none⟩,
  ⟨some 22, .extract 0 (.t 18), none⟩,
  ⟨some 23, .extract 1 (.t 18), none⟩,
  ⟨some 7, .mv (.t 22), none⟩,
  ⟨some 8, .mv (.t 23), none⟩]
abbrev r6_3 : List CO := [
  ⟨some 24, .mv (.t 6), none⟩,
  ⟨some 25, .bin .neq (.t 24) (.c (.p (.s (.int .i64 0)))), none⟩]
abbrev r6_4 : List CO := [
  ⟨some 26, .mv (.t 5), none⟩,
  ⟨some 27, .len (.t 26), none⟩,
  ⟨some 28, .bin .eql (.t 27) (.c (.p (.s (.int .i64 0)))), none⟩,
  ⟨some 29, .mv (.t 28), none⟩,
  ⟨some 30, .call (.c (.fn (.func 14) [] [])) [], some (29, true)⟩,
  ⟨some 31, .pick (.t 29) (.t 30) (.c (.p (.s (.bool false)))), none⟩,
  ⟨some 4, .mv (.t 31), none⟩]
abbrev r6_5 : List CO := [
  ⟨some 32, .mv (.t 5), none⟩,
  ⟨some 33, .len (.t 32), none⟩,
  ⟨some 34, .bin .neq (.t 33) (.c (.p (.s (.int .i64 3)))), none⟩]
abbrev r6_6 : List CO := [
  ⟨some 4, .mv (.c (.p (.s (.bool false)))), none⟩]
abbrev r6_7 : List CO := [
  ⟨some 9, .mv (.c (.p (.s (.int .i64 1)))), none⟩]
abbrev r6_8 : List CO := [
  ⟨some 35, .mv (.t 9), none⟩,
  ⟨some 36, .bin .lss (.t 35) (.c (.p (.s (.int .i64 3)))), none⟩]
abbrev r6_10 : List CO := [
  ⟨some 40, .mv (.t 5), none⟩,
  ⟨some 41, .mv (.t 9), none⟩,
  ⟨some 42, .slice 1 (.t 40) none (some (.t 41)), none⟩,
  ⟨some 43, .call (.c (.fn (.func 12) [] [])) [.t 42], none⟩,
  ⟨some 39, .mv (.t 43), none⟩,
  ⟨some 44, .extract 0 (.t 39), none⟩,
  ⟨some 45, .extract 1 (.t 39), none⟩,
  ⟨some 10, .mv (.t 44), none⟩,
  ⟨some 11, .mv (.t 45), none⟩]
abbrev r6_11 : List CO := [
  ⟨some 46, .mv (.t 10), none⟩,
  ⟨some 47, .len (.t 46), none⟩,
  ⟨some 48, .bin .neq (.t 47) (.c (.p (.s (.int .i64 0)))), none⟩,
  ⟨some 49, .mv (.t 48), none⟩,
  ⟨some 50, .mv (.t 11), some (49, false)⟩,
  ⟨some 51, .bin .neq (.t 50) (.c (.p (.s (.int .i64 2)))), some (49, false)⟩,
  ⟨some 52, .pick (.t 49) (.c (.p (.s (.bool true)))) (.t 51), none⟩]
abbrev r6_12 : List CO := [
  ⟨some 4, .mv (.c (.p (.s (.bool false)))), none⟩]
abbrev k6_1 : CC := .seq (.reg r6_10) (.rest [2, 3, 5, 7, 8, 9, 10, 11] (.seq (.reg r6_11) (.rest [2, 3, 5, 7, 8, 9, 52] (.cond (.t 52) (.seq (.reg r6_12) (.ret)) (.skip)))))
abbrev r6_9 : List CO := [
  ⟨some 37, .mv (.t 9), none⟩,
  ⟨some 38, .bin .add (.t 37) (.c (.p (.s (.int .i64 1)))), none⟩,
  ⟨some 9, .mv (.t 38), none⟩]
abbrev l6_14 : CC := .seq (.seq (.reg r6_8) (.cond (.t 36) (.skip) (.exit 0))) (.seq (.block 1 k6_1) (.rest [2, 3, 5, 7, 8, 9] (.reg r6_9)))
abbrev k6_0 : CC := .loop l6_14
abbrev r6_13 : List CO := [
  ⟨some 53, .mv (.t 8), none⟩,
  ⟨some 54, .bin .neq (.t 53) (.c (.p (.s (.int .i64 0)))), none⟩,
  ⟨some 55, .mv (.t 54), none⟩,
  ⟨some 56, .mv (.t 5), some (55, false)⟩,
  ⟨some 57, .mv (.t 7), some (55, false)⟩,
  ⟨some 58, .call (.c (.fn (.func 15) [] [])) [.t 56, .t 57], some (55, false)⟩,
  ⟨some 59, .load true 6 (.t 2), some (55, false)⟩,
  ⟨some 60, .load true 6 (.t 3), some (55, false)⟩,
  ⟨some 61, .eqs false [0, 0, 1, 1, 1, 0] (.t 59) (.t 60), some (55, false)⟩,
  ⟨some 62, .beq false (.t 58) (.t 61), some (55, false)⟩,
  ⟨some 63, .pick (.t 55) (.c (.p (.s (.bool true)))) (.t 62), none⟩,
  ⟨some 64, .mv (.t 63), none⟩,
  ⟨some 65, .call (.c (.fn (.func 14) [] [])) [], some (64, true)⟩,
  ⟨some 66, .pick (.t 64) (.t 65) (.c (.p (.s (.bool false)))), none⟩,
  ⟨some 4, .mv (.t 66), none⟩]
abbrev b6_13 : List (List Nat) := [[], [0], [1], [2], [2], [3, 4, 2, 2], [2], [2], [6, 7, 2], [5, 8, 2], [2, 9], [10, 5], [11, 11], [11, 12], [13, 12, 0, 1, 2, 3, 4, 5, 6, 7, 8, 9, 10, 11, 12, 13]]
abbrev c6 : CC := .seq (.reg r6_0) (.seq (.reg r6_1) (.rest [2, 3, 5, 6] (.seq (.reg r6_2) (.rest [2, 3, 5, 6, 7, 8] (.seq (.seq (.reg r6_3) (.cond (.t 25) (.seq (.reg r6_4) (.rest [4] (.ret))) (.skip))) (.rest [2, 3, 5, 7, 8] (.seq (.seq (.reg r6_5) (.cond (.t 34) (.seq (.reg r6_6) (.ret)) (.skip))) (.rest [2, 3, 5, 7, 8] (.seq (.seq (.reg r6_7) (.block 0 k6_0)) (.rest [2, 3, 5, 7, 8] (.seq (.regd r6_13 b6_13) (.rest [4] (.ret)))))))))))))
theorem F6 : Fun Tryd.prog 6 67 c6 [.tmp 4] 2 := ⟨⟨Tryd.f6, _, Tryd.func6, rfl, by kernel_rfl, Tryd.ntmps6, by kernel_rfl, by kernel_rfl⟩, by decide⟩

/-- linnet/linnetlaw07.SlcTells -/
abbrev r7_0 : List CO := [
  ⟨some 6, .mv (.c (.p (.s (.bool false)))), none⟩]
abbrev r7_1 : List CO := [
  ⟨some 20, .mv (.t 0), none⟩,
  ⟨some 21, .call (.c (.fn (.func 9) [] [])) [.t 20], none⟩,
  ⟨some 22, .mv (.t 1), none⟩,
  ⟨some 23, .call (.c (.fn (.func 10) [] [])) [.t 22], none⟩,
  ⟨some 0, .mv (.t 21), none⟩,
  ⟨some 1, .mv (.t 23), none⟩]
abbrev r7_2 : List CO := [
  ⟨some 7, .mv (.c (.p (.s (.int .i64 0)))), none⟩]
abbrev r7_3 : List CO := [
  ⟨some 24, .mv (.t 7), none⟩,
  ⟨some 25, .mv (.t 0), none⟩,
  ⟨some 26, .len (.t 25), none⟩,
  ⟨some 27, .bin .lss (.t 24) (.t 26), none⟩]
abbrev r7_5 : List CO := [
  ⟨some 30, .mv (.t 0), none⟩,
  ⟨some 31, .mv (.t 7), none⟩,
  ⟨some 32, .iaddrS 6 (.t 30) (.t 31), none⟩,
  ⟨some 33, .load true 6 (.t 32), none⟩,
  ⟨some 34, .call (.c (.fn (.func 16) [] [])) [.t 33], none⟩,
  ⟨some 35, .bin .eql (.t 34) (.c (.p (.s (.int .i64 0)))), none⟩,
  ⟨some 36, .mv (.t 0), none⟩,
  ⟨some 37, .mv (.t 7), none⟩,
  ⟨some 38, .iaddrS 6 (.t 36) (.t 37), none⟩,
  ⟨some 39, .load true 6 (.t 38), none⟩,
  ⟨some 40, .call (.c (.fn (.func 17) [] [])) [.t 39], none⟩,
  ⟨some 41, .beq true (.t 35) (.t 40), none⟩]
abbrev b7_5 : List (List Nat) := [[], [], [0, 1], [2], [3], [4], [], [], [6, 7], [8], [9, 4], [5, 10]]
abbrev r7_6 : List CO := [
  ⟨some 6, .mv (.c (.p (.s (.bool false)))), none⟩]
abbrev k7_1 : CC := .seq (.regd r7_5 b7_5) (.rest [0, 1, 2, 7, 41] (.cond (.t 41) (.seq (.reg r7_6) (.ret)) (.skip)))
abbrev r7_4 : List CO := [
  ⟨some 28, .mv (.t 7), none⟩,
  ⟨some 29, .bin .add (.t 28) (.c (.p (.s (.int .i64 1)))), none⟩,
  ⟨some 7, .mv (.t 29), none⟩]
abbrev l7_9 : CC := .seq (.seq (.reg r7_3) (.rest [0, 1, 2, 7, 27] (.cond (.t 27) (.skip) (.exit 0)))) (.rest [0, 1, 2, 7] (.seq (.block 1 k7_1) (.rest [0, 1, 2, 7] (.reg r7_4))))
abbrev k7_0 : CC := .loop l7_9
abbrev r7_7 : List CO := [
  ⟨some 43, .mv (.t 2), none⟩,
  ⟨some 44, .call (.c (.fn (.func 18) [] [])) [.t 43], none⟩,
  ⟨some 42, .mv (.t 44), none⟩,
  ⟨some 45, .extract 0 (.t 42), none⟩,
  ⟨some 46, .extract 1 (.t 42), none⟩,
  ⟨some 8, .mv (.t 45), none⟩,
  ⟨some 9, .mv (.t 46), none⟩]
abbrev r7_8 : List CO := [
  ⟨some 48, .mv (.t 2), none⟩,
  ⟨some 49, .call (.c (.fn (.func 19) [] [])) [.t 48], none⟩,
  ⟨some 47, .mv (.t 49), none⟩,
  ⟨some 50, .extract 0 (.t 47), none⟩,
  ⟨some 51, .extract 1 (.t 47), none⟩,
  ⟨some 10, .mv (.t 50), none⟩,
  ⟨some 11, .mv (.t 51), none⟩]
abbrev r7_9 : List CO := [
  ⟨some 52, .mv (.t 8), none⟩,
  ⟨some 53, .mv (.t 2), none⟩,
  ⟨some 54, .call (.c (.fn (.func 20) [] [])) [.t 53], none⟩,
  ⟨some 55, .bin .neq (.t 52) (.t 54), none⟩,
  ⟨some 56, .mv (.t 55), none⟩,
  ⟨some 57, .mv (.t 9), some (56, false)⟩,
  ⟨some 58, .mv (.t 8), some (56, false)⟩,
  ⟨some 59, .bin .gtr (.t 58) (.c (.p (.s (.int .i64 0)))), some (56, false)⟩,
  ⟨some 60, .beq true (.t 57) (.t 59), some (56, false)⟩,
  ⟨some 61, .pick (.t 56) (.c (.p (.s (.bool true)))) (.t 60), none⟩,
  ⟨some 62, .mv (.t 61), none⟩,
  ⟨some 63, .mv (.t 10), some (62, false)⟩,
  ⟨some 64, .mv (.t 2), some (62, false)⟩,
  ⟨some 65, .call (.c (.fn (.func 21) [] [])) [.t 64], some (62, false)⟩,
  ⟨some 66, .bin .neq (.t 63) (.t 65), some (62, false)⟩,
  ⟨some 67, .pick (.t 62) (.c (.p (.s (.bool true)))) (.t 66), none⟩,
  ⟨some 68, .mv (.t 67), none⟩,
  ⟨some 69, .mv (.t 11), some (68, false)⟩,
  ⟨some 70, .mv (.t 10), some (68, false)⟩,
  ⟨some 71, .bin .gtr (.t 70) (.c (.p (.s (.int .i64 0)))), some (68, false)⟩,
  ⟨some 72, .beq true (.t 69) (.t 71), some (68, false)⟩,
  ⟨some 73, .pick (.t 68) (.c (.p (.s (.bool true)))) (.t 72), none⟩]
abbrev r7_10 : List CO := [
  ⟨some 6, .mv (.c (.p (.s (.bool false)))), none⟩]
abbrev r7_11 : List CO := [
  ⟨some 75, .mv (.t 0), none⟩,
  ⟨some 76, .call (.c (.fn (.func 11) [] [])) [.t 75], none⟩,
  ⟨some 74, .mv (.t 76), none⟩,
  ⟨some 77, .extract 0 (.t 74), none⟩,
  ⟨some 78, .extract 1 (.t 74), none⟩,
  ⟨some 12, .mv (.t 77), none⟩,
  ⟨some 13, .mv (.t 78), none⟩]
abbrev r7_12 : List CO := [
  ⟨some 80, .mv (.t 0), none⟩,
  ⟨some 81, .call (.c (.fn (.func 22) [] [])) [.t 80], none⟩,
  ⟨some 79, .mv (.t 81), none⟩,
  ⟨some 82, .extract 0 (.t 79), none⟩,
  ⟨some 83, .extract 1 (.t 79), none⟩,
  ⟨some 14, .mv (.t 82), none⟩,
  ⟨some 15, .mv (.t 83), none⟩]
abbrev r7_13 : List CO := [
  ⟨some 85, .mv (.t 1), none⟩,
  ⟨some 86, .call (.c (.fn (.func 12) [] [])) [.t 85], none⟩,
  ⟨some 84, .mv (.t 86), none⟩,
  ⟨some 87, .extract 0 (.t 84), none⟩,
  ⟨some 88, .extract 1 (.t 84), none⟩,
  ⟨some 16, .mv (.t 87), none⟩,
  ⟨some 17, .mv (.t 88), none⟩]
abbrev r7_14 : List CO := [
  ⟨some 90, .mv (.t 1), none⟩,
  ⟨some 91, .call (.c (.fn (.func 23) [] [])) [.t 90], none⟩,
  ⟨some 89, .mv (.t 91), none⟩,
  ⟨some 92, .extract 0 (.t 89), none⟩,
  ⟨some 93, .extract 1 (.t 89), none⟩,
  ⟨some 18, .mv (.t 92), none⟩,
  ⟨some 19, .mv (.t 93), none⟩]
abbrev r7_15 : List CO := [
  ⟨some 94, .mv (.t 13), none⟩,
  ⟨some 95, .bin .eql (.t 94) (.c (.p (.s (.int .i64 0)))), none⟩,
  ⟨some 96, .mv (.t 15), none⟩,
  ⟨some 97, .beq true (.t 95) (.t 96), none⟩,
  ⟨some 98, .mv (.t 97), none⟩,
  ⟨some 99, .mv (.t 15), some (98, false)⟩,
  ⟨some 100, .un .not (.t 99), some (98, false)⟩,
  ⟨some 101, .mv (.t 100), some (98, false)⟩,
  ⟨some 102, .mv (.t 13), some (101, true)⟩,
  ⟨some 103, .bin .neq (.t 102) (.c (.p (.s (.int .i64 1)))), some (101, true)⟩,
  ⟨some 104, .pick (.t 101) (.t 103) (.c (.p (.s (.bool false)))), some (98, false)⟩,
  ⟨some 105, .pick (.t 98) (.c (.p (.s (.bool true)))) (.t 104), none⟩,
  ⟨some 106, .mv (.t 105), none⟩,
  ⟨some 107, .mv (.t 17), some (106, false)⟩,
  ⟨some 108, .bin .eql (.t 107) (.c (.p (.s (.int .i64 0)))), some (106, false)⟩,
  ⟨some 109, .mv (.t 19), some (106, false)⟩,
  ⟨some 110, .beq true (.t 108) (.t 109), some (106, false)⟩,
  ⟨some 111, .pick (.t 106) (.c (.p (.s (.bool true)))) (.t 110), none⟩,
  ⟨some 112, .mv (.t 111), none⟩,
  ⟨some 113, .mv (.t 19), some (112, false)⟩,
  ⟨some 114, .un .not (.t 113), some (112, false)⟩,
  ⟨some 115, .mv (.t 114), some (112, false)⟩,
  ⟨some 116, .mv (.t 17), some (115, true)⟩,
  ⟨some 117, .bin .neq (.t 116) (.c (.p (.s (.int .i64 2)))), some (115, true)⟩,
  ⟨some 118, .pick (.t 115) (.t 117) (.c (.p (.s (.bool false)))), some (112, false)⟩,
  ⟨some 119, .pick (.t 112) (.c (.p (.s (.bool true)))) (.t 118), none⟩]
abbrev r7_16 : List CO := [
  ⟨some 6, .mv (.c (.p (.s (.bool false)))), none⟩]
abbrev r7_17 : List CO := [
  ⟨some 120, .mv (.t 12), none⟩,
  ⟨some 121, .mv (.t 14), none⟩,
  ⟨some 122, .call (.c (.fn (.func 15) [] [])) [.t 120, .t 121], none⟩,
  ⟨some 123, .mv (.t 122), none⟩,
  ⟨some 124, .mv (.t 16), some (123, true)⟩,
  ⟨some 125, .mv (.t 18), some (123, true)⟩,
  ⟨some 126, .call (.c (.fn (.func 13) [] [])) [.t 124, .t 125], some (123, true)⟩,
  ⟨some 127, .pick (.t 123) (.t 126) (.c (.p (.s (.bool false)))), none⟩,
  ⟨some 128, .mv (.t 127), none⟩,
  ⟨some 129, .call (.c (.fn (.func 14) [] [])) [], some (128, true)⟩,
  ⟨some 130, .pick (.t 128) (.t 129) (.c (.p (.s (.bool false)))), none⟩,
  ⟨some 6, .mv (.t 130), none⟩]
abbrev c7 : CC := .seq (.reg r7_0) (.seq (.reg r7_1) (.rest [0, 1, 2] (.seq (.seq (.reg r7_2) (.block 0 k7_0)) (.rest [0, 1, 2] (.seq (.reg r7_7) (.rest [0, 1, 2, 8, 9] (.seq (.reg r7_8) (.rest [0, 1, 2, 8, 9, 10, 11] (.seq (.seq (.reg r7_9) (.rest [0, 1, 73] (.cond (.t 73) (.seq (.reg r7_10) (.ret)) (.skip)))) (.rest [0, 1] (.seq (.reg r7_11) (.rest [0, 1, 12, 13] (.seq (.reg r7_12) (.rest [1, 12, 13, 14, 15] (.seq (.reg r7_13) (.rest [1, 12, 13, 14, 15, 16, 17] (.seq (.reg r7_14) (.rest [12, 13, 14, 15, 16, 17, 18, 19] (.seq (.seq (.reg r7_15) (.rest [12, 14, 16, 18, 119] (.cond (.t 119) (.seq (.reg r7_16) (.ret)) (.skip)))) (.rest [12, 14, 16, 18] (.seq (.reg r7_17) (.rest [6] (.ret)))))))))))))))))))))))
theorem F7 : Fun Tryd.prog 7 131 c7 [.tmp 6] 3 := ⟨⟨Tryd.f7, _, Tryd.func7, rfl, by kernel_rfl, Tryd.ntmps7, by kernel_rfl, by kernel_rfl⟩, by decide⟩

/-- linnet/linnetlaw07.SlcSignals -/
abbrev r8_0 : List CO := [
  ⟨some 4, .mv (.c (.p (.s (.bool false)))), none⟩]
abbrev r8_1 : List CO := [
  ⟨some 14, .mv (.t 0), none⟩,
  ⟨some 15, .call (.c (.fn (.func 18) [] [])) [.t 14], none⟩,
  ⟨some 13, .mv (.t 15), none⟩,
  ⟨some 16, .extract 0 (.t 13), none⟩,
  ⟨some 17, .extract 1 (.t 13), none⟩,
  ⟨some 5, .mv (.t 16), none⟩,
  ⟨some 6, .mv (.t 17), none⟩]
abbrev r8_2 : List CO := [
  ⟨some 19, .mv (.t 1), none⟩,
  ⟨some 20, .call (.c (.fn (.func 19) [] [])) [.t 19], none⟩,
  ⟨some 18, .mv (.t 20), none⟩,
  ⟨some 21, .extract 0 (.t 18), none⟩,
  ⟨some 22, .extract 1 (.t 18), none⟩,
  ⟨some 7, .mv (.t 21), none⟩,
  ⟨some 8, .mv (.t 22), none⟩]
abbrev r8_3 : List CO := [
  ⟨some 23, .mv (.t 6), none⟩,
  ⟨some 24, .mv (.t 0), none⟩,
  ⟨some 25, .bin .geq (.t 24) (.c (.p (.s (.int .i64 1)))), none⟩,
  ⟨some 26, .mv (.t 25), none⟩,
  ⟨some 27, .mv (.t 0), some (26, true)⟩,
  ⟨some 28, .bin .leq (.t 27) (.c (.p (.s (.int .i64 9)))), some (26, true)⟩,
  ⟨some 29, .pick (.t 26) (.t 28) (.c (.p (.s (.bool false)))), none⟩,
  ⟨some 30, .beq true (.t 23) (.t 29), none⟩,
  ⟨some 31, .mv (.t 30), none⟩,
  ⟨some 32, .mv (.t 6), some (31, false)⟩,
  ⟨some 33, .un .not (.t 32), some (31, false)⟩,
  ⟨some 34, .mv (.t 33), some (31, false)⟩,
  ⟨some 35, .mv (.t 5), some (34, true)⟩,
  ⟨some 36, .bin .neq (.t 35) (.c (.p (.s (.int .i64 0)))), some (34, true)⟩,
  ⟨some 37, .pick (.t 34) (.t 36) (.c (.p (.s (.bool false)))), some (31, false)⟩,
  ⟨some 38, .pick (.t 31) (.c (.p (.s (.bool true)))) (.t 37), none⟩,
  ⟨some 39, .mv (.t 38), none⟩,
  ⟨some 40, .mv (.t 8), some (39, false)⟩,
  ⟨some 41, .un .not (.t 40), some (39, false)⟩,
  ⟨some 42, .mv (.t 41), some (39, false)⟩,
  ⟨some 43, .mv (.t 7), some (42, true)⟩,
  ⟨some 44, .bin .neq (.t 43) (.c (.p (.s (.int .i64 0)))), some (42, true)⟩,
  ⟨some 45, .pick (.t 42) (.t 44) (.c (.p (.s (.bool false)))), some (39, false)⟩,
  ⟨some 46, .pick (.t 39) (.c (.p (.s (.bool true)))) (.t 45), none⟩]
abbrev r8_4 : List CO := [
  ⟨some 4, .mv (.c (.p (.s (.bool false)))), none⟩]
abbrev r8_5 : List CO := [
  ⟨some 47, .mv (.t 6), none⟩]
abbrev r8_6 : List CO := [
  ⟨some 49, .mv (.t 5), none⟩,
  ⟨some 50, .call (.c (.fn (.func 19) [] [])) [.t 49], none⟩,
  ⟨some 48, .mv (.t 50), none⟩,
  ⟨some 51, .extract 0 (.t 48), none⟩,
  ⟨some 52, .extract 1 (.t 48), none⟩,
  ⟨some 9, .mv (.t 51), none⟩,
  ⟨some 10, .mv (.t 52), none⟩]
abbrev r8_7 : List CO := [
  ⟨some 53, .mv (.t 10), none⟩,
  ⟨some 54, .un .not (.t 53), none⟩,
  ⟨some 55, .mv (.t 54), none⟩,
  ⟨some 56, .mv (.t 9), some (55, false)⟩,
  ⟨some 57, .mv (.t 0), some (55, false)⟩,
  ⟨some 58, .bin .neq (.t 56) (.t 57), some (55, false)⟩,
  ⟨some 59, .pick (.t 55) (.c (.p (.s (.bool true)))) (.t 58), none⟩,
  ⟨some 60, .mv (.t 59), none⟩,
  ⟨some 61, .mv (.t 5), some (60, false)⟩,
  ⟨some 62, .bin .lss (.t 61) (.c (.p (.s (.int .i64 236)))), some (60, false)⟩,
  ⟨some 63, .pick (.t 60) (.c (.p (.s (.bool true)))) (.t 62), none⟩,
  ⟨some 64, .mv (.t 63), none⟩,
  ⟨some 65, .mv (.t 5), some (64, false)⟩,
  ⟨some 66, .bin .gtr (.t 65) (.c (.p (.s (.int .i64 246)))), some (64, false)⟩,
  ⟨some 67, .pick (.t 64) (.c (.p (.s (.bool true)))) (.t 66), none⟩,
  ⟨some 68, .mv (.t 67), none⟩,
  ⟨some 69, .mv (.t 5), some (68, false)⟩,
  ⟨some 70, .bin .eql (.t 69) (.c (.p (.s (.int .i64 240)))), some (68, false)⟩,
  ⟨some 71, .pick (.t 68) (.c (.p (.s (.bool true)))) (.t 70), none⟩]
abbrev r8_8 : List CO := [
  ⟨some 4, .mv (.c (.p (.s (.bool false)))), none⟩]
abbrev r8_9 : List CO := [
  ⟨some 72, .mv (.t 8), none⟩]
abbrev r8_10 : List CO := [
  ⟨some 74, .mv (.t 7), none⟩,
  ⟨some 75, .call (.c (.fn (.func 18) [] [])) [.t 74], none⟩,
  ⟨some 73, .mv (.t 75), none⟩,
  ⟨some 76, .extract 0 (.t 73), none⟩,
  ⟨some 77, .extract 1 (.t 73), none⟩,
  ⟨some 11, .mv (.t 76), none⟩,
  ⟨some 12, .mv (.t 77), none⟩]
abbrev r8_11 : List CO := [
  ⟨some 78, .mv (.t 12), none⟩,
  ⟨some 79, .un .not (.t 78), none⟩,
  ⟨some 80, .mv (.t 79), none⟩,
  ⟨some 81, .mv (.t 11), some (80, false)⟩,
  ⟨some 82, .mv (.t 1), some (80, false)⟩,
  ⟨some 83, .bin .neq (.t 81) (.t 82), some (80, false)⟩,
  ⟨some 84, .pick (.t 80) (.c (.p (.s (.bool true)))) (.t 83), none⟩]
abbrev r8_12 : List CO := [
  ⟨some 4, .mv (.c (.p (.s (.bool false)))), none⟩]
abbrev r8_13 : List CO := [
  ⟨some 85, .call (.c (.fn (.func 14) [] [])) [], none⟩,
  ⟨some 4, .mv (.t 85), none⟩]
abbrev c8 : CC := .seq (.reg r8_0) (.seq (.reg r8_1) (.rest [0, 1, 5, 6] (.seq (.reg r8_2) (.rest [0, 1, 5, 6, 7, 8] (.seq (.seq (.reg r8_3) (.rest [0, 1, 5, 6, 7, 8, 46] (.cond (.t 46) (.seq (.reg r8_4) (.ret)) (.skip)))) (.rest [0, 1, 5, 6, 7, 8] (.seq (.seq (.reg r8_5) (.cond (.t 47) (.seq (.reg r8_6) (.rest [0, 1, 5, 7, 8, 9, 10] (.seq (.reg r8_7) (.rest [1, 7, 8, 71] (.cond (.t 71) (.seq (.reg r8_8) (.ret)) (.skip)))))) (.skip))) (.rest [1, 7, 8] (.seq (.seq (.reg r8_9) (.cond (.t 72) (.seq (.reg r8_10) (.rest [1, 11, 12] (.seq (.reg r8_11) (.rest [84] (.cond (.t 84) (.seq (.reg r8_12) (.ret)) (.skip)))))) (.skip))) (.rest [] (.seq (.reg r8_13) (.ret))))))))))))
theorem F8 : Fun Tryd.prog 8 86 c8 [.tmp 4] 2 := ⟨⟨Tryd.f8, _, Tryd.func8, rfl, by kernel_rfl, Tryd.ntmps8, by kernel_rfl, by kernel_rfl⟩, by decide⟩

/-- linnet/linnetlaw07.few -/
abbrev r9_0 : List CO := [
  ⟨some 2, .mv (.c (.p (.s (.slice none 0 0)))), none⟩]
abbrev r9_1 : List CO := [
  ⟨some 3, .mv (.t 0), none⟩,
  ⟨some 4, .len (.t 3), none⟩,
  ⟨some 5, .bin .gtr (.t 4) (.c (.p (.s (.int .i64 60)))), none⟩]
abbrev r9_2 : List CO := [
  ⟨some 6, .mv (.t 0), none⟩,
  ⟨some 7, .slice 6 (.t 6) none (some (.c (.p (.s (.int .i64 60))))), none⟩,
  ⟨some 2, .mv (.t 7), none⟩]
abbrev r9_3 : List CO := [
  ⟨some 8, .mv (.t 0), none⟩,
  ⟨some 2, .mv (.t 8), none⟩]
abbrev c9 : CC := .seq (.reg r9_0) (.seq (.seq (.reg r9_1) (.cond (.t 5) (.seq (.reg r9_2) (.ret)) (.skip))) (.rest [0] (.seq (.reg r9_3) (.ret))))
theorem F9 : Fun Tryd.prog 9 9 c9 [.tmp 2] 1 := ⟨⟨Tryd.f9, _, Tryd.func9, rfl, by kernel_rfl, Tryd.ntmps9, by kernel_rfl, by kernel_rfl⟩, by decide⟩

/-- linnet/linnetlaw01.Few -/
abbrev r10_0 : List CO := [
  ⟨some 2, .mv (.c (.p (.s (.slice none 0 0)))), none⟩]
abbrev r10_1 : List CO := [
  ⟨some 3, .mv (.t 0), none⟩,
  ⟨some 4, .len (.t 3), none⟩,
  ⟨some 5, .bin .gtr (.t 4) (.c (.p (.s (.int .i64 200)))), none⟩]
abbrev r10_2 : List CO := [
  ⟨some 6, .mv (.t 0), none⟩,
  ⟨some 7, .slice 1 (.t 6) none (some (.c (.p (.s (.int .i64 200))))), none⟩,
  ⟨some 2, .mv (.t 7), none⟩]
abbrev r10_3 : List CO := [
  ⟨some 8, .mv (.t 0), none⟩,
  ⟨some 2, .mv (.t 8), none⟩]
abbrev c10 : CC := .seq (.reg r10_0) (.seq (.seq (.reg r10_1) (.cond (.t 5) (.seq (.reg r10_2) (.ret)) (.skip))) (.rest [0] (.seq (.reg r10_3) (.ret))))
theorem F10 : Fun Tryd.prog 10 9 c10 [.tmp 2] 1 := ⟨⟨Tryd.f10, _, Tryd.func10, rfl, by kernel_rfl, Tryd.ntmps10, by kernel_rfl, by kernel_rfl⟩, by decide⟩

/-- linnet/slc.Put -/
abbrev r11_0 : List CO := [
  ⟨some 2, .mv (.c (.p (.s (.slice none 0 0)))), none⟩,
  ⟨some 3, .mv (.c (.p (.s (.int .i64 0)))), none⟩]
abbrev r11_1 : List CO := [
  ⟨some 4, .mv (.c (.p (.s (.slice none 0 0)))), none⟩]
abbrev r11_2 : List CO := [
  ⟨some 8, .mv (.t 0), none⟩,
  ⟨some 9, .len (.t 8), none⟩,
  ⟨some 10, .mv (.c (.p (.s (.int .i64 0)))), none⟩]
abbrev r11_3 : List CO := [
  ⟨some 11, .bin .lss (.t 10) (.t 9), none⟩]
abbrev r11_4 : List CO := [
  ⟨some 12, .iaddrS 6 (.t 8) (.t 10), none⟩,
  ⟨some 13, .load true 6 (.t 12), none⟩,
  ⟨some 6, .alloc ([.s (.int .i64 0), .s (.int .i64 0), .s (.bool false), .s (.bool false), .s (.bool false), .s (.int .u8 0)]), none⟩,
  ⟨none, .store 6 (.t 6) (.t 13), none⟩]
abbrev r11_5 : List CO := [
  ⟨some 14, .load true 6 (.t 6), none⟩,
  ⟨some 15, .call (.c (.fn (.func 16) [] [])) [.t 14], none⟩,
  ⟨some 7, .mv (.t 15), none⟩]
abbrev r11_6 : List CO := [
  ⟨some 16, .mv (.t 7), none⟩,
  ⟨some 17, .bin .neq (.t 16) (.c (.p (.s (.int .i64 0)))), none⟩]
abbrev r11_7 : List CO := [
  ⟨some 18, .mv (.t 7), none⟩,
  ⟨some 2, .mv (.c (.p (.s (.slice none 0 0)))), none⟩,
  ⟨some 3, .mv (.t 18), none⟩]
abbrev r11_8 : List CO := [
  ⟨some 19, .mv (.t 4), none⟩,
  ⟨some 20, .faddr 0 (.t 6), none⟩,
  ⟨some 21, .load false 1 (.t 20), none⟩,
  ⟨some 22, .toInt .u8 (.t 21), none⟩,
  ⟨some 23, .faddr 1 (.t 6), none⟩,
  ⟨some 24, .load false 1 (.t 23), none⟩,
  ⟨some 25, .toInt .u8 (.t 24), none⟩,
  ⟨some 26, .faddr 2 (.t 6), none⟩,
  ⟨some 27, .load false 1 (.t 26), none⟩,
  ⟨some 28, .call (.c (.fn (.func 24) [] [])) [.t 27, .c (.p (.s (.int .u8 128)))], none⟩,
  ⟨some 29, .bin .or (.t 25) (.t 28), none⟩,
  ⟨some 30, .faddr 3 (.t 6), none⟩,
  ⟨some 31, .load false 1 (.t 30), none⟩,
  ⟨some 32, .call (.c (.fn (.func 24) [] [])) [.t 31, .c (.p (.s (.int .u8 64)))], none⟩,
  ⟨some 33, .bin .or (.t 29) (.t 32), none⟩,
  ⟨some 34, .faddr 4 (.t 6), none⟩,
  ⟨some 35, .load false 1 (.t 34), none⟩,
  ⟨some 36, .call (.c (.fn (.func 24) [] [])) [.t 35, .c (.p (.s (.int .u8 32)))], none⟩,
  ⟨some 37, .bin .or (.t 33) (.t 36), none⟩,
  ⟨some 38, .faddr 5 (.t 6), none⟩,
  ⟨some 39, .load false 1 (.t 38), none⟩,
  ⟨some 40, .bslice 1 3 ([.s (.int .u8 0)]) [(0, .t 22), (1, .t 37), (2, .t 39)], none⟩,
  ⟨some 41, .append 1 1 ([.s (.int .u8 0)]) (.t 19) (.t 40), none⟩,
  ⟨some 4, .mv (.t 41), none⟩]
abbrev b11_8 : List (List Nat) := [[], [], [1], [2], [], [4], [5], [], [7], [8], [6, 9], [], [11], [12, 9], [10, 13], [], [15], [16, 13], [14, 17], [], [19], [3, 18, 20], [0, 21, 17], [22, 22, 0, 1, 2, 3, 4, 5, 6, 7, 8, 9, 10, 11, 12, 13, 14, 15, 16, 17, 18, 19, 20, 21, 22]]
abbrev k11_1 : CC := .seq (.reg r11_4) (.rest [4, 6, 8, 9, 10] (.seq (.seq (.reg r11_5) (.seq (.reg r11_6) (.cond (.t 17) (.seq (.reg r11_7) (.ret)) (.skip)))) (.rest [4, 6, 8, 9, 10] (.regd r11_8 b11_8))))
abbrev r11_9 : List CO := [
  ⟨some 42, .bin .add (.t 10) (.c (.p (.s (.int .i64 1)))), none⟩,
  ⟨some 10, .mv (.t 42), none⟩]
abbrev l11_12 : CC := .seq (.reg r11_3) (.seq (.cond (.t 11) (.skip) (.exit 0)) (.seq (.block 1 k11_1) (.rest [4, 8, 9, 10] (.reg r11_9))))
abbrev k11_0 : CC := .loop l11_12
abbrev r11_10 : List CO := [
  ⟨some 43, .mv (.t 4), none⟩,
  ⟨some 2, .mv (.t 43), none⟩,
  ⟨some 3, .mv (.c (.p (.s (.int .i64 0)))), none⟩]
abbrev c11 : CC := .seq (.reg r11_0) (.seq (.reg r11_1) (.seq (.seq (.reg r11_2) (.block 0 k11_0)) (.rest [4] (.seq (.reg r11_10) (.ret)))))
theorem F11 : Fun Tryd.prog 11 44 c11 [.tmp 2, .tmp 3] 1 := ⟨⟨Tryd.f11, _, Tryd.func11, rfl, by kernel_rfl, Tryd.ntmps11, by kernel_rfl, by kernel_rfl⟩, by decide⟩

/-- linnet/slc.Get -/
abbrev r12_0 : List CO := [
  ⟨some 2, .mv (.c (.p (.s (.slice none 0 0)))), none⟩,
  ⟨some 3, .mv (.c (.p (.s (.int .i64 0)))), none⟩]
abbrev r12_1 : List CO := [
  ⟨some 6, .mv (.t 0), none⟩,
  ⟨some 7, .len (.t 6), none⟩,
  ⟨some 8, .bin .rem (.t 7) (.c (.p (.s (.int .i64 3)))), none⟩,
  ⟨some 9, .bin .neq (.t 8) (.c (.p (.s (.int .i64 0)))), none⟩]
abbrev r12_2 : List CO := [
  ⟨some 2, .mv (.c (.p (.s (.slice none 0 0)))), none⟩,
  ⟨some 3, .mv (.c (.p (.s (.int .i64 2)))), none⟩]
abbrev r12_3 : List CO := [
  ⟨some 4, .mv (.c (.p (.s (.slice none 0 0)))), none⟩]
abbrev r12_4 : List CO := [
  ⟨some 10, .mv (.t 0), none⟩,
  ⟨some 11, .len (.t 10), none⟩,
  ⟨some 12, .bin .gtr (.t 11) (.c (.p (.s (.int .i64 0)))), none⟩]
abbrev r12_6 : List CO := [
  ⟨some 15, .mv (.t 0), none⟩,
  ⟨some 16, .iaddrS 1 (.t 15) (.c (.p (.s (.int .i64 1)))), none⟩,
  ⟨some 17, .load false 1 (.t 16), none⟩,
  ⟨some 5, .mv (.t 17), none⟩]
abbrev r12_7 : List CO := [
  ⟨some 18, .mv (.t 5), none⟩,
  ⟨some 19, .bin .and (.t 18) (.c (.p (.s (.int .u8 28)))), none⟩,
  ⟨some 20, .bin .neq (.t 19) (.c (.p (.s (.int .u8 0)))), none⟩]
abbrev r12_8 : List CO := [
  ⟨some 2, .mv (.c (.p (.s (.slice none 0 0)))), none⟩,
  ⟨some 3, .mv (.c (.p (.s (.int .i64 2)))), none⟩]
abbrev r12_9 : List CO := [
  ⟨some 21, .mv (.t 4), none⟩,
  ⟨some 22, .mv (.t 0), none⟩,
  ⟨some 23, .iaddrS 1 (.t 22) (.c (.p (.s (.int .i64 0)))), none⟩,
  ⟨some 24, .load false 1 (.t 23), none⟩,
  ⟨some 25, .toInt .i64 (.t 24), none⟩,
  ⟨some 26, .mv (.t 5), none⟩,
  ⟨some 27, .bin .and (.t 26) (.c (.p (.s (.int .u8 3)))), none⟩,
  ⟨some 28, .toInt .i64 (.t 27), none⟩,
  ⟨some 29, .mv (.t 5), none⟩,
  ⟨some 30, .bin .and (.t 29) (.c (.p (.s (.int .u8 128)))), none⟩,
  ⟨some 31, .bin .neq (.t 30) (.c (.p (.s (.int .u8 0)))), none⟩,
  ⟨some 32, .mv (.t 5), none⟩,
  ⟨some 33, .bin .and (.t 32) (.c (.p (.s (.int .u8 64)))), none⟩,
  ⟨some 34, .bin .neq (.t 33) (.c (.p (.s (.int .u8 0)))), none⟩,
  ⟨some 35, .mv (.t 5), none⟩,
  ⟨some 36, .bin .and (.t 35) (.c (.p (.s (.int .u8 32)))), none⟩,
  ⟨some 37, .bin .neq (.t 36) (.c (.p (.s (.int .u8 0)))), none⟩,
  ⟨some 38, .mv (.t 0), none⟩,
  ⟨some 39, .iaddrS 1 (.t 38) (.c (.p (.s (.int .i64 2)))), none⟩,
  ⟨some 40, .load false 1 (.t 39), none⟩,
  ⟨some 41, .build ([.s (.int .i64 0), .s (.int .i64 0), .s (.bool false), .s (.bool false), .s (.bool false), .s (.int .u8 0)]) [(0, 1, .t 25), (1, 1, .t 28), (2, 1, .t 31), (3, 1, .t 34), (4, 1, .t 37), (5, 1, .t 40)], none⟩,
  ⟨some 42, .bslice 6 1 ([.s (.int .i64 0), .s (.int .i64 0), .s (.bool false), .s (.bool false), .s (.bool false), .s (.int .u8 0)]) [(0, .t 41)], none⟩,
  ⟨some 43, .append 6 24 ([.s (.int .i64 0), .s (.int .i64 0), .s (.bool false), .s (.bool false), .s (.bool false), .s (.int .u8 0)]) (.t 21) (.t 42), none⟩,
  ⟨some 4, .mv (.t 43), none⟩]
abbrev b12_9 : List (List Nat) := [[], [], [1], [2], [3], [], [5], [6], [], [8], [9], [], [11], [12], [], [14], [15], [], [17], [18], [4, 7, 10, 13, 16, 19], [20], [0, 21], [22, 22, 0, 1, 2, 3, 4, 5, 6, 7, 8, 9, 10, 11, 12, 13, 14, 15, 16, 17, 18, 19, 20, 21, 22]]
abbrev k12_1 : CC := .seq (.reg r12_6) (.rest [0, 4, 5] (.seq (.seq (.reg r12_7) (.cond (.t 20) (.seq (.reg r12_8) (.ret)) (.skip))) (.rest [0, 4, 5] (.regd r12_9 b12_9))))
abbrev r12_5 : List CO := [
  ⟨some 13, .mv (.t 0), none⟩,
  ⟨some 14, .slice 1 (.t 13) (some (.c (.p (.s (.int .i64 3))))) none, none⟩,
  ⟨some 0, .mv (.t 14), none⟩]
abbrev l12_12 : CC := .seq (.seq (.reg r12_4) (.cond (.t 12) (.skip) (.exit 0))) (.seq (.block 1 k12_1) (.rest [0, 4] (.reg r12_5)))
abbrev k12_0 : CC := .loop l12_12
abbrev r12_10 : List CO := [
  ⟨some 44, .mv (.t 4), none⟩,
  ⟨some 2, .mv (.t 44), none⟩,
  ⟨some 3, .mv (.c (.p (.s (.int .i64 0)))), none⟩]
abbrev c12 : CC := .seq (.reg r12_0) (.seq (.seq (.reg r12_1) (.rest [0, 9] (.cond (.t 9) (.seq (.reg r12_2) (.ret)) (.skip)))) (.rest [0] (.seq (.reg r12_3) (.seq (.block 0 k12_0) (.rest [4] (.seq (.reg r12_10) (.ret)))))))
theorem F12 : Fun Tryd.prog 12 45 c12 [.tmp 2, .tmp 3] 1 := ⟨⟨Tryd.f12, _, Tryd.func12, rfl, by kernel_rfl, Tryd.ntmps12, by kernel_rfl, by kernel_rfl⟩, by decide⟩

/-- linnet/linnetref07.Same -/
abbrev r13_0 : List CO := [
  ⟨some 4, .mv (.c (.p (.s (.bool false)))), none⟩]
abbrev r13_1 : List CO := [
  ⟨some 6, .mv (.t 0), none⟩,
  ⟨some 7, .len (.t 6), none⟩,
  ⟨some 8, .mv (.t 1), none⟩,
  ⟨some 9, .len (.t 8), none⟩,
  ⟨some 10, .bin .neq (.t 7) (.t 9), none⟩]
abbrev r13_2 : List CO := [
  ⟨some 4, .mv (.c (.p (.s (.bool false)))), none⟩]
abbrev r13_3 : List CO := [
  ⟨some 5, .mv (.c (.p (.s (.int .i64 0)))), none⟩]
abbrev r13_4 : List CO := [
  ⟨some 11, .mv (.t 5), none⟩,
  ⟨some 12, .mv (.t 0), none⟩,
  ⟨some 13, .len (.t 12), none⟩,
  ⟨some 14, .bin .lss (.t 11) (.t 13), none⟩]
abbrev r13_6 : List CO := [
  ⟨some 17, .mv (.t 0), none⟩,
  ⟨some 18, .mv (.t 5), none⟩,
  ⟨some 19, .iaddrS 6 (.t 17) (.t 18), none⟩,
  ⟨some 20, .load true 6 (.t 19), none⟩,
  ⟨some 21, .mv (.t 1), none⟩,
  ⟨some 22, .mv (.t 5), none⟩,
  ⟨some 23, .iaddrS 6 (.t 21) (.t 22), none⟩,
  ⟨some 24, .load true 6 (.t 23), none⟩,
  ⟨some 25, .eqs true [0, 0, 1, 1, 1, 0] (.t 20) (.t 24), none⟩]
abbrev b13_6 : List (List Nat) := [[], [], [0, 1], [2], [], [], [4, 5], [6], [3, 7]]
abbrev r13_7 : List CO := [
  ⟨some 4, .mv (.c (.p (.s (.bool false)))), none⟩]
abbrev k13_1 : CC := .seq (.regd r13_6 b13_6) (.rest [0, 1, 5, 25] (.cond (.t 25) (.seq (.reg r13_7) (.ret)) (.skip)))
abbrev r13_5 : List CO := [
  ⟨some 15, .mv (.t 5), none⟩,
  ⟨some 16, .bin .add (.t 15) (.c (.p (.s (.int .i64 1)))), none⟩,
  ⟨some 5, .mv (.t 16), none⟩]
abbrev l13_10 : CC := .seq (.seq (.reg r13_4) (.rest [0, 1, 5, 14] (.cond (.t 14) (.skip) (.exit 0)))) (.rest [0, 1, 5] (.seq (.block 1 k13_1) (.rest [0, 1, 5] (.reg r13_5))))
abbrev k13_0 : CC := .loop l13_10
abbrev r13_8 : List CO := [
  ⟨some 4, .mv (.c (.p (.s (.bool true)))), none⟩]
abbrev c13 : CC := .seq (.reg r13_0) (.seq (.seq (.reg r13_1) (.rest [0, 1, 10] (.cond (.t 10) (.seq (.reg r13_2) (.ret)) (.skip)))) (.rest [0, 1] (.seq (.seq (.reg r13_3) (.block 0 k13_0)) (.rest [] (.seq (.reg r13_8) (.ret))))))
theorem F13 : Fun Tryd.prog 13 26 c13 [.tmp 4] 2 := ⟨⟨Tryd.f13, _, Tryd.func13, rfl, by kernel_rfl, Tryd.ntmps13, by kernel_rfl, by kernel_rfl⟩, by decide⟩

/-- linnet/linnetlaw07.awake -/
abbrev r14_0 : List CO := [
  ⟨some 0, .mv (.c (.p (.s (.bool false)))), none⟩]
abbrev r14_1 : List CO := [
  ⟨some 10, .build ([.s (.int .i64 0), .s (.int .i64 0), .s (.bool false), .s (.bool false), .s (.bool false), .s (.int .u8 0)]) [(0, 1, .c (.p (.s (.int .i64 3)))), (1, 1, .c (.p (.s (.int .i64 2)))), (2, 1, .c (.p (.s (.bool true)))), (5, 1, .c (.p (.s (.int .u8 3))))], none⟩,
  ⟨some 11, .bslice 6 1 ([.s (.int .i64 0), .s (.int .i64 0), .s (.bool false), .s (.bool false), .s (.bool false), .s (.int .u8 0)]) [(0, .t 10)], none⟩,
  ⟨some 12, .call (.c (.fn (.func 11) [] [])) [.t 11], none⟩,
  ⟨some 9, .mv (.t 12), none⟩,
  ⟨some 13, .extract 0 (.t 9), none⟩,
  ⟨some 14, .extract 1 (.t 9), none⟩,
  ⟨some 1, .mv (.t 13), none⟩,
  ⟨some 2, .mv (.t 14), none⟩]
abbrev r14_2 : List CO := [
  ⟨some 16, .bslice 1 3 ([.s (.int .u8 0)]) [(0, .c (.p (.s (.int .u8 3)))), (1, .c (.p (.s (.int .u8 4)))), (2, .c (.p (.s (.int .u8 3))))], none⟩,
  ⟨some 17, .call (.c (.fn (.func 12) [] [])) [.t 16], none⟩,
  ⟨some 15, .mv (.t 17), none⟩,
  ⟨some 18, .extract 0 (.t 15), none⟩,
  ⟨some 19, .extract 1 (.t 15), none⟩,
  ⟨some 3, .mv (.t 18), none⟩,
  ⟨some 4, .mv (.t 19), none⟩]
abbrev r14_3 : List CO := [
  ⟨some 21, .call (.c (.fn (.func 18) [] [])) [.c (.p (.s (.int .i64 3)))], none⟩,
  ⟨some 20, .mv (.t 21), none⟩,
  ⟨some 22, .extract 0 (.t 20), none⟩,
  ⟨some 23, .extract 1 (.t 20), none⟩,
  ⟨some 5, .mv (.t 22), none⟩,
  ⟨some 6, .mv (.t 23), none⟩]
abbrev r14_4 : List CO := [
  ⟨some 25, .call (.c (.fn (.func 18) [] [])) [.c (.p (.s (.int .i64 10)))], none⟩,
  ⟨some 24, .mv (.t 25), none⟩,
  ⟨some 26, .extract 0 (.t 24), none⟩,
  ⟨some 27, .extract 1 (.t 24), none⟩,
  ⟨some 7, .mv (.t 26), none⟩,
  ⟨some 8, .mv (.t 27), none⟩]
abbrev r14_5 : List CO := [
  ⟨some 28, .mv (.t 2), none⟩,
  ⟨some 29, .bin .eql (.t 28) (.c (.p (.s (.int .i64 0)))), none⟩,
  ⟨some 30, .mv (.t 29), none⟩,
  ⟨some 31, .mv (.t 1), some (30, true)⟩,
  ⟨some 32, .toStr (.t 31), some (30, true)⟩,
  ⟨some 33, .bin .eql (.t 32) (.c (.p (.s (.string { data := #[3, 130, 3] })))), some (30, true)⟩,
  ⟨some 34, .pick (.t 30) (.t 33) (.c (.p (.s (.bool false)))), none⟩,
  ⟨some 35, .mv (.t 34), none⟩,
  ⟨some 36, .mv (.t 4), some (35, true)⟩,
  ⟨some 37, .bin .eql (.t 36) (.c (.p (.s (.int .i64 2)))), some (35, true)⟩,
  ⟨some 38, .pick (.t 35) (.t 37) (.c (.p (.s (.bool false)))), none⟩,
  ⟨some 39, .mv (.t 38), none⟩,
  ⟨some 40, .mv (.t 5), some (39, true)⟩,
  ⟨some 41, .bin .eql (.t 40) (.c (.p (.s (.int .i64 244)))), some (39, true)⟩,
  ⟨some 42, .pick (.t 39) (.t 41) (.c (.p (.s (.bool false)))), none⟩,
  ⟨some 43, .mv (.t 42), none⟩,
  ⟨some 44, .mv (.t 6), some (43, true)⟩,
  ⟨some 45, .pick (.t 43) (.t 44) (.c (.p (.s (.bool false)))), none⟩,
  ⟨some 46, .mv (.t 45), none⟩,
  ⟨some 47, .mv (.t 8), some (46, true)⟩,
  ⟨some 48, .un .not (.t 47), some (46, true)⟩,
  ⟨some 49, .pick (.t 46) (.t 48) (.c (.p (.s (.bool false)))), none⟩,
  ⟨some 50, .mv (.t 49), none⟩,
  ⟨some 51, .pick (.t 50) (.c (.p (.s (.bool true)))) (.c (.p (.s (.bool false)))), none⟩,
  ⟨some 52, .mv (.t 51), none⟩,
  ⟨some 53, .pick (.t 52) (.c (.p (.s (.bool true)))) (.c (.p (.s (.bool false)))), none⟩,
  ⟨some 54, .mv (.t 53), none⟩,
  ⟨some 55, .pick (.t 54) (.c (.p (.s (.bool true)))) (.c (.p (.s (.bool false)))), none⟩,
  ⟨some 56, .mv (.t 55), none⟩,
  ⟨some 57, .pick (.t 56) (.c (.p (.s (.bool true)))) (.c (.p (.s (.bool false)))), none⟩,
  ⟨some 58, .mv (.t 57), none⟩,
  ⟨some 59, .pick (.t 58) (.c (.p (.s (.bool true)))) (.c (.p (.s (.bool false)))), none⟩,
  ⟨some 60, .mv (.t 59), none⟩,
  ⟨some 61, .pick (.t 60) (.c (.p (.s (.bool true)))) (.c (.p (.s (.bool false)))), none⟩,
  ⟨some 0, .mv (.t 61), none⟩]
abbrev c14 : CC := .seq (.reg r14_0) (.seq (.reg r14_1) (.rest [1, 2] (.seq (.reg r14_2) (.rest [1, 2, 4] (.seq (.reg r14_3) (.rest [1, 2, 4, 5, 6] (.seq (.reg r14_4) (.rest [1, 2, 4, 5, 6, 8] (.seq (.reg r14_5) (.rest [0] (.ret)))))))))))
theorem F14 : Fun Tryd.prog 14 62 c14 [.tmp 0] 0 := ⟨⟨Tryd.f14, _, Tryd.func14, rfl, by kernel_rfl, Tryd.ntmps14, by kernel_rfl, by kernel_rfl⟩, by decide⟩

/-- linnet/linnetref01.Octets -/
abbrev r15_0 : List CO := [
  ⟨some 4, .mv (.c (.p (.s (.bool false)))), none⟩]
abbrev r15_1 : List CO := [
  ⟨some 5, .mv (.t 0), none⟩,
  ⟨some 6, .toStr (.t 5), none⟩,
  ⟨some 7, .mv (.t 1), none⟩,
  ⟨some 8, .toStr (.t 7), none⟩,
  ⟨some 9, .bin .eql (.t 6) (.t 8), none⟩,
  ⟨some 4, .mv (.t 9), none⟩]
abbrev c15 : CC := .seq (.reg r15_0) (.seq (.reg r15_1) (.rest [4] (.ret)))
theorem F15 : Fun Tryd.prog 15 10 c15 [.tmp 4] 2 := ⟨⟨Tryd.f15, _, Tryd.func15, rfl, by kernel_rfl, Tryd.ntmps15, by kernel_rfl, by kernel_rfl⟩, by decide⟩

/-- linnet/slc.Check -/
abbrev r16_0 : List CO := [
  ⟨some 1, .box (.t 0), none⟩,
  ⟨some 2, .mv (.c (.p (.s (.int .i64 0)))), none⟩]
abbrev r16_1 : List CO := [
  ⟨some 3, .faddr 0 (.t 1), none⟩,
  ⟨some 4, .load false 1 (.t 3), none⟩,
  ⟨some 5, .bin .lss (.t 4) (.c (.p (.s (.int .i64 0)))), none⟩,
  ⟨some 6, .mv (.t 5), none⟩,
  ⟨some 7, .faddr 0 (.t 1), some (6, false)⟩,
  ⟨some 8, .load false 1 (.t 7), some (6, false)⟩,
  ⟨some 9, .bin .gtr (.t 8) (.c (.p (.s (.int .i64 255)))), some (6, false)⟩,
  ⟨some 10, .pick (.t 6) (.c (.p (.s (.bool true)))) (.t 9), none⟩,
  ⟨some 11, .mv (.t 10), none⟩,
  ⟨some 12, .faddr 1 (.t 1), some (11, false)⟩,
  ⟨some 13, .load false 1 (.t 12), some (11, false)⟩,
  ⟨some 14, .bin .lss (.t 13) (.c (.p (.s (.int .i64 0)))), some (11, false)⟩,
  ⟨some 15, .pick (.t 11) (.c (.p (.s (.bool true)))) (.t 14), none⟩,
  ⟨some 16, .mv (.t 15), none⟩,
  ⟨some 17, .faddr 1 (.t 1), some (16, false)⟩,
  ⟨some 18, .load false 1 (.t 17), some (16, false)⟩,
  ⟨some 19, .bin .gtr (.t 18) (.c (.p (.s (.int .i64 3)))), some (16, false)⟩,
  ⟨some 20, .pick (.t 16) (.c (.p (.s (.bool true)))) (.t 19), none⟩]
abbrev r16_2 : List CO := [
  ⟨some 2, .mv (.c (.p (.s (.int .i64 1)))), none⟩]
abbrev r16_3 : List CO := [
  ⟨some 2, .mv (.c (.p (.s (.int .i64 0)))), none⟩]
abbrev c16 : CC := .seq (.reg r16_0) (.seq (.seq (.reg r16_1) (.rest [20] (.cond (.t 20) (.seq (.reg r16_2) (.ret)) (.skip)))) (.rest [] (.seq (.reg r16_3) (.ret))))
theorem F16 : Fun Tryd.prog 16 21 c16 [.tmp 2] 1 := ⟨⟨Tryd.f16, _, Tryd.func16, rfl, by kernel_rfl, Tryd.ntmps16, by kernel_rfl, by kernel_rfl⟩, by decide⟩

/-- linnet/linnetref07.May -/
abbrev r17_0 : List CO := [
  ⟨some 1, .box (.t 0), none⟩,
  ⟨some 2, .mv (.c (.p (.s (.bool false)))), none⟩]
abbrev r17_1 : List CO := [
  ⟨some 3, .faddr 0 (.t 1), none⟩,
  ⟨some 4, .load false 1 (.t 3), none⟩,
  ⟨some 5, .bin .geq (.t 4) (.c (.p (.s (.int .i64 0)))), none⟩,
  ⟨some 6, .mv (.t 5), none⟩,
  ⟨some 7, .faddr 0 (.t 1), some (6, true)⟩,
  ⟨some 8, .load false 1 (.t 7), some (6, true)⟩,
  ⟨some 9, .bin .leq (.t 8) (.c (.p (.s (.int .i64 255)))), some (6, true)⟩,
  ⟨some 10, .pick (.t 6) (.t 9) (.c (.p (.s (.bool false)))), none⟩,
  ⟨some 11, .mv (.t 10), none⟩,
  ⟨some 12, .faddr 1 (.t 1), some (11, true)⟩,
  ⟨some 13, .load false 1 (.t 12), some (11, true)⟩,
  ⟨some 14, .bin .geq (.t 13) (.c (.p (.s (.int .i64 0)))), some (11, true)⟩,
  ⟨some 15, .pick (.t 11) (.t 14) (.c (.p (.s (.bool false)))), none⟩,
  ⟨some 16, .mv (.t 15), none⟩,
  ⟨some 17, .faddr 1 (.t 1), some (16, true)⟩,
  ⟨some 18, .load false 1 (.t 17), some (16, true)⟩,
  ⟨some 19, .bin .leq (.t 18) (.c (.p (.s (.int .i64 3)))), some (16, true)⟩,
  ⟨some 20, .pick (.t 16) (.t 19) (.c (.p (.s (.bool false)))), none⟩,
  ⟨some 2, .mv (.t 20), none⟩]
abbrev c17 : CC := .seq (.reg r17_0) (.seq (.reg r17_1) (.rest [2] (.ret)))
theorem F17 : Fun Tryd.prog 17 21 c17 [.tmp 2] 1 := ⟨⟨Tryd.f17, _, Tryd.func17, rfl, by kernel_rfl, Tryd.ntmps17, by kernel_rfl, by kernel_rfl⟩, by decide⟩

/-- linnet/slc.Command -/
abbrev r18_0 : List CO := [
  ⟨some 2, .mv (.c (.p (.s (.int .i64 0)))), none⟩,
  ⟨some 3, .mv (.c (.p (.s (.bool false)))), none⟩]
abbrev r18_1 : List CO := [
  ⟨some 4, .mv (.t 0), none⟩,
  ⟨some 5, .bin .lss (.t 4) (.c (.p (.s (.int .i64 1)))), none⟩,
  ⟨some 6, .mv (.t 5), none⟩,
  ⟨some 7, .mv (.t 0), some (6, false)⟩,
  ⟨some 8, .bin .geq (.t 7) (.c (.p (.s (.int .i64 10)))), some (6, false)⟩,
  ⟨some 9, .pick (.t 6) (.c (.p (.s (.bool true)))) (.t 8), none⟩]
abbrev r18_2 : List CO := [
  ⟨some 2, .mv (.c (.p (.s (.int .i64 0)))), none⟩,
  ⟨some 3, .mv (.c (.p (.s (.bool false)))), none⟩]
abbrev r18_3 : List CO := [
  ⟨some 10, .mv (.t 0), none⟩,
  ⟨some 11, .iaddrA 1 10 (.g 0) (.t 10), none⟩,
  ⟨some 12, .load false 1 (.t 11), none⟩,
  ⟨some 2, .mv (.t 12), none⟩,
  ⟨some 3, .mv (.c (.p (.s (.bool true)))), none⟩]
abbrev c18 : CC := .seq (.reg r18_0) (.seq (.seq (.reg r18_1) (.rest [0, 9] (.cond (.t 9) (.seq (.reg r18_2) (.ret)) (.skip)))) (.rest [0] (.seq (.reg r18_3) (.rest [2, 3] (.ret)))))
theorem F18 : Fun Tryd.prog 18 13 c18 [.tmp 2, .tmp 3] 1 := ⟨⟨Tryd.f18, _, Tryd.func18, rfl, by kernel_rfl, Tryd.ntmps18, by kernel_rfl, by kernel_rfl⟩, by decide⟩

/-- linnet/slc.Signal -/
abbrev r19_0 : List CO := [
  ⟨some 2, .mv (.c (.p (.s (.int .i64 0)))), none⟩,
  ⟨some 3, .mv (.c (.p (.s (.bool false)))), none⟩]
abbrev r19_1 : List CO := [
  ⟨some 6, .load true 10 (.g 0), none⟩,
  ⟨some 7, .mv (.c (.p (.s (.int .i64 0)))), none⟩]
abbrev r19_2 : List CO := [
  ⟨some 8, .bin .lss (.t 7) (.c (.p (.s (.int .i64 10)))), none⟩]
abbrev r19_3 : List CO := [
  ⟨some 9, .mv (.t 7), none⟩,
  ⟨some 10, .index false 10 1 (.t 6) (.t 7), none⟩,
  ⟨some 4, .mv (.t 9), none⟩,
  ⟨some 5, .mv (.t 10), none⟩]
abbrev r19_4 : List CO := [
  ⟨some 11, .mv (.t 5), none⟩,
  ⟨some 12, .mv (.t 0), none⟩,
  ⟨some 13, .bin .eql (.t 11) (.t 12), none⟩,
  ⟨some 14, .mv (.t 13), none⟩,
  ⟨some 15, .mv (.t 4), some (14, true)⟩,
  ⟨some 16, .bin .gtr (.t 15) (.c (.p (.s (.int .i64 0)))), some (14, true)⟩,
  ⟨some 17, .pick (.t 14) (.t 16) (.c (.p (.s (.bool false)))), none⟩]
abbrev r19_5 : List CO := [
  ⟨some 18, .mv (.t 4), none⟩,
  ⟨some 2, .mv (.t 18), none⟩,
  ⟨some 3, .mv (.c (.p (.s (.bool true)))), none⟩]
abbrev k19_1 : CC := .seq (.reg r19_3) (.rest [0, 4, 5, 6, 7] (.seq (.reg r19_4) (.rest [0, 4, 6, 7, 17] (.cond (.t 17) (.seq (.reg r19_5) (.ret)) (.skip)))))
abbrev r19_6 : List CO := [
  ⟨some 19, .bin .add (.t 7) (.c (.p (.s (.int .i64 1)))), none⟩,
  ⟨some 7, .mv (.t 19), none⟩]
abbrev l19_8 : CC := .seq (.reg r19_2) (.seq (.cond (.t 8) (.skip) (.exit 0)) (.seq (.block 1 k19_1) (.rest [0, 6, 7] (.reg r19_6))))
abbrev k19_0 : CC := .loop l19_8
abbrev r19_7 : List CO := [
  ⟨some 2, .mv (.c (.p (.s (.int .i64 0)))), none⟩,
  ⟨some 3, .mv (.c (.p (.s (.bool false)))), none⟩]
abbrev c19 : CC := .seq (.reg r19_0) (.seq (.seq (.reg r19_1) (.block 0 k19_0)) (.rest [] (.seq (.reg r19_7) (.ret))))
theorem F19 : Fun Tryd.prog 19 20 c19 [.tmp 2, .tmp 3] 1 := ⟨⟨Tryd.f19, _, Tryd.func19, rfl, by kernel_rfl, Tryd.ntmps19, by kernel_rfl, by kernel_rfl⟩, by decide⟩

/-- linnet/linnetref07.Command -/
abbrev r20_0 : List CO := [
  ⟨some 2, .mv (.c (.p (.s (.int .i64 0)))), none⟩]
abbrev r20_1 : List CO := [
  ⟨some 4, .build (List.replicate 10 (.s (.int .i64 0))) [(0, 1, .c (.p (.s (.int .i64 0)))), (1, 1, .c (.p (.s (.int .i64 242)))), (2, 1, .c (.p (.s (.int .i64 243)))), (3, 1, .c (.p (.s (.int .i64 244)))), (4, 1, .c (.p (.s (.int .i64 245)))), (5, 1, .c (.p (.s (.int .i64 246)))), (6, 1, .c (.p (.s (.int .i64 239)))), (7, 1, .c (.p (.s (.int .i64 238)))), (8, 1, .c (.p (.s (.int .i64 236)))), (9, 1, .c (.p (.s (.int .i64 237))))], none⟩,
  ⟨some 3, .alloc (List.replicate 10 (.s (.int .i64 0))), none⟩,
  ⟨none, .store 10 (.t 3) (.t 4), none⟩]
abbrev r20_2 : List CO := [
  ⟨some 5, .mv (.t 0), none⟩,
  ⟨some 6, .bin .lss (.t 5) (.c (.p (.s (.int .i64 1)))), none⟩,
  ⟨some 7, .mv (.t 6), none⟩,
  ⟨some 8, .mv (.t 0), some (7, false)⟩,
  ⟨some 9, .bin .gtr (.t 8) (.c (.p (.s (.int .i64 9)))), some (7, false)⟩,
  ⟨some 10, .pick (.t 7) (.c (.p (.s (.bool true)))) (.t 9), none⟩]
abbrev r20_3 : List CO := [
  ⟨some 2, .mv (.c (.p (.s (.int .i64 0)))), none⟩]
abbrev r20_4 : List CO := [
  ⟨some 11, .mv (.t 0), none⟩,
  ⟨some 12, .iaddrA 1 10 (.t 3) (.t 11), none⟩,
  ⟨some 13, .load false 1 (.t 12), none⟩,
  ⟨some 2, .mv (.t 13), none⟩]
abbrev c20 : CC := .seq (.reg r20_0) (.seq (.reg r20_1) (.seq (.seq (.reg r20_2) (.rest [0, 3, 10] (.cond (.t 10) (.seq (.reg r20_3) (.ret)) (.skip)))) (.rest [0, 3] (.seq (.reg r20_4) (.rest [2] (.ret))))))
theorem F20 : Fun Tryd.prog 20 14 c20 [.tmp 2] 1 := ⟨⟨Tryd.f20, _, Tryd.func20, rfl, by kernel_rfl, Tryd.ntmps20, by kernel_rfl, by kernel_rfl⟩, by decide⟩

/-- linnet/linnetref07.Signal -/
abbrev r21_0 : List CO := [
  ⟨some 2, .mv (.c (.p (.s (.int .i64 0)))), none⟩]
abbrev r21_1 : List CO := [
  ⟨some 3, .mv (.c (.p (.s (.int .i64 1)))), none⟩]
abbrev r21_2 : List CO := [
  ⟨some 4, .mv (.t 3), none⟩,
  ⟨some 5, .bin .leq (.t 4) (.c (.p (.s (.int .i64 9)))), none⟩]
abbrev r21_4 : List CO := [
  ⟨some 8, .mv (.t 3), none⟩,
  ⟨some 9, .call (.c (.fn (.func 20) [] [])) [.t 8], none⟩,
  ⟨some 10, .mv (.t 0), none⟩,
  ⟨some 11, .bin .eql (.t 9) (.t 10), none⟩]
abbrev r21_5 : List CO := [
  ⟨some 12, .mv (.t 3), none⟩,
  ⟨some 2, .mv (.t 12), none⟩]
abbrev k21_1 : CC := .seq (.reg r21_4) (.rest [0, 3, 11] (.cond (.t 11) (.seq (.reg r21_5) (.ret)) (.skip)))
abbrev r21_3 : List CO := [
  ⟨some 6, .mv (.t 3), none⟩,
  ⟨some 7, .bin .add (.t 6) (.c (.p (.s (.int .i64 1)))), none⟩,
  ⟨some 3, .mv (.t 7), none⟩]
abbrev l21_7 : CC := .seq (.seq (.reg r21_2) (.cond (.t 5) (.skip) (.exit 0))) (.seq (.block 1 k21_1) (.rest [0, 3] (.reg r21_3)))
abbrev k21_0 : CC := .loop l21_7
abbrev r21_6 : List CO := [
  ⟨some 2, .mv (.c (.p (.s (.int .i64 0)))), none⟩]
abbrev c21 : CC := .seq (.reg r21_0) (.seq (.seq (.reg r21_1) (.block 0 k21_0)) (.rest [] (.seq (.reg r21_6) (.ret))))
theorem F21 : Fun Tryd.prog 21 13 c21 [.tmp 2] 1 := ⟨⟨Tryd.f21, _, Tryd.func21, rfl, by kernel_rfl, Tryd.ntmps21, by kernel_rfl, by kernel_rfl⟩, by decide⟩

/-- linnet/linnetref07.Put -/
abbrev r22_0 : List CO := [
  ⟨some 2, .mv (.c (.p (.s (.slice none 0 0)))), none⟩,
  ⟨some 3, .mv (.c (.p (.s (.bool false)))), none⟩]
abbrev r22_1 : List CO := [
  ⟨some 4, .mv (.c (.p (.s (.slice none 0 0)))), none⟩]
abbrev r22_2 : List CO := [
  ⟨some 5, .mv (.c (.p (.s (.int .i64 0)))), none⟩]
abbrev r22_3 : List CO := [
  ⟨some 8, .mv (.t 5), none⟩,
  ⟨some 9, .mv (.t 0), none⟩,
  ⟨some 10, .len (.t 9), none⟩,
  ⟨some 11, .bin .lss (.t 8) (.t 10), none⟩]
abbrev r22_5 : List CO := [
  ⟨some 14, .mv (.t 0), none⟩,
  ⟨some 15, .mv (.t 5), none⟩,
  ⟨some 16, .iaddrS 6 (.t 14) (.t 15), none⟩,
  ⟨some 17, .load true 6 (.t 16), none⟩,
  ⟨some 6, .alloc ([.s (.int .i64 0), .s (.int .i64 0), .s (.bool false), .s (.bool false), .s (.bool false), .s (.int .u8 0)]), none⟩,
  ⟨none, .store 6 (.t 6) (.t 17), none⟩]
abbrev r22_6 : List CO := [
  ⟨some 18, .load true 6 (.t 6), none⟩,
  ⟨some 19, .call (.c (.fn (.func 17) [] [])) [.t 18], none⟩,
  ⟨some 20, .un .not (.t 19), none⟩]
abbrev r22_7 : List CO := [
  ⟨some 2, .mv (.c (.p (.s (.slice none 0 0)))), none⟩,
  ⟨some 3, .mv (.c (.p (.s (.bool false)))), none⟩]
abbrev r22_8 : List CO := [
  ⟨some 21, .faddr 1 (.t 6), none⟩,
  ⟨some 22, .load false 1 (.t 21), none⟩,
  ⟨some 7, .mv (.t 22), none⟩]
abbrev r22_9 : List CO := [
  ⟨some 23, .faddr 2 (.t 6), none⟩,
  ⟨some 24, .load false 1 (.t 23), none⟩]
abbrev r22_10 : List CO := [
  ⟨some 25, .mv (.t 7), none⟩,
  ⟨some 26, .bin .add (.t 25) (.c (.p (.s (.int .i64 128)))), none⟩,
  ⟨some 7, .mv (.t 26), none⟩]
abbrev r22_11 : List CO := [
  ⟨some 27, .faddr 3 (.t 6), none⟩,
  ⟨some 28, .load false 1 (.t 27), none⟩]
abbrev r22_12 : List CO := [
  ⟨some 29, .mv (.t 7), none⟩,
  ⟨some 30, .bin .add (.t 29) (.c (.p (.s (.int .i64 64)))), none⟩,
  ⟨some 7, .mv (.t 30), none⟩]
abbrev r22_13 : List CO := [
  ⟨some 31, .faddr 4 (.t 6), none⟩,
  ⟨some 32, .load false 1 (.t 31), none⟩]
abbrev r22_14 : List CO := [
  ⟨some 33, .mv (.t 7), none⟩,
  ⟨some 34, .bin .add (.t 33) (.c (.p (.s (.int .i64 32)))), none⟩,
  ⟨some 7, .mv (.t 34), none⟩]
abbrev r22_15 : List CO := [
  ⟨some 35, .mv (.t 4), none⟩,
  ⟨some 36, .faddr 0 (.t 6), none⟩,
  ⟨some 37, .load false 1 (.t 36), none⟩,
  ⟨some 38, .toInt .u8 (.t 37), none⟩,
  ⟨some 39, .mv (.t 7), none⟩,
  ⟨some 40, .toInt .u8 (.t 39), none⟩,
  ⟨some 41, .faddr 5 (.t 6), none⟩,
  ⟨some 42, .load false 1 (.t 41), none⟩,
  ⟨some 43, .bslice 1 3 ([.s (.int .u8 0)]) [(0, .t 38), (1, .t 40), (2, .t 42)], none⟩,
  ⟨some 44, .append 1 1 ([.s (.int .u8 0)]) (.t 35) (.t 43), none⟩,
  ⟨some 4, .mv (.t 44), none⟩]
abbrev k22_1 : CC := .seq (.reg r22_5) (.rest [0, 4, 5, 6] (.seq (.seq (.reg r22_6) (.cond (.t 20) (.seq (.reg r22_7) (.ret)) (.skip))) (.rest [0, 4, 5, 6] (.seq (.reg r22_8) (.seq (.seq (.reg r22_9) (.cond (.t 24) (.reg r22_10) (.skip))) (.rest [0, 4, 5, 6, 7] (.seq (.seq (.reg r22_11) (.cond (.t 28) (.reg r22_12) (.skip))) (.rest [0, 4, 5, 6, 7] (.seq (.seq (.reg r22_13) (.cond (.t 32) (.reg r22_14) (.skip))) (.rest [0, 4, 5, 6, 7] (.reg r22_15)))))))))))
abbrev r22_4 : List CO := [
  ⟨some 12, .mv (.t 5), none⟩,
  ⟨some 13, .bin .add (.t 12) (.c (.p (.s (.int .i64 1)))), none⟩,
  ⟨some 5, .mv (.t 13), none⟩]
abbrev l22_17 : CC := .seq (.seq (.reg r22_3) (.rest [0, 4, 5, 11] (.cond (.t 11) (.skip) (.exit 0)))) (.rest [0, 4, 5] (.seq (.block 1 k22_1) (.rest [0, 4, 5] (.reg r22_4))))
abbrev k22_0 : CC := .loop l22_17
abbrev r22_16 : List CO := [
  ⟨some 45, .mv (.t 4), none⟩,
  ⟨some 2, .mv (.t 45), none⟩,
  ⟨some 3, .mv (.c (.p (.s (.bool true)))), none⟩]
abbrev c22 : CC := .seq (.reg r22_0) (.seq (.reg r22_1) (.seq (.seq (.reg r22_2) (.block 0 k22_0)) (.rest [4] (.seq (.reg r22_16) (.ret)))))
theorem F22 : Fun Tryd.prog 22 46 c22 [.tmp 2, .tmp 3] 1 := ⟨⟨Tryd.f22, _, Tryd.func22, rfl, by kernel_rfl, Tryd.ntmps22, by kernel_rfl, by kernel_rfl⟩, by decide⟩

/-- linnet/linnetref07.Get -/
abbrev r23_0 : List CO := [
  ⟨some 2, .mv (.c (.p (.s (.slice none 0 0)))), none⟩,
  ⟨some 3, .mv (.c (.p (.s (.bool false)))), none⟩]
abbrev r23_1 : List CO := [
  ⟨some 4, .mv (.c (.p (.s (.slice none 0 0)))), none⟩]
abbrev r23_2 : List CO := [
  ⟨some 5, .mv (.c (.p (.s (.int .i64 0)))), none⟩]
abbrev r23_3 : List CO := [
  ⟨some 7, .mv (.t 5), none⟩,
  ⟨some 8, .mv (.t 0), none⟩,
  ⟨some 9, .len (.t 8), none⟩,
  ⟨some 10, .bin .lss (.t 7) (.t 9), none⟩]
abbrev r23_5 : List CO := [
  ⟨some 13, .mv (.t 5), none⟩,
  ⟨some 14, .bin .add (.t 13) (.c (.p (.s (.int .i64 3)))), none⟩,
  ⟨some 15, .mv (.t 0), none⟩,
  ⟨some 16, .len (.t 15), none⟩,
  ⟨some 17, .bin .gtr (.t 14) (.t 16), none⟩]
abbrev r23_6 : List CO := [
  ⟨some 2, .mv (.c (.p (.s (.slice none 0 0)))), none⟩,
  ⟨some 3, .mv (.c (.p (.s (.bool false)))), none⟩]
abbrev r23_7 : List CO := [
  ⟨some 18, .mv (.t 0), none⟩,
  ⟨some 19, .mv (.t 5), none⟩,
  ⟨some 20, .bin .add (.t 19) (.c (.p (.s (.int .i64 1)))), none⟩,
  ⟨some 21, .iaddrS 1 (.t 18) (.t 20), none⟩,
  ⟨some 22, .load false 1 (.t 21), none⟩,
  ⟨some 23, .toInt .i64 (.t 22), none⟩,
  ⟨some 6, .mv (.t 23), none⟩]
abbrev r23_8 : List CO := [
  ⟨some 24, .mv (.t 6), none⟩,
  ⟨some 25, .bin .quo (.t 24) (.c (.p (.s (.int .i64 4)))), none⟩,
  ⟨some 26, .bin .rem (.t 25) (.c (.p (.s (.int .i64 8)))), none⟩,
  ⟨some 27, .bin .neq (.t 26) (.c (.p (.s (.int .i64 0)))), none⟩]
abbrev r23_9 : List CO := [
  ⟨some 2, .mv (.c (.p (.s (.slice none 0 0)))), none⟩,
  ⟨some 3, .mv (.c (.p (.s (.bool false)))), none⟩]
abbrev r23_10 : List CO := [
  ⟨some 28, .mv (.t 4), none⟩,
  ⟨some 29, .mv (.t 0), none⟩,
  ⟨some 30, .mv (.t 5), none⟩,
  ⟨some 31, .iaddrS 1 (.t 29) (.t 30), none⟩,
  ⟨some 32, .load false 1 (.t 31), none⟩,
  ⟨some 33, .toInt .i64 (.t 32), none⟩,
  ⟨some 34, .mv (.t 6), none⟩,
  ⟨some 35, .bin .rem (.t 34) (.c (.p (.s (.int .i64 4)))), none⟩,
  ⟨some 36, .mv (.t 6), none⟩,
  ⟨some 37, .bin .quo (.t 36) (.c (.p (.s (.int .i64 128)))), none⟩,
  ⟨some 38, .bin .eql (.t 37) (.c (.p (.s (.int .i64 1)))), none⟩,
  ⟨some 39, .mv (.t 6), none⟩,
  ⟨some 40, .bin .quo (.t 39) (.c (.p (.s (.int .i64 64)))), none⟩,
  ⟨some 41, .bin .rem (.t 40) (.c (.p (.s (.int .i64 2)))), none⟩,
  ⟨some 42, .bin .eql (.t 41) (.c (.p (.s (.int .i64 1)))), none⟩,
  ⟨some 43, .mv (.t 6), none⟩,
  ⟨some 44, .bin .quo (.t 43) (.c (.p (.s (.int .i64 32)))), none⟩,
  ⟨some 45, .bin .rem (.t 44) (.c (.p (.s (.int .i64 2)))), none⟩,
  ⟨some 46, .bin .eql (.t 45) (.c (.p (.s (.int .i64 1)))), none⟩,
  ⟨some 47, .mv (.t 0), none⟩,
  ⟨some 48, .mv (.t 5), none⟩,
  ⟨some 49, .bin .add (.t 48) (.c (.p (.s (.int .i64 2)))), none⟩,
  ⟨some 50, .iaddrS 1 (.t 47) (.t 49), none⟩,
  ⟨some 51, .load false 1 (.t 50), none⟩,
  ⟨some 52, .build ([.s (.int .i64 0), .s (.int .i64 0), .s (.bool false), .s (.bool false), .s (.bool false), .s (.int .u8 0)]) [(0, 1, .t 33), (1, 1, .t 35), (2, 1, .t 38), (3, 1, .t 42), (4, 1, .t 46), (5, 1, .t 51)], none⟩,
  ⟨some 53, .bslice 6 1 ([.s (.int .i64 0), .s (.int .i64 0), .s (.bool false), .s (.bool false), .s (.bool false), .s (.int .u8 0)]) [(0, .t 52)], none⟩,
  ⟨some 54, .append 6 24 ([.s (.int .i64 0), .s (.int .i64 0), .s (.bool false), .s (.bool false), .s (.bool false), .s (.int .u8 0)]) (.t 28) (.t 53), none⟩,
  ⟨some 4, .mv (.t 54), none⟩]
abbrev b23_10 : List (List Nat) := [[], [], [], [1, 2], [3], [4], [], [6], [], [8], [9], [], [11], [12], [13], [], [15], [16], [17], [], [], [20], [19, 21], [22], [5, 7, 10, 14, 18, 23], [24], [0, 25], [26, 26, 0, 1, 2, 3, 4, 5, 6, 7, 8, 9, 10, 11, 12, 13, 14, 15, 16, 17, 18, 19, 20, 21, 22, 23, 24, 25, 26]]
abbrev k23_1 : CC := .seq (.seq (.reg r23_5) (.rest [0, 4, 5, 17] (.cond (.t 17) (.seq (.reg r23_6) (.ret)) (.skip)))) (.rest [0, 4, 5] (.seq (.reg r23_7) (.rest [0, 4, 5, 6] (.seq (.seq (.reg r23_8) (.rest [0, 4, 5, 6, 27] (.cond (.t 27) (.seq (.reg r23_9) (.ret)) (.skip)))) (.rest [0, 4, 5, 6] (.regd r23_10 b23_10))))))
abbrev r23_4 : List CO := [
  ⟨some 11, .mv (.t 5), none⟩,
  ⟨some 12, .bin .add (.t 11) (.c (.p (.s (.int .i64 3)))), none⟩,
  ⟨some 5, .mv (.t 12), none⟩]
abbrev l23_13 : CC := .seq (.seq (.reg r23_3) (.rest [0, 4, 5, 10] (.cond (.t 10) (.skip) (.exit 0)))) (.rest [0, 4, 5] (.seq (.block 1 k23_1) (.rest [0, 4, 5] (.reg r23_4))))
abbrev k23_0 : CC := .loop l23_13
abbrev r23_11 : List CO := [
  ⟨some 55, .mv (.t 4), none⟩,
  ⟨some 2, .mv (.t 55), none⟩,
  ⟨some 3, .mv (.c (.p (.s (.bool true)))), none⟩]
abbrev c23 : CC := .seq (.reg r23_0) (.seq (.reg r23_1) (.seq (.seq (.reg r23_2) (.block 0 k23_0)) (.rest [4] (.seq (.reg r23_11) (.ret)))))
theorem F23 : Fun Tryd.prog 23 56 c23 [.tmp 2, .tmp 3] 1 := ⟨⟨Tryd.f23, _, Tryd.func23, rfl, by kernel_rfl, Tryd.ntmps23, by kernel_rfl, by kernel_rfl⟩, by decide⟩

/-- linnet/slc.mark -/
abbrev r24_0 : List CO := [
  ⟨some 4, .mv (.c (.p (.s (.int .u8 0)))), none⟩]
abbrev r24_1 : List CO := [
  ⟨some 5, .mv (.t 0), none⟩]
abbrev r24_2 : List CO := [
  ⟨some 6, .mv (.t 1), none⟩,
  ⟨some 4, .mv (.t 6), none⟩]
abbrev r24_3 : List CO := [
  ⟨some 4, .mv (.c (.p (.s (.int .u8 0)))), none⟩]
abbrev c24 : CC := .seq (.reg r24_0) (.seq (.seq (.reg r24_1) (.cond (.t 5) (.seq (.reg r24_2) (.ret)) (.skip))) (.seq (.reg r24_3) (.ret)))
theorem F24 : Fun Tryd.prog 24 7 c24 [.tmp 4] 2 := ⟨⟨Tryd.f24, _, Tryd.func24, rfl, by kernel_rfl, Tryd.ntmps24, by kernel_rfl, by kernel_rfl⟩, by decide⟩

end Go.Proofs.YtblmdlhdfiafgaaDoor
