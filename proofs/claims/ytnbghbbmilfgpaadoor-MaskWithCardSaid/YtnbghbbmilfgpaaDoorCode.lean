/- Code of functions of the given program in compact form, printed by a program of this repository (wip/tools/gen.py) out of what Lean prints of the loaded functions; each is checked by the kernel. -/
import Derived.Test.YtnbghbbmilfgpaaDoorSz
import Derived.Test.YtnbghbbmilfgpaaDoorProg
import Derived.KernelRfl
namespace Go.Proofs.YtnbghbbmilfgpaaDoor
open Go Go.Shade

/-- linnet/linnetlaw10.MaskTells -/
abbrev r3_0 : List CO := [
  ⟨some 3, .box (.t 0), none⟩,
  ⟨some 4, .box (.t 1), none⟩,
  ⟨some 6, .mv (.c (.p (.s (.bool false)))), none⟩]
abbrev r3_1 : List CO := [
  ⟨some 11, .mv (.t 2), none⟩,
  ⟨some 12, .call (.c (.fn (.func 9) [] [])) [.t 11], none⟩,
  ⟨some 2, .mv (.t 12), none⟩]
abbrev r3_2 : List CO := [
  ⟨some 14, .mv (.t 2), none⟩,
  ⟨some 15, .call (.c (.fn (.func 10) [] [])) [.t 14], none⟩,
  ⟨some 13, .mv (.t 15), none⟩,
  ⟨some 16, .extract 0 (.t 13), none⟩,
  ⟨some 17, .extract 1 (.t 13), none⟩,
  ⟨some 7, .alloc (List.replicate 32 (.s (.int .u8 0))), none⟩,
  ⟨none, .store 32 (.t 7) (.t 16), none⟩,
  ⟨some 8, .mv (.t 17), none⟩]
abbrev r3_3 : List CO := [
  ⟨some 19, .mv (.t 2), none⟩,
  ⟨some 20, .call (.c (.fn (.func 11) [] [])) [.t 19], none⟩,
  ⟨some 18, .mv (.t 20), none⟩,
  ⟨some 21, .extract 0 (.t 18), none⟩,
  ⟨some 22, .extract 1 (.t 18), none⟩,
  ⟨some 9, .alloc (List.replicate 32 (.s (.int .u8 0))), none⟩,
  ⟨none, .store 32 (.t 9) (.t 21), none⟩,
  ⟨some 10, .mv (.t 22), none⟩]
abbrev r3_4 : List CO := [
  ⟨some 23, .mv (.t 2), none⟩,
  ⟨some 24, .call (.c (.fn (.func 12) [] [])) [.t 23], none⟩,
  ⟨some 25, .mv (.t 2), none⟩,
  ⟨some 26, .call (.c (.fn (.func 13) [] [])) [.t 25], none⟩,
  ⟨some 27, .eqs false (List.replicate 32 0) (.t 24) (.t 26), none⟩,
  ⟨some 28, .mv (.t 27), none⟩,
  ⟨some 29, .load true 32 (.t 3), some (28, true)⟩,
  ⟨some 30, .faddr 0 (.t 4), some (28, true)⟩,
  ⟨some 31, .load false 1 (.t 30), some (28, true)⟩,
  ⟨some 32, .call (.c (.fn (.func 14) [] [])) [.t 29, .t 31], some (28, true)⟩,
  ⟨some 33, .load true 32 (.t 3), some (28, true)⟩,
  ⟨some 34, .faddr 0 (.t 4), some (28, true)⟩,
  ⟨some 35, .load false 1 (.t 34), some (28, true)⟩,
  ⟨some 36, .call (.c (.fn (.func 15) [] [])) [.t 33, .t 35], some (28, true)⟩,
  ⟨some 37, .beq false (.t 32) (.t 36), some (28, true)⟩,
  ⟨some 38, .pick (.t 28) (.t 37) (.c (.p (.s (.bool false)))), none⟩,
  ⟨some 39, .mv (.t 38), none⟩,
  ⟨some 40, .load true 32 (.t 3), some (39, true)⟩,
  ⟨some 41, .faddr 0 (.t 4), some (39, true)⟩,
  ⟨some 42, .load false 1 (.t 41), some (39, true)⟩,
  ⟨some 43, .faddr 1 (.t 4), some (39, true)⟩,
  ⟨some 44, .load false 1 (.t 43), some (39, true)⟩,
  ⟨some 45, .call (.c (.fn (.func 16) [] [])) [.t 40, .t 42, .t 44], some (39, true)⟩,
  ⟨some 46, .load true 32 (.t 3), some (39, true)⟩,
  ⟨some 47, .faddr 0 (.t 4), some (39, true)⟩,
  ⟨some 48, .load false 1 (.t 47), some (39, true)⟩,
  ⟨some 49, .faddr 1 (.t 4), some (39, true)⟩,
  ⟨some 50, .load false 1 (.t 49), some (39, true)⟩,
  ⟨some 51, .call (.c (.fn (.func 17) [] [])) [.t 46, .t 48, .t 50], some (39, true)⟩,
  ⟨some 52, .eqs false (List.replicate 32 0) (.t 45) (.t 51), some (39, true)⟩,
  ⟨some 53, .pick (.t 39) (.t 52) (.c (.p (.s (.bool false)))), none⟩,
  ⟨some 54, .mv (.t 53), none⟩,
  ⟨some 55, .load true 32 (.t 3), some (54, true)⟩,
  ⟨some 56, .call (.c (.fn (.func 19) [] [])) [.t 55], some (54, true)⟩,
  ⟨some 57, .load true 32 (.t 3), some (54, true)⟩,
  ⟨some 58, .call (.c (.fn (.func 20) [] [])) [.t 57], some (54, true)⟩,
  ⟨some 59, .call (.c (.fn (.func 18) [] [])) [.t 56, .t 58], some (54, true)⟩,
  ⟨some 60, .pick (.t 54) (.t 59) (.c (.p (.s (.bool false)))), none⟩,
  ⟨some 61, .mv (.t 60), none⟩,
  ⟨some 62, .load true 32 (.t 3), some (61, true)⟩,
  ⟨some 63, .call (.c (.fn (.func 21) [] [])) [.t 62], some (61, true)⟩,
  ⟨some 64, .load true 32 (.t 3), some (61, true)⟩,
  ⟨some 65, .call (.c (.fn (.func 22) [] [])) [.t 64], some (61, true)⟩,
  ⟨some 66, .call (.c (.fn (.func 18) [] [])) [.t 63, .t 65], some (61, true)⟩,
  ⟨some 67, .pick (.t 61) (.t 66) (.c (.p (.s (.bool false)))), none⟩,
  ⟨some 68, .mv (.t 67), none⟩,
  ⟨some 69, .load true 32 (.t 7), some (68, true)⟩,
  ⟨some 70, .load true 32 (.t 9), some (68, true)⟩,
  ⟨some 71, .eqs false (List.replicate 32 0) (.t 69) (.t 70), some (68, true)⟩,
  ⟨some 72, .pick (.t 68) (.t 71) (.c (.p (.s (.bool false)))), none⟩,
  ⟨some 73, .mv (.t 72), none⟩,
  ⟨some 74, .mv (.t 8), some (73, true)⟩,
  ⟨some 75, .bin .eql (.t 74) (.c (.p (.s (.int .i64 0)))), some (73, true)⟩,
  ⟨some 76, .mv (.t 10), some (73, true)⟩,
  ⟨some 77, .beq false (.t 75) (.t 76), some (73, true)⟩,
  ⟨some 78, .pick (.t 73) (.t 77) (.c (.p (.s (.bool false)))), none⟩,
  ⟨some 79, .mv (.t 78), none⟩,
  ⟨some 80, .mv (.t 10), some (79, true)⟩,
  ⟨some 81, .mv (.t 80), some (79, true)⟩,
  ⟨some 82, .mv (.t 8), some (81, false)⟩,
  ⟨some 83, .bin .eql (.t 82) (.c (.p (.s (.int .i64 3)))), some (81, false)⟩,
  ⟨some 84, .pick (.t 81) (.c (.p (.s (.bool true)))) (.t 83), some (79, true)⟩,
  ⟨some 85, .pick (.t 79) (.t 84) (.c (.p (.s (.bool false)))), none⟩,
  ⟨some 86, .mv (.t 85), none⟩,
  ⟨some 87, .call (.c (.fn (.func 23) [] [])) [], some (86, true)⟩,
  ⟨some 88, .pick (.t 86) (.t 87) (.c (.p (.s (.bool false)))), none⟩,
  ⟨some 6, .mv (.t 88), none⟩]
abbrev b3_4 : List (List Nat) := [[], [0], [], [2, 1], [1, 3], [4, 3], [5], [5], [7, 5], [6, 8, 5, 5], [5], [5], [11, 5], [10, 12, 9, 5], [9, 13, 5], [5, 14], [15, 13], [16], [16], [18, 16], [16], [20, 16], [17, 19, 21, 16, 16], [16], [16], [24, 16], [16], [26, 16], [23, 25, 27, 22, 16], [22, 28, 16], [16, 29], [30, 28], [31], [32, 31, 31], [31], [34, 33, 31], [33, 35, 35, 31], [31, 36], [37, 36], [38], [39, 38, 38], [38], [41, 40, 38], [40, 42, 42, 38], [38, 43], [44, 43], [45], [45], [46, 47, 45], [45, 48], [49, 45], [50], [51, 50], [50], [52, 53, 50], [50, 54], [55, 50], [56], [57, 56, 56], [58], [59, 58], [58, 60, 56], [56, 61], [62, 58], [63, 63], [63, 64], [65, 64, 0, 1, 2, 3, 4, 5, 6, 7, 8, 9, 10, 11, 12, 13, 14, 15, 16, 17, 18, 19, 20, 21, 22, 23, 24, 25, 26, 27, 28, 29, 30, 31, 32, 33, 34, 35, 36, 37, 38, 39, 40, 41, 42, 43, 44, 45, 46, 47, 48, 49, 50, 51, 52, 53, 54, 55, 56, 57, 58, 59, 60, 61, 62, 63, 64, 65]]
abbrev c3 : CC := .seq (.reg r3_0) (.seq (.reg r3_1) (.seq (.reg r3_2) (.rest [2, 3, 4, 7, 8] (.seq (.reg r3_3) (.rest [2, 3, 4, 7, 8, 9, 10] (.seq (.regd r3_4 b3_4) (.rest [6] (.ret))))))))
theorem F3 : Fun Tryd.prog 3 89 c3 [.tmp 6] 3 := ⟨⟨Tryd.f3, _, Tryd.func3, rfl, by kernel_rfl, Tryd.ntmps3, by kernel_rfl, by kernel_rfl⟩, by decide⟩

/-- linnet/linnetlaw10.MaskBack -/
abbrev r4_0 : List CO := [
  ⟨some 2, .box (.t 0), none⟩,
  ⟨some 4, .mv (.c (.p (.s (.bool false)))), none⟩]
abbrev r4_1 : List CO := [
  ⟨some 11, .mv (.t 1), none⟩,
  ⟨some 12, .call (.c (.fn (.func 9) [] [])) [.t 11], none⟩,
  ⟨some 1, .mv (.t 12), none⟩]
abbrev r4_2 : List CO := [
  ⟨some 14, .load true 32 (.t 2), none⟩,
  ⟨some 15, .call (.c (.fn (.func 21) [] [])) [.t 14], none⟩,
  ⟨some 16, .call (.c (.fn (.func 10) [] [])) [.t 15], none⟩,
  ⟨some 13, .mv (.t 16), none⟩,
  ⟨some 17, .extract 0 (.t 13), none⟩,
  ⟨some 18, .extract 1 (.t 13), none⟩,
  ⟨some 5, .alloc (List.replicate 32 (.s (.int .u8 0))), none⟩,
  ⟨none, .store 32 (.t 5) (.t 17), none⟩,
  ⟨some 6, .mv (.t 18), none⟩]
abbrev r4_3 : List CO := [
  ⟨some 19, .mv (.t 6), none⟩,
  ⟨some 20, .bin .neq (.t 19) (.c (.p (.s (.int .i64 0)))), none⟩,
  ⟨some 21, .mv (.t 20), none⟩,
  ⟨some 22, .load true 32 (.t 5), some (21, false)⟩,
  ⟨some 23, .load true 32 (.t 2), some (21, false)⟩,
  ⟨some 24, .eqs true (List.replicate 32 0) (.t 22) (.t 23), some (21, false)⟩,
  ⟨some 25, .pick (.t 21) (.c (.p (.s (.bool true)))) (.t 24), none⟩,
  ⟨some 26, .mv (.t 25), none⟩,
  ⟨some 27, .load true 32 (.t 2), some (26, false)⟩,
  ⟨some 28, .call (.c (.fn (.func 19) [] [])) [.t 27], some (26, false)⟩,
  ⟨some 29, .call (.c (.fn (.func 12) [] [])) [.t 28], some (26, false)⟩,
  ⟨some 30, .load true 32 (.t 2), some (26, false)⟩,
  ⟨some 31, .eqs true (List.replicate 32 0) (.t 29) (.t 30), some (26, false)⟩,
  ⟨some 32, .pick (.t 26) (.c (.p (.s (.bool true)))) (.t 31), none⟩]
abbrev b4_3 : List (List Nat) := [[], [0], [1], [2], [2], [3, 4, 2], [2, 5], [6, 2], [7], [8, 7, 7], [9, 9, 7], [7], [10, 11, 7], [7, 12]]
abbrev r4_4 : List CO := [
  ⟨some 4, .mv (.c (.p (.s (.bool false)))), none⟩]
abbrev r4_5 : List CO := [
  ⟨some 34, .mv (.t 1), none⟩,
  ⟨some 35, .call (.c (.fn (.func 10) [] [])) [.t 34], none⟩,
  ⟨some 33, .mv (.t 35), none⟩,
  ⟨some 36, .extract 0 (.t 33), none⟩,
  ⟨some 37, .extract 1 (.t 33), none⟩,
  ⟨some 7, .alloc (List.replicate 32 (.s (.int .u8 0))), none⟩,
  ⟨none, .store 32 (.t 7) (.t 36), none⟩,
  ⟨some 8, .mv (.t 37), none⟩]
abbrev r4_6 : List CO := [
  ⟨some 38, .mv (.t 8), none⟩,
  ⟨some 39, .bin .neq (.t 38) (.c (.p (.s (.int .i64 0)))), none⟩]
abbrev r4_7 : List CO := [
  ⟨some 40, .mv (.t 1), none⟩,
  ⟨some 41, .len (.t 40), none⟩,
  ⟨some 42, .bin .gtr (.t 41) (.c (.p (.s (.int .i64 32)))), none⟩,
  ⟨some 43, .mv (.t 42), none⟩,
  ⟨some 44, .load true 32 (.t 7), some (43, true)⟩,
  ⟨some 45, .build (List.replicate 32 (.s (.int .u8 0))) [], some (43, true)⟩,
  ⟨some 46, .eqs false (List.replicate 32 0) (.t 44) (.t 45), some (43, true)⟩,
  ⟨some 47, .pick (.t 43) (.t 46) (.c (.p (.s (.bool false)))), none⟩,
  ⟨some 48, .mv (.t 47), none⟩,
  ⟨some 49, .call (.c (.fn (.func 23) [] [])) [], some (48, true)⟩,
  ⟨some 50, .pick (.t 48) (.t 49) (.c (.p (.s (.bool false)))), none⟩,
  ⟨some 4, .mv (.t 50), none⟩]
abbrev r4_8 : List CO := [
  ⟨some 51, .load true 32 (.t 7), none⟩,
  ⟨some 52, .call (.c (.fn (.func 21) [] [])) [.t 51], none⟩,
  ⟨some 9, .mv (.t 52), none⟩]
abbrev r4_9 : List CO := [
  ⟨some 53, .mv (.t 9), none⟩,
  ⟨some 54, .len (.t 53), none⟩,
  ⟨some 55, .mv (.t 1), none⟩,
  ⟨some 56, .len (.t 55), none⟩,
  ⟨some 57, .bin .gtr (.t 54) (.t 56), none⟩,
  ⟨some 58, .mv (.t 57), none⟩,
  ⟨some 59, .mv (.t 9), some (58, false)⟩,
  ⟨some 60, .mv (.t 1), some (58, false)⟩,
  ⟨some 61, .mv (.t 9), some (58, false)⟩,
  ⟨some 62, .len (.t 61), some (58, false)⟩,
  ⟨some 63, .slice 1 (.t 60) none (some (.t 62)), some (58, false)⟩,
  ⟨some 64, .call (.c (.fn (.func 18) [] [])) [.t 59, .t 63], some (58, false)⟩,
  ⟨some 65, .un .not (.t 64), some (58, false)⟩,
  ⟨some 66, .pick (.t 58) (.c (.p (.s (.bool true)))) (.t 65), none⟩,
  ⟨some 67, .mv (.t 66), none⟩,
  ⟨some 68, .mv (.t 9), some (67, false)⟩,
  ⟨some 69, .len (.t 68), some (67, false)⟩,
  ⟨some 70, .bin .gtr (.t 69) (.c (.p (.s (.int .i64 0)))), some (67, false)⟩,
  ⟨some 71, .mv (.t 70), some (67, false)⟩,
  ⟨some 72, .mv (.t 9), some (71, true)⟩,
  ⟨some 73, .mv (.t 9), some (71, true)⟩,
  ⟨some 74, .len (.t 73), some (71, true)⟩,
  ⟨some 75, .bin .sub (.t 74) (.c (.p (.s (.int .i64 1)))), some (71, true)⟩,
  ⟨some 76, .iaddrS 1 (.t 72) (.t 75), some (71, true)⟩,
  ⟨some 77, .load false 1 (.t 76), some (71, true)⟩,
  ⟨some 78, .bin .eql (.t 77) (.c (.p (.s (.int .u8 0)))), some (71, true)⟩,
  ⟨some 79, .pick (.t 71) (.t 78) (.c (.p (.s (.bool false)))), some (67, false)⟩,
  ⟨some 80, .pick (.t 67) (.c (.p (.s (.bool true)))) (.t 79), none⟩]
abbrev r4_10 : List CO := [
  ⟨some 4, .mv (.c (.p (.s (.bool false)))), none⟩]
abbrev r4_11 : List CO := [
  ⟨some 81, .mv (.t 9), none⟩,
  ⟨some 82, .len (.t 81), none⟩,
  ⟨some 10, .mv (.t 82), none⟩]
abbrev r4_12 : List CO := [
  ⟨some 83, .mv (.t 10), none⟩,
  ⟨some 84, .mv (.t 1), none⟩,
  ⟨some 85, .len (.t 84), none⟩,
  ⟨some 86, .bin .lss (.t 83) (.t 85), none⟩]
abbrev r4_14 : List CO := [
  ⟨some 89, .mv (.t 1), none⟩,
  ⟨some 90, .mv (.t 10), none⟩,
  ⟨some 91, .iaddrS 1 (.t 89) (.t 90), none⟩,
  ⟨some 92, .load false 1 (.t 91), none⟩,
  ⟨some 93, .bin .neq (.t 92) (.c (.p (.s (.int .u8 0)))), none⟩]
abbrev r4_15 : List CO := [
  ⟨some 4, .mv (.c (.p (.s (.bool false)))), none⟩]
abbrev k4_1 : CC := .seq (.reg r4_14) (.rest [1, 10, 93] (.cond (.t 93) (.seq (.reg r4_15) (.ret)) (.skip)))
abbrev r4_13 : List CO := [
  ⟨some 87, .mv (.t 10), none⟩,
  ⟨some 88, .bin .add (.t 87) (.c (.p (.s (.int .i64 1)))), none⟩,
  ⟨some 10, .mv (.t 88), none⟩]
abbrev l4_18 : CC := .seq (.seq (.reg r4_12) (.rest [1, 10, 86] (.cond (.t 86) (.skip) (.exit 0)))) (.rest [1, 10] (.seq (.block 1 k4_1) (.rest [1, 10] (.reg r4_13))))
abbrev k4_0 : CC := .loop l4_18
abbrev r4_16 : List CO := [
  ⟨some 94, .call (.c (.fn (.func 23) [] [])) [], none⟩,
  ⟨some 4, .mv (.t 94), none⟩]
abbrev c4 : CC := .seq (.reg r4_0) (.seq (.reg r4_1) (.seq (.reg r4_2) (.rest [1, 2, 5, 6] (.seq (.seq (.regd r4_3 b4_3) (.rest [1, 32] (.cond (.t 32) (.seq (.reg r4_4) (.ret)) (.skip)))) (.rest [1] (.seq (.reg r4_5) (.rest [1, 7, 8] (.seq (.seq (.reg r4_6) (.cond (.t 39) (.seq (.reg r4_7) (.rest [4] (.ret))) (.skip))) (.rest [1, 7] (.seq (.reg r4_8) (.seq (.seq (.reg r4_9) (.rest [1, 9, 80] (.cond (.t 80) (.seq (.reg r4_10) (.ret)) (.skip)))) (.rest [1, 9] (.seq (.seq (.reg r4_11) (.block 0 k4_0)) (.rest [] (.seq (.reg r4_16) (.ret))))))))))))))))
theorem F4 : Fun Tryd.prog 4 95 c4 [.tmp 4] 2 := ⟨⟨Tryd.f4, _, Tryd.func4, rfl, by kernel_rfl, Tryd.ntmps4, by kernel_rfl, by kernel_rfl⟩, by decide⟩

/-- linnet/linnetlaw10.MaskWith -/
abbrev r5_0 : List CO := [
  ⟨some 3, .box (.t 0), none⟩,
  ⟨some 4, .box (.t 1), none⟩,
  ⟨some 6, .mv (.c (.p (.s (.bool false)))), none⟩]
abbrev r5_1 : List CO := [
  ⟨some 9, .load true 32 (.t 3), none⟩,
  ⟨some 10, .faddr 0 (.t 4), none⟩,
  ⟨some 11, .load false 1 (.t 10), none⟩,
  ⟨some 12, .faddr 1 (.t 4), none⟩,
  ⟨some 13, .load false 1 (.t 12), none⟩,
  ⟨some 14, .call (.c (.fn (.func 16) [] [])) [.t 9, .t 11, .t 13], none⟩,
  ⟨some 7, .alloc (List.replicate 32 (.s (.int .u8 0))), none⟩,
  ⟨none, .store 32 (.t 7) (.t 14), none⟩]
abbrev r5_2 : List CO := [
  ⟨some 15, .load true 32 (.t 7), none⟩,
  ⟨some 16, .faddr 0 (.t 4), none⟩,
  ⟨some 17, .load false 1 (.t 16), none⟩,
  ⟨some 18, .call (.c (.fn (.func 14) [] [])) [.t 15, .t 17], none⟩,
  ⟨some 19, .faddr 1 (.t 4), none⟩,
  ⟨some 20, .load false 1 (.t 19), none⟩,
  ⟨some 21, .beq true (.t 18) (.t 20), none⟩,
  ⟨some 22, .mv (.t 21), none⟩,
  ⟨some 23, .mv (.t 2), some (22, false)⟩,
  ⟨some 24, .faddr 0 (.t 4), some (22, false)⟩,
  ⟨some 25, .load false 1 (.t 24), some (22, false)⟩,
  ⟨some 26, .bin .neq (.t 23) (.t 25), some (22, false)⟩,
  ⟨some 27, .mv (.t 26), some (22, false)⟩,
  ⟨some 28, .load true 32 (.t 7), some (27, true)⟩,
  ⟨some 29, .mv (.t 2), some (27, true)⟩,
  ⟨some 30, .call (.c (.fn (.func 14) [] [])) [.t 28, .t 29], some (27, true)⟩,
  ⟨some 31, .load true 32 (.t 3), some (27, true)⟩,
  ⟨some 32, .mv (.t 2), some (27, true)⟩,
  ⟨some 33, .call (.c (.fn (.func 14) [] [])) [.t 31, .t 32], some (27, true)⟩,
  ⟨some 34, .beq true (.t 30) (.t 33), some (27, true)⟩,
  ⟨some 35, .pick (.t 27) (.t 34) (.c (.p (.s (.bool false)))), some (22, false)⟩,
  ⟨some 36, .pick (.t 22) (.c (.p (.s (.bool true)))) (.t 35), none⟩]
abbrev b5_2 : List (List Nat) := [[], [], [1], [0, 2], [], [4], [3, 5], [6, 3], [7], [7], [9, 7], [8, 10, 7], [11, 7, 7], [12], [12], [13, 14, 12, 12], [12], [12], [16, 17, 15, 12], [15, 18, 12], [12, 19, 7], [7, 20]]
abbrev r5_3 : List CO := [
  ⟨some 6, .mv (.c (.p (.s (.bool false)))), none⟩]
abbrev r5_4 : List CO := [
  ⟨some 37, .load true 32 (.t 7), none⟩,
  ⟨some 38, .faddr 0 (.t 4), none⟩,
  ⟨some 39, .load false 1 (.t 38), none⟩,
  ⟨some 40, .load true 32 (.t 3), none⟩,
  ⟨some 41, .faddr 0 (.t 4), none⟩,
  ⟨some 42, .load false 1 (.t 41), none⟩,
  ⟨some 43, .call (.c (.fn (.func 14) [] [])) [.t 40, .t 42], none⟩,
  ⟨some 44, .call (.c (.fn (.func 16) [] [])) [.t 37, .t 39, .t 43], none⟩,
  ⟨some 8, .alloc (List.replicate 32 (.s (.int .u8 0))), none⟩,
  ⟨none, .store 32 (.t 8) (.t 44), none⟩]
abbrev b5_4 : List (List Nat) := [[], [], [1], [], [], [4], [3, 5], [0, 2, 6, 6], [], [8, 7, 7, 0, 1, 2, 3, 4, 5, 6, 7, 8]]
abbrev r5_5 : List CO := [
  ⟨some 45, .load true 32 (.t 7), none⟩,
  ⟨some 46, .faddr 0 (.t 4), none⟩,
  ⟨some 47, .load false 1 (.t 46), none⟩,
  ⟨some 48, .faddr 1 (.t 4), none⟩,
  ⟨some 49, .load false 1 (.t 48), none⟩,
  ⟨some 50, .call (.c (.fn (.func 16) [] [])) [.t 45, .t 47, .t 49], none⟩,
  ⟨some 51, .load true 32 (.t 7), none⟩,
  ⟨some 52, .eqs false (List.replicate 32 0) (.t 50) (.t 51), none⟩,
  ⟨some 53, .mv (.t 52), none⟩,
  ⟨some 54, .load true 32 (.t 8), some (53, true)⟩,
  ⟨some 55, .load true 32 (.t 3), some (53, true)⟩,
  ⟨some 56, .eqs false (List.replicate 32 0) (.t 54) (.t 55), some (53, true)⟩,
  ⟨some 57, .pick (.t 53) (.t 56) (.c (.p (.s (.bool false)))), none⟩,
  ⟨some 58, .mv (.t 57), none⟩,
  ⟨some 59, .call (.c (.fn (.func 23) [] [])) [], some (58, true)⟩,
  ⟨some 60, .pick (.t 58) (.t 59) (.c (.p (.s (.bool false)))), none⟩,
  ⟨some 6, .mv (.t 60), none⟩]
abbrev b5_5 : List (List Nat) := [[], [], [1], [], [3], [0, 2, 4], [], [5, 6], [7, 5], [8], [8], [9, 10, 8], [8, 11], [12, 8], [13, 13], [13, 14], [15, 14, 0, 1, 2, 3, 4, 5, 6, 7, 8, 9, 10, 11, 12, 13, 14, 15]]
abbrev c5 : CC := .seq (.reg r5_0) (.seq (.reg r5_1) (.rest [2, 3, 4, 7] (.seq (.seq (.regd r5_2 b5_2) (.rest [3, 4, 7, 36] (.cond (.t 36) (.seq (.reg r5_3) (.ret)) (.skip)))) (.rest [3, 4, 7] (.seq (.regd r5_4 b5_4) (.rest [3, 4, 7, 8] (.seq (.regd r5_5 b5_5) (.rest [6] (.ret)))))))))
theorem F5 : Fun Tryd.prog 5 61 c5 [.tmp 6] 3 := ⟨⟨Tryd.f5, _, Tryd.func5, rfl, by kernel_rfl, Tryd.ntmps5, by kernel_rfl, by kernel_rfl⟩, by decide⟩

/-- linnet/linnetlaw10.MaskOrder -/
abbrev r6_0 : List CO := [
  ⟨some 6, .mv (.c (.p (.s (.bool false)))), none⟩]
abbrev r6_1 : List CO := [
  ⟨some 13, .mv (.t 0), none⟩,
  ⟨some 14, .call (.c (.fn (.func 9) [] [])) [.t 13], none⟩,
  ⟨some 15, .mv (.t 1), none⟩,
  ⟨some 16, .call (.c (.fn (.func 9) [] [])) [.t 15], none⟩,
  ⟨some 0, .mv (.t 14), none⟩,
  ⟨some 1, .mv (.t 16), none⟩]
abbrev r6_2 : List CO := [
  ⟨some 7, .mv (.c (.p (.s (.bool false)))), none⟩]
abbrev r6_3 : List CO := [
  ⟨some 8, .mv (.c (.p (.s (.slice none 0 0)))), none⟩]
abbrev r6_4 : List CO := [
  ⟨some 17, .mv (.t 1), none⟩,
  ⟨some 18, .len (.t 17), none⟩,
  ⟨some 19, .bin .sub (.t 18) (.c (.p (.s (.int .i64 1)))), none⟩,
  ⟨some 9, .mv (.t 19), none⟩]
abbrev r6_5 : List CO := [
  ⟨some 20, .mv (.t 9), none⟩,
  ⟨some 21, .bin .geq (.t 20) (.c (.p (.s (.int .i64 0)))), none⟩]
abbrev r6_7 : List CO := [
  ⟨some 24, .mv (.t 8), none⟩,
  ⟨some 25, .mv (.t 1), none⟩,
  ⟨some 26, .mv (.t 9), none⟩,
  ⟨some 27, .iaddrS 1 (.t 25) (.t 26), none⟩,
  ⟨some 28, .load false 1 (.t 27), none⟩,
  ⟨some 29, .bslice 1 1 ([.s (.int .u8 0)]) [(0, .t 28)], none⟩,
  ⟨some 30, .append 1 1 ([.s (.int .u8 0)]) (.t 24) (.t 29), none⟩,
  ⟨some 8, .mv (.t 30), none⟩]
abbrev r6_8 : List CO := [
  ⟨some 31, .mv (.t 7), none⟩,
  ⟨some 32, .mv (.t 31), none⟩,
  ⟨some 33, .mv (.t 1), some (32, false)⟩,
  ⟨some 34, .mv (.t 9), some (32, false)⟩,
  ⟨some 35, .iaddrS 1 (.t 33) (.t 34), some (32, false)⟩,
  ⟨some 36, .load false 1 (.t 35), some (32, false)⟩,
  ⟨some 37, .mv (.t 2), some (32, false)⟩,
  ⟨some 38, .bin .eql (.t 36) (.t 37), some (32, false)⟩,
  ⟨some 39, .pick (.t 32) (.c (.p (.s (.bool true)))) (.t 38), none⟩,
  ⟨some 7, .mv (.t 39), none⟩]
abbrev k6_1 : CC := .seq (.reg r6_7) (.rest [0, 1, 2, 7, 8, 9] (.reg r6_8))
abbrev r6_6 : List CO := [
  ⟨some 22, .mv (.t 9), none⟩,
  ⟨some 23, .bin .sub (.t 22) (.c (.p (.s (.int .i64 1)))), none⟩,
  ⟨some 9, .mv (.t 23), none⟩]
abbrev l6_10 : CC := .seq (.seq (.reg r6_5) (.cond (.t 21) (.skip) (.exit 0))) (.seq (.block 1 k6_1) (.rest [0, 1, 2, 7, 8, 9] (.reg r6_6)))
abbrev k6_0 : CC := .loop l6_10
abbrev r6_9 : List CO := [
  ⟨some 40, .mv (.t 0), none⟩,
  ⟨some 41, .len (.t 40), none⟩,
  ⟨some 42, .bin .sub (.t 41) (.c (.p (.s (.int .i64 1)))), none⟩,
  ⟨some 10, .mv (.t 42), none⟩]
abbrev r6_10 : List CO := [
  ⟨some 43, .mv (.t 10), none⟩,
  ⟨some 44, .bin .geq (.t 43) (.c (.p (.s (.int .i64 0)))), none⟩]
abbrev r6_12 : List CO := [
  ⟨some 47, .mv (.t 8), none⟩,
  ⟨some 48, .mv (.t 0), none⟩,
  ⟨some 49, .mv (.t 10), none⟩,
  ⟨some 50, .iaddrS 1 (.t 48) (.t 49), none⟩,
  ⟨some 51, .load false 1 (.t 50), none⟩,
  ⟨some 52, .bslice 1 1 ([.s (.int .u8 0)]) [(0, .t 51)], none⟩,
  ⟨some 53, .append 1 1 ([.s (.int .u8 0)]) (.t 47) (.t 52), none⟩,
  ⟨some 8, .mv (.t 53), none⟩]
abbrev r6_13 : List CO := [
  ⟨some 54, .mv (.t 7), none⟩,
  ⟨some 55, .mv (.t 54), none⟩,
  ⟨some 56, .mv (.t 0), some (55, false)⟩,
  ⟨some 57, .mv (.t 10), some (55, false)⟩,
  ⟨some 58, .iaddrS 1 (.t 56) (.t 57), some (55, false)⟩,
  ⟨some 59, .load false 1 (.t 58), some (55, false)⟩,
  ⟨some 60, .mv (.t 2), some (55, false)⟩,
  ⟨some 61, .bin .eql (.t 59) (.t 60), some (55, false)⟩,
  ⟨some 62, .pick (.t 55) (.c (.p (.s (.bool true)))) (.t 61), none⟩,
  ⟨some 7, .mv (.t 62), none⟩]
abbrev k6_3 : CC := .seq (.reg r6_12) (.rest [0, 1, 2, 7, 8, 10] (.reg r6_13))
abbrev r6_11 : List CO := [
  ⟨some 45, .mv (.t 10), none⟩,
  ⟨some 46, .bin .sub (.t 45) (.c (.p (.s (.int .i64 1)))), none⟩,
  ⟨some 10, .mv (.t 46), none⟩]
abbrev l6_18 : CC := .seq (.seq (.reg r6_10) (.cond (.t 44) (.skip) (.exit 2))) (.seq (.block 3 k6_3) (.rest [0, 1, 2, 7, 8, 10] (.reg r6_11)))
abbrev k6_2 : CC := .loop l6_18
abbrev r6_14 : List CO := [
  ⟨some 63, .bslice 1 0 ([.s (.int .u8 0)]) [], none⟩,
  ⟨some 64, .mv (.t 0), none⟩,
  ⟨some 65, .append 1 1 ([.s (.int .u8 0)]) (.t 63) (.t 64), none⟩,
  ⟨some 66, .mv (.t 1), none⟩,
  ⟨some 67, .append 1 1 ([.s (.int .u8 0)]) (.t 65) (.t 66), none⟩,
  ⟨some 11, .mv (.t 67), none⟩]
abbrev r6_15 : List CO := [
  ⟨some 68, .mv (.t 11), none⟩,
  ⟨some 69, .call (.c (.fn (.func 12) [] [])) [.t 68], none⟩,
  ⟨some 12, .alloc (List.replicate 32 (.s (.int .u8 0))), none⟩,
  ⟨none, .store 32 (.t 12) (.t 69), none⟩]
abbrev r6_16 : List CO := [
  ⟨some 70, .load true 32 (.t 12), none⟩,
  ⟨some 71, .mv (.t 8), none⟩,
  ⟨some 72, .call (.c (.fn (.func 12) [] [])) [.t 71], none⟩,
  ⟨some 73, .eqs false (List.replicate 32 0) (.t 70) (.t 72), none⟩,
  ⟨some 74, .mv (.t 73), none⟩,
  ⟨some 75, .load true 32 (.t 12), some (74, true)⟩,
  ⟨some 76, .mv (.t 8), some (74, true)⟩,
  ⟨some 77, .mv (.t 11), some (74, true)⟩,
  ⟨some 78, .append 1 1 ([.s (.int .u8 0)]) (.t 76) (.t 77), some (74, true)⟩,
  ⟨some 79, .call (.c (.fn (.func 12) [] [])) [.t 78], some (74, true)⟩,
  ⟨some 80, .eqs false (List.replicate 32 0) (.t 75) (.t 79), some (74, true)⟩,
  ⟨some 81, .pick (.t 74) (.t 80) (.c (.p (.s (.bool false)))), none⟩,
  ⟨some 82, .mv (.t 81), none⟩,
  ⟨some 83, .load true 32 (.t 12), some (82, true)⟩,
  ⟨some 84, .mv (.t 2), some (82, true)⟩,
  ⟨some 85, .call (.c (.fn (.func 14) [] [])) [.t 83, .t 84], some (82, true)⟩,
  ⟨some 86, .mv (.t 7), some (82, true)⟩,
  ⟨some 87, .beq false (.t 85) (.t 86), some (82, true)⟩,
  ⟨some 88, .pick (.t 82) (.t 87) (.c (.p (.s (.bool false)))), none⟩,
  ⟨some 89, .mv (.t 88), none⟩,
  ⟨some 90, .call (.c (.fn (.func 23) [] [])) [], some (89, true)⟩,
  ⟨some 91, .pick (.t 89) (.t 90) (.c (.p (.s (.bool false)))), none⟩,
  ⟨some 6, .mv (.t 91), none⟩]
abbrev b6_16 : List (List Nat) := [[], [], [1], [0, 2], [3, 2], [4], [4], [4], [6, 7, 4, 4], [8, 8, 4], [5, 9, 4], [4, 10], [11, 9], [12], [12], [13, 14, 12, 12], [12], [15, 16, 12], [12, 17], [18, 15], [19, 19], [19, 20], [21, 20, 0, 1, 2, 3, 4, 5, 6, 7, 8, 9, 10, 11, 12, 13, 14, 15, 16, 17, 18, 19, 20, 21]]
abbrev c6 : CC := .seq (.reg r6_0) (.seq (.reg r6_1) (.rest [0, 1, 2] (.seq (.reg r6_2) (.seq (.reg r6_3) (.seq (.seq (.reg r6_4) (.rest [0, 1, 2, 7, 8, 9] (.block 0 k6_0))) (.rest [0, 1, 2, 7, 8] (.seq (.seq (.reg r6_9) (.rest [0, 1, 2, 7, 8, 10] (.block 2 k6_2))) (.rest [0, 1, 2, 7, 8] (.seq (.reg r6_14) (.rest [2, 7, 8, 11] (.seq (.reg r6_15) (.rest [2, 7, 8, 11, 12] (.seq (.regd r6_16 b6_16) (.rest [6] (.ret)))))))))))))))
theorem F6 : Fun Tryd.prog 6 92 c6 [.tmp 6] 3 := ⟨⟨Tryd.f6, _, Tryd.func6, rfl, by kernel_rfl, Tryd.ntmps6, by kernel_rfl, by kernel_rfl⟩, by decide⟩

/-- linnet/linnetlaw10.MaskKeys -/
abbrev r7_0 : List CO := [
  ⟨some 1, .box (.t 0), none⟩,
  ⟨some 2, .mv (.c (.p (.s (.bool false)))), none⟩]
abbrev r7_1 : List CO := [
  ⟨some 8, .load true 32 (.t 1), none⟩,
  ⟨some 9, .call (.c (.fn (.func 19) [] [])) [.t 8], none⟩,
  ⟨some 3, .mv (.t 9), none⟩]
abbrev r7_2 : List CO := [
  ⟨some 4, .mv (.c (.p (.s (.int .i64 0)))), none⟩]
abbrev r7_3 : List CO := [
  ⟨some 5, .mv (.c (.p (.s (.int .i64 0)))), none⟩]
abbrev r7_4 : List CO := [
  ⟨some 10, .mv (.t 5), none⟩,
  ⟨some 11, .bin .lss (.t 10) (.c (.p (.s (.int .i64 32)))), none⟩]
abbrev r7_6 : List CO := [
  ⟨some 14, .mv (.t 5), none⟩,
  ⟨some 15, .iaddrA 1 32 (.t 1) (.t 14), none⟩,
  ⟨some 16, .load false 1 (.t 15), none⟩,
  ⟨some 17, .toInt .i64 (.t 16), none⟩,
  ⟨some 6, .mv (.t 17), none⟩]
abbrev r7_7 : List CO := [
  ⟨some 18, .mv (.t 6), none⟩,
  ⟨some 19, .bin .gtr (.t 18) (.c (.p (.s (.int .i64 0)))), none⟩]
abbrev r7_9 : List CO := [
  ⟨some 22, .mv (.t 4), none⟩,
  ⟨some 23, .mv (.t 6), none⟩,
  ⟨some 24, .bin .rem (.t 23) (.c (.p (.s (.int .i64 2)))), none⟩,
  ⟨some 25, .bin .add (.t 22) (.t 24), none⟩,
  ⟨some 4, .mv (.t 25), none⟩]
abbrev k7_3 : CC := .reg r7_9
abbrev r7_8 : List CO := [
  ⟨some 20, .mv (.t 6), none⟩,
  ⟨some 21, .bin .quo (.t 20) (.c (.p (.s (.int .i64 2)))), none⟩,
  ⟨some 6, .mv (.t 21), none⟩]
abbrev l7_10 : CC := .seq (.seq (.reg r7_7) (.cond (.t 19) (.skip) (.exit 2))) (.seq (.block 3 k7_3) (.rest [1, 3, 4, 5, 6] (.reg r7_8)))
abbrev k7_2 : CC := .loop l7_10
abbrev k7_1 : CC := .seq (.reg r7_6) (.rest [1, 3, 4, 5, 6] (.block 2 k7_2))
abbrev r7_5 : List CO := [
  ⟨some 12, .mv (.t 5), none⟩,
  ⟨some 13, .bin .add (.t 12) (.c (.p (.s (.int .i64 1)))), none⟩,
  ⟨some 5, .mv (.t 13), none⟩]
abbrev l7_14 : CC := .seq (.seq (.reg r7_4) (.cond (.t 11) (.skip) (.exit 0))) (.seq (.block 1 k7_1) (.rest [1, 3, 4, 5] (.reg r7_5)))
abbrev k7_0 : CC := .loop l7_14
abbrev r7_10 : List CO := [
  ⟨some 7, .mv (.c (.p (.s (.int .i64 0)))), none⟩]
abbrev r7_11 : List CO := [
  ⟨some 26, .mv (.t 7), none⟩,
  ⟨some 27, .mv (.t 3), none⟩,
  ⟨some 28, .len (.t 27), none⟩,
  ⟨some 29, .bin .lss (.t 26) (.t 28), none⟩]
abbrev r7_13 : List CO := [
  ⟨some 32, .load true 32 (.t 1), none⟩,
  ⟨some 33, .mv (.t 3), none⟩,
  ⟨some 34, .mv (.t 7), none⟩,
  ⟨some 35, .iaddrS 1 (.t 33) (.t 34), none⟩,
  ⟨some 36, .load false 1 (.t 35), none⟩,
  ⟨some 37, .call (.c (.fn (.func 14) [] [])) [.t 32, .t 36], none⟩,
  ⟨some 38, .un .not (.t 37), none⟩,
  ⟨some 39, .mv (.t 38), none⟩,
  ⟨some 40, .mv (.t 7), some (39, false)⟩,
  ⟨some 41, .bin .gtr (.t 40) (.c (.p (.s (.int .i64 0)))), some (39, false)⟩,
  ⟨some 42, .mv (.t 41), some (39, false)⟩,
  ⟨some 43, .mv (.t 3), some (42, true)⟩,
  ⟨some 44, .mv (.t 7), some (42, true)⟩,
  ⟨some 45, .bin .sub (.t 44) (.c (.p (.s (.int .i64 1)))), some (42, true)⟩,
  ⟨some 46, .iaddrS 1 (.t 43) (.t 45), some (42, true)⟩,
  ⟨some 47, .load false 1 (.t 46), some (42, true)⟩,
  ⟨some 48, .mv (.t 3), some (42, true)⟩,
  ⟨some 49, .mv (.t 7), some (42, true)⟩,
  ⟨some 50, .iaddrS 1 (.t 48) (.t 49), some (42, true)⟩,
  ⟨some 51, .load false 1 (.t 50), some (42, true)⟩,
  ⟨some 52, .bin .geq (.t 47) (.t 51), some (42, true)⟩,
  ⟨some 53, .pick (.t 42) (.t 52) (.c (.p (.s (.bool false)))), some (39, false)⟩,
  ⟨some 54, .pick (.t 39) (.c (.p (.s (.bool true)))) (.t 53), none⟩]
abbrev b7_13 : List (List Nat) := [[], [], [], [1, 2], [3], [0, 4], [5], [6, 5], [7], [8, 7], [9, 7, 7], [10], [10], [12, 10], [11, 13, 10], [14, 10], [10], [10], [16, 17, 10], [18, 10], [15, 19, 10], [10, 20, 7], [7, 21]]
abbrev r7_14 : List CO := [
  ⟨some 2, .mv (.c (.p (.s (.bool false)))), none⟩]
abbrev k7_5 : CC := .seq (.regd r7_13 b7_13) (.rest [1, 3, 4, 7, 54] (.cond (.t 54) (.seq (.reg r7_14) (.ret)) (.skip)))
abbrev r7_12 : List CO := [
  ⟨some 30, .mv (.t 7), none⟩,
  ⟨some 31, .bin .add (.t 30) (.c (.p (.s (.int .i64 1)))), none⟩,
  ⟨some 7, .mv (.t 31), none⟩]
abbrev l7_23 : CC := .seq (.seq (.reg r7_11) (.rest [1, 3, 4, 7, 29] (.cond (.t 29) (.skip) (.exit 4)))) (.rest [1, 3, 4, 7] (.seq (.block 5 k7_5) (.rest [1, 3, 4, 7] (.reg r7_12))))
abbrev k7_4 : CC := .loop l7_23
abbrev r7_15 : List CO := [
  ⟨some 55, .mv (.t 3), none⟩,
  ⟨some 56, .len (.t 55), none⟩,
  ⟨some 57, .mv (.t 4), none⟩,
  ⟨some 58, .bin .eql (.t 56) (.t 57), none⟩,
  ⟨some 59, .mv (.t 58), none⟩,
  ⟨some 60, .load true 32 (.t 1), some (59, true)⟩,
  ⟨some 61, .call (.c (.fn (.func 21) [] [])) [.t 60], some (59, true)⟩,
  ⟨some 62, .len (.t 61), some (59, true)⟩,
  ⟨some 63, .bin .eql (.t 62) (.c (.p (.s (.int .i64 0)))), some (59, true)⟩,
  ⟨some 64, .mv (.t 4), some (59, true)⟩,
  ⟨some 65, .bin .eql (.t 64) (.c (.p (.s (.int .i64 0)))), some (59, true)⟩,
  ⟨some 66, .beq false (.t 63) (.t 65), some (59, true)⟩,
  ⟨some 67, .pick (.t 59) (.t 66) (.c (.p (.s (.bool false)))), none⟩,
  ⟨some 68, .mv (.t 67), none⟩,
  ⟨some 69, .call (.c (.fn (.func 23) [] [])) [], some (68, true)⟩,
  ⟨some 70, .pick (.t 68) (.t 69) (.c (.p (.s (.bool false)))), none⟩,
  ⟨some 2, .mv (.t 70), none⟩]
abbrev c7 : CC := .seq (.reg r7_0) (.seq (.reg r7_1) (.seq (.reg r7_2) (.seq (.seq (.reg r7_3) (.block 0 k7_0)) (.rest [1, 3, 4] (.seq (.seq (.reg r7_10) (.block 4 k7_4)) (.rest [1, 3, 4] (.seq (.reg r7_15) (.rest [2] (.ret)))))))))
theorem F7 : Fun Tryd.prog 7 71 c7 [.tmp 2] 1 := ⟨⟨Tryd.f7, _, Tryd.func7, rfl, by kernel_rfl, Tryd.ntmps7, by kernel_rfl, by kernel_rfl⟩, by decide⟩

/-- linnet/linnetlaw10.MaskTwo -/
abbrev r8_0 : List CO := [
  ⟨some 4, .mv (.c (.p (.s (.bool false)))), none⟩]
abbrev r8_1 : List CO := [
  ⟨some 9, .mv (.t 0), none⟩,
  ⟨some 10, .call (.c (.fn (.func 9) [] [])) [.t 9], none⟩,
  ⟨some 11, .mv (.t 1), none⟩,
  ⟨some 12, .call (.c (.fn (.func 9) [] [])) [.t 11], none⟩,
  ⟨some 0, .mv (.t 10), none⟩,
  ⟨some 1, .mv (.t 12), none⟩]
abbrev r8_2 : List CO := [
  ⟨some 13, .mv (.t 0), none⟩,
  ⟨some 14, .call (.c (.fn (.func 12) [] [])) [.t 13], none⟩,
  ⟨some 15, .mv (.t 1), none⟩,
  ⟨some 16, .call (.c (.fn (.func 12) [] [])) [.t 15], none⟩,
  ⟨some 5, .alloc (List.replicate 32 (.s (.int .u8 0))), none⟩,
  ⟨some 6, .alloc (List.replicate 32 (.s (.int .u8 0))), none⟩,
  ⟨none, .store 32 (.t 5) (.t 14), none⟩,
  ⟨none, .store 32 (.t 6) (.t 16), none⟩]
abbrev r8_3 : List CO := [
  ⟨some 17, .bslice 1 0 ([.s (.int .u8 0)]) [], none⟩,
  ⟨some 18, .mv (.t 0), none⟩,
  ⟨some 19, .append 1 1 ([.s (.int .u8 0)]) (.t 17) (.t 18), none⟩,
  ⟨some 20, .mv (.t 1), none⟩,
  ⟨some 21, .append 1 1 ([.s (.int .u8 0)]) (.t 19) (.t 20), none⟩,
  ⟨some 22, .call (.c (.fn (.func 12) [] [])) [.t 21], none⟩,
  ⟨some 7, .alloc (List.replicate 32 (.s (.int .u8 0))), none⟩,
  ⟨none, .store 32 (.t 7) (.t 22), none⟩]
abbrev r8_4 : List CO := [
  ⟨some 8, .mv (.c (.p (.s (.int .i64 0)))), none⟩]
abbrev r8_5 : List CO := [
  ⟨some 23, .mv (.t 8), none⟩,
  ⟨some 24, .bin .lss (.t 23) (.c (.p (.s (.int .i64 32)))), none⟩]
abbrev r8_7 : List CO := [
  ⟨some 27, .mv (.t 8), none⟩,
  ⟨some 28, .iaddrA 1 32 (.t 7) (.t 27), none⟩,
  ⟨some 29, .load false 1 (.t 28), none⟩,
  ⟨some 30, .mv (.t 8), none⟩,
  ⟨some 31, .iaddrA 1 32 (.t 5) (.t 30), none⟩,
  ⟨some 32, .load false 1 (.t 31), none⟩,
  ⟨some 33, .mv (.t 8), none⟩,
  ⟨some 34, .iaddrA 1 32 (.t 6) (.t 33), none⟩,
  ⟨some 35, .load false 1 (.t 34), none⟩,
  ⟨some 36, .bin .or (.t 32) (.t 35), none⟩,
  ⟨some 37, .bin .neq (.t 29) (.t 36), none⟩]
abbrev b8_7 : List (List Nat) := [[], [0], [1], [], [3], [4], [], [6], [7], [5, 8], [2, 9]]
abbrev r8_8 : List CO := [
  ⟨some 4, .mv (.c (.p (.s (.bool false)))), none⟩]
abbrev k8_1 : CC := .seq (.regd r8_7 b8_7) (.rest [0, 5, 6, 7, 8, 37] (.cond (.t 37) (.seq (.reg r8_8) (.ret)) (.skip)))
abbrev r8_6 : List CO := [
  ⟨some 25, .mv (.t 8), none⟩,
  ⟨some 26, .bin .add (.t 25) (.c (.p (.s (.int .i64 1)))), none⟩,
  ⟨some 8, .mv (.t 26), none⟩]
abbrev l8_11 : CC := .seq (.seq (.reg r8_5) (.cond (.t 24) (.skip) (.exit 0))) (.seq (.block 1 k8_1) (.rest [0, 5, 6, 7, 8] (.reg r8_6)))
abbrev k8_0 : CC := .loop l8_11
abbrev r8_9 : List CO := [
  ⟨some 38, .bslice 1 0 ([.s (.int .u8 0)]) [], none⟩,
  ⟨some 39, .mv (.t 0), none⟩,
  ⟨some 40, .append 1 1 ([.s (.int .u8 0)]) (.t 38) (.t 39), none⟩,
  ⟨some 41, .mv (.t 0), none⟩,
  ⟨some 42, .append 1 1 ([.s (.int .u8 0)]) (.t 40) (.t 41), none⟩,
  ⟨some 43, .call (.c (.fn (.func 12) [] [])) [.t 42], none⟩,
  ⟨some 44, .load true 32 (.t 5), none⟩,
  ⟨some 45, .eqs false (List.replicate 32 0) (.t 43) (.t 44), none⟩,
  ⟨some 46, .mv (.t 45), none⟩,
  ⟨some 47, .call (.c (.fn (.func 23) [] [])) [], some (46, true)⟩,
  ⟨some 48, .pick (.t 46) (.t 47) (.c (.p (.s (.bool false)))), none⟩,
  ⟨some 4, .mv (.t 48), none⟩]
abbrev b8_9 : List (List Nat) := [[], [], [0, 1], [], [2, 3, 2], [4, 4], [], [5, 6], [7, 5], [8, 8], [8, 9], [10, 9, 0, 1, 2, 3, 4, 5, 6, 7, 8, 9, 10]]
abbrev c8 : CC := .seq (.reg r8_0) (.seq (.reg r8_1) (.rest [0, 1] (.seq (.reg r8_2) (.rest [0, 1, 5, 6] (.seq (.reg r8_3) (.rest [0, 5, 6, 7] (.seq (.seq (.reg r8_4) (.block 0 k8_0)) (.rest [0, 5] (.seq (.regd r8_9 b8_9) (.rest [4] (.ret)))))))))))
theorem F8 : Fun Tryd.prog 8 49 c8 [.tmp 4] 2 := ⟨⟨Tryd.f8, _, Tryd.func8, rfl, by kernel_rfl, Tryd.ntmps8, by kernel_rfl, by kernel_rfl⟩, by decide⟩

/-- linnet/linnetlaw01.Few -/
abbrev r9_0 : List CO := [
  ⟨some 2, .mv (.c (.p (.s (.slice none 0 0)))), none⟩]
abbrev r9_1 : List CO := [
  ⟨some 3, .mv (.t 0), none⟩,
  ⟨some 4, .len (.t 3), none⟩,
  ⟨some 5, .bin .gtr (.t 4) (.c (.p (.s (.int .i64 200)))), none⟩]
abbrev r9_2 : List CO := [
  ⟨some 6, .mv (.t 0), none⟩,
  ⟨some 7, .slice 1 (.t 6) none (some (.c (.p (.s (.int .i64 200))))), none⟩,
  ⟨some 2, .mv (.t 7), none⟩]
abbrev r9_3 : List CO := [
  ⟨some 8, .mv (.t 0), none⟩,
  ⟨some 2, .mv (.t 8), none⟩]
abbrev c9 : CC := .seq (.reg r9_0) (.seq (.seq (.reg r9_1) (.cond (.t 5) (.seq (.reg r9_2) (.ret)) (.skip))) (.rest [0] (.seq (.reg r9_3) (.ret))))
theorem F9 : Fun Tryd.prog 9 9 c9 [.tmp 2] 1 := ⟨⟨Tryd.f9, _, Tryd.func9, rfl, by kernel_rfl, Tryd.ntmps9, by kernel_rfl, by kernel_rfl⟩, by decide⟩

/-- linnet/mask.Get -/
abbrev r10_0 : List CO := [
  ⟨some 2, .alloc (List.replicate 32 (.s (.int .u8 0))), none⟩,
  ⟨some 3, .mv (.c (.p (.s (.int .i64 0)))), none⟩]
abbrev r10_1 : List CO := [
  ⟨some 4, .alloc (List.replicate 32 (.s (.int .u8 0))), none⟩]
abbrev r10_2 : List CO := [
  ⟨some 5, .mv (.t 0), none⟩,
  ⟨some 6, .len (.t 5), none⟩,
  ⟨some 7, .bin .gtr (.t 6) (.c (.p (.s (.int .i64 32)))), none⟩]
abbrev r10_3 : List CO := [
  ⟨some 8, .load true 32 (.t 4), none⟩,
  ⟨none, .store 32 (.t 2) (.t 8), none⟩,
  ⟨some 3, .mv (.c (.p (.s (.int .i64 3)))), none⟩]
abbrev r10_4 : List CO := [
  ⟨some 9, .ext (.mslice 1 32 false false) [.t 4], none⟩,
  ⟨some 10, .mv (.t 0), none⟩,
  ⟨some 11, .ext (.copy 1) [.t 9, .t 10], none⟩]
abbrev r10_5 : List CO := [
  ⟨some 12, .load true 32 (.t 4), none⟩,
  ⟨none, .store 32 (.t 2) (.t 12), none⟩,
  ⟨some 3, .mv (.c (.p (.s (.int .i64 0)))), none⟩]
abbrev c10 : CC := .seq (.reg r10_0) (.seq (.reg r10_1) (.seq (.seq (.reg r10_2) (.cond (.t 7) (.seq (.reg r10_3) (.ret)) (.skip))) (.rest [0, 2, 4] (.seq (.reg r10_4) (.seq (.reg r10_5) (.ret))))))
theorem F10 : Fun Tryd.prog 10 13 c10 [.cell 2 true 32, .tmp 3] 1 := ⟨⟨Tryd.f10, _, Tryd.func10, rfl, by kernel_rfl, Tryd.ntmps10, by kernel_rfl, by kernel_rfl⟩, by decide⟩

/-- linnet/linnetref10.Get -/
abbrev r11_0 : List CO := [
  ⟨some 2, .alloc (List.replicate 32 (.s (.int .u8 0))), none⟩,
  ⟨some 3, .mv (.c (.p (.s (.bool false)))), none⟩]
abbrev r11_1 : List CO := [
  ⟨some 6, .build (List.replicate 32 (.s (.int .u8 0))) [], none⟩,
  ⟨some 4, .alloc (List.replicate 32 (.s (.int .u8 0))), none⟩,
  ⟨none, .store 32 (.t 4) (.t 6), none⟩]
abbrev r11_2 : List CO := [
  ⟨some 7, .mv (.t 0), none⟩,
  ⟨some 8, .len (.t 7), none⟩,
  ⟨some 9, .bin .gtr (.t 8) (.c (.p (.s (.int .i64 32)))), none⟩]
abbrev r11_3 : List CO := [
  ⟨some 10, .load true 32 (.t 4), none⟩,
  ⟨none, .store 32 (.t 2) (.t 10), none⟩,
  ⟨some 3, .mv (.c (.p (.s (.bool false)))), none⟩]
abbrev r11_4 : List CO := [
  ⟨some 5, .mv (.c (.p (.s (.int .i64 0)))), none⟩]
abbrev r11_5 : List CO := [
  ⟨some 11, .mv (.t 5), none⟩,
  ⟨some 12, .mv (.t 0), none⟩,
  ⟨some 13, .len (.t 12), none⟩,
  ⟨some 14, .bin .lss (.t 11) (.t 13), none⟩]
abbrev r11_7 : List CO := [
  ⟨some 17, .mv (.t 5), none⟩,
  ⟨some 18, .mv (.t 0), none⟩,
  ⟨some 19, .mv (.t 5), none⟩,
  ⟨some 20, .iaddrS 1 (.t 18) (.t 19), none⟩,
  ⟨some 21, .load false 1 (.t 20), none⟩,
  ⟨some 22, .iaddrA 1 32 (.t 4) (.t 17), none⟩,
  ⟨none, .store 1 (.t 22) (.t 21), none⟩]
abbrev k11_1 : CC := .reg r11_7
abbrev r11_6 : List CO := [
  ⟨some 15, .mv (.t 5), none⟩,
  ⟨some 16, .bin .add (.t 15) (.c (.p (.s (.int .i64 1)))), none⟩,
  ⟨some 5, .mv (.t 16), none⟩]
abbrev l11_9 : CC := .seq (.seq (.reg r11_5) (.rest [0, 2, 4, 5, 14] (.cond (.t 14) (.skip) (.exit 0)))) (.rest [0, 2, 4, 5] (.seq (.block 1 k11_1) (.rest [0, 2, 4, 5] (.reg r11_6))))
abbrev k11_0 : CC := .loop l11_9
abbrev r11_8 : List CO := [
  ⟨some 23, .load true 32 (.t 4), none⟩,
  ⟨none, .store 32 (.t 2) (.t 23), none⟩,
  ⟨some 3, .mv (.c (.p (.s (.bool true)))), none⟩]
abbrev c11 : CC := .seq (.reg r11_0) (.seq (.reg r11_1) (.seq (.seq (.reg r11_2) (.cond (.t 9) (.seq (.reg r11_3) (.ret)) (.skip))) (.rest [0, 2, 4] (.seq (.seq (.reg r11_4) (.block 0 k11_0)) (.rest [2, 4] (.seq (.reg r11_8) (.ret)))))))
theorem F11 : Fun Tryd.prog 11 24 c11 [.cell 2 true 32, .tmp 3] 1 := ⟨⟨Tryd.f11, _, Tryd.func11, rfl, by kernel_rfl, Tryd.ntmps11, by kernel_rfl, by kernel_rfl⟩, by decide⟩

/-- linnet/mask.Of -/
abbrev r12_0 : List CO := [
  ⟨some 2, .alloc (List.replicate 32 (.s (.int .u8 0))), none⟩]
abbrev r12_1 : List CO := [
  ⟨some 3, .alloc (List.replicate 32 (.s (.int .u8 0))), none⟩]
abbrev r12_2 : List CO := [
  ⟨some 6, .mv (.t 0), none⟩,
  ⟨some 7, .len (.t 6), none⟩,
  ⟨some 8, .mv (.c (.p (.s (.int .i64 0)))), none⟩]
abbrev r12_3 : List CO := [
  ⟨some 9, .bin .lss (.t 8) (.t 7), none⟩]
abbrev r12_4 : List CO := [
  ⟨some 10, .iaddrS 1 (.t 6) (.t 8), none⟩,
  ⟨some 11, .load false 1 (.t 10), none⟩,
  ⟨some 5, .mv (.t 11), none⟩]
abbrev r12_5 : List CO := [
  ⟨some 12, .load true 32 (.t 3), none⟩,
  ⟨some 13, .mv (.t 5), none⟩,
  ⟨some 14, .call (.c (.fn (.func 16) [] [])) [.t 12, .t 13, .c (.p (.s (.bool true)))], none⟩,
  ⟨none, .store 32 (.t 3) (.t 14), none⟩]
abbrev k12_1 : CC := .seq (.reg r12_4) (.reg r12_5)
abbrev r12_6 : List CO := [
  ⟨some 15, .bin .add (.t 8) (.c (.p (.s (.int .i64 1)))), none⟩,
  ⟨some 8, .mv (.t 15), none⟩]
abbrev l12_8 : CC := .seq (.reg r12_3) (.seq (.cond (.t 9) (.skip) (.exit 0)) (.seq (.block 1 k12_1) (.rest [2, 3, 6, 7, 8] (.reg r12_6))))
abbrev k12_0 : CC := .loop l12_8
abbrev r12_7 : List CO := [
  ⟨some 16, .load true 32 (.t 3), none⟩,
  ⟨none, .store 32 (.t 2) (.t 16), none⟩]
abbrev c12 : CC := .seq (.reg r12_0) (.seq (.reg r12_1) (.seq (.seq (.reg r12_2) (.block 0 k12_0)) (.rest [2, 3] (.seq (.reg r12_7) (.ret)))))
theorem F12 : Fun Tryd.prog 12 17 c12 [.cell 2 true 32] 1 := ⟨⟨Tryd.f12, _, Tryd.func12, rfl, by kernel_rfl, Tryd.ntmps12, by kernel_rfl, by kernel_rfl⟩, by decide⟩

/-- linnet/linnetref10.Of -/
abbrev r13_0 : List CO := [
  ⟨some 2, .alloc (List.replicate 32 (.s (.int .u8 0))), none⟩]
abbrev r13_1 : List CO := [
  ⟨some 5, .build (List.replicate 256 (.s (.bool false))) [], none⟩,
  ⟨some 3, .alloc (List.replicate 256 (.s (.bool false))), none⟩,
  ⟨none, .store 256 (.t 3) (.t 5), none⟩]
abbrev r13_2 : List CO := [
  ⟨some 4, .mv (.c (.p (.s (.int .i64 0)))), none⟩]
abbrev r13_3 : List CO := [
  ⟨some 6, .mv (.t 4), none⟩,
  ⟨some 7, .mv (.t 0), none⟩,
  ⟨some 8, .len (.t 7), none⟩,
  ⟨some 9, .bin .lss (.t 6) (.t 8), none⟩]
abbrev r13_5 : List CO := [
  ⟨some 12, .mv (.t 0), none⟩,
  ⟨some 13, .mv (.t 4), none⟩,
  ⟨some 14, .iaddrS 1 (.t 12) (.t 13), none⟩,
  ⟨some 15, .load false 1 (.t 14), none⟩,
  ⟨some 16, .iaddrA 1 256 (.t 3) (.t 15), none⟩,
  ⟨none, .store 1 (.t 16) (.c (.p (.s (.bool true)))), none⟩]
abbrev k13_1 : CC := .reg r13_5
abbrev r13_4 : List CO := [
  ⟨some 10, .mv (.t 4), none⟩,
  ⟨some 11, .bin .add (.t 10) (.c (.p (.s (.int .i64 1)))), none⟩,
  ⟨some 4, .mv (.t 11), none⟩]
abbrev l13_7 : CC := .seq (.seq (.reg r13_3) (.rest [0, 2, 3, 4, 9] (.cond (.t 9) (.skip) (.exit 0)))) (.rest [0, 2, 3, 4] (.seq (.block 1 k13_1) (.rest [0, 2, 3, 4] (.reg r13_4))))
abbrev k13_0 : CC := .loop l13_7
abbrev r13_6 : List CO := [
  ⟨some 17, .load true 256 (.t 3), none⟩,
  ⟨some 18, .call (.c (.fn (.func 24) [] [])) [.t 17], none⟩,
  ⟨none, .store 32 (.t 2) (.t 18), none⟩]
abbrev c13 : CC := .seq (.reg r13_0) (.seq (.reg r13_1) (.seq (.seq (.reg r13_2) (.block 0 k13_0)) (.rest [2, 3] (.seq (.reg r13_6) (.ret)))))
theorem F13 : Fun Tryd.prog 13 19 c13 [.cell 2 true 32] 1 := ⟨⟨Tryd.f13, _, Tryd.func13, rfl, by kernel_rfl, Tryd.ntmps13, by kernel_rfl, by kernel_rfl⟩, by decide⟩

/-- linnet/mask.Has -/
abbrev r14_0 : List CO := [
  ⟨some 2, .box (.t 0), none⟩,
  ⟨some 4, .mv (.c (.p (.s (.bool false)))), none⟩]
abbrev r14_1 : List CO := [
  ⟨some 8, .mv (.t 1), none⟩,
  ⟨some 9, .call (.c (.fn (.func 25) [] [])) [.t 8], none⟩,
  ⟨some 7, .mv (.t 9), none⟩,
  ⟨some 10, .extract 0 (.t 7), none⟩,
  ⟨some 11, .extract 1 (.t 7), none⟩,
  ⟨some 5, .mv (.t 10), none⟩,
  ⟨some 6, .mv (.t 11), none⟩]
abbrev r14_2 : List CO := [
  ⟨some 12, .mv (.t 5), none⟩,
  ⟨some 13, .iaddrA 1 32 (.t 2) (.t 12), none⟩,
  ⟨some 14, .load false 1 (.t 13), none⟩,
  ⟨some 15, .mv (.t 6), none⟩,
  ⟨some 16, .bin .and (.t 14) (.t 15), none⟩,
  ⟨some 17, .bin .neq (.t 16) (.c (.p (.s (.int .u8 0)))), none⟩,
  ⟨some 4, .mv (.t 17), none⟩]
abbrev c14 : CC := .seq (.reg r14_0) (.seq (.reg r14_1) (.rest [2, 5, 6] (.seq (.reg r14_2) (.rest [4] (.ret)))))
theorem F14 : Fun Tryd.prog 14 18 c14 [.tmp 4] 2 := ⟨⟨Tryd.f14, _, Tryd.func14, rfl, by kernel_rfl, Tryd.ntmps14, by kernel_rfl, by kernel_rfl⟩, by decide⟩

/-- linnet/linnetref10.Has -/
abbrev r15_0 : List CO := [
  ⟨some 2, .box (.t 0), none⟩,
  ⟨some 4, .mv (.c (.p (.s (.bool false)))), none⟩]
abbrev r15_1 : List CO := [
  ⟨some 7, .mv (.t 1), none⟩,
  ⟨some 8, .toInt .i64 (.t 7), none⟩,
  ⟨some 9, .bin .quo (.t 8) (.c (.p (.s (.int .i64 8)))), none⟩,
  ⟨some 10, .iaddrA 1 32 (.t 2) (.t 9), none⟩,
  ⟨some 11, .load false 1 (.t 10), none⟩,
  ⟨some 12, .toInt .i64 (.t 11), none⟩,
  ⟨some 5, .mv (.t 12), none⟩]
abbrev r15_2 : List CO := [
  ⟨some 6, .mv (.c (.p (.s (.int .i64 0)))), none⟩]
abbrev r15_3 : List CO := [
  ⟨some 13, .mv (.t 6), none⟩,
  ⟨some 14, .mv (.t 1), none⟩,
  ⟨some 15, .toInt .i64 (.t 14), none⟩,
  ⟨some 16, .bin .rem (.t 15) (.c (.p (.s (.int .i64 8)))), none⟩,
  ⟨some 17, .bin .sub (.c (.p (.s (.int .i64 7)))) (.t 16), none⟩,
  ⟨some 18, .bin .lss (.t 13) (.t 17), none⟩]
abbrev r15_5 : List CO := [
  ⟨some 21, .mv (.t 5), none⟩,
  ⟨some 22, .bin .quo (.t 21) (.c (.p (.s (.int .i64 2)))), none⟩,
  ⟨some 5, .mv (.t 22), none⟩]
abbrev k15_1 : CC := .reg r15_5
abbrev r15_4 : List CO := [
  ⟨some 19, .mv (.t 6), none⟩,
  ⟨some 20, .bin .add (.t 19) (.c (.p (.s (.int .i64 1)))), none⟩,
  ⟨some 6, .mv (.t 20), none⟩]
abbrev l15_7 : CC := .seq (.seq (.reg r15_3) (.rest [1, 5, 6, 18] (.cond (.t 18) (.skip) (.exit 0)))) (.rest [1, 5, 6] (.seq (.block 1 k15_1) (.reg r15_4)))
abbrev k15_0 : CC := .loop l15_7
abbrev r15_6 : List CO := [
  ⟨some 23, .mv (.t 5), none⟩,
  ⟨some 24, .bin .rem (.t 23) (.c (.p (.s (.int .i64 2)))), none⟩,
  ⟨some 25, .bin .eql (.t 24) (.c (.p (.s (.int .i64 1)))), none⟩,
  ⟨some 4, .mv (.t 25), none⟩]
abbrev c15 : CC := .seq (.reg r15_0) (.seq (.reg r15_1) (.rest [1, 5] (.seq (.seq (.reg r15_2) (.block 0 k15_0)) (.rest [5] (.seq (.reg r15_6) (.rest [4] (.ret)))))))
theorem F15 : Fun Tryd.prog 15 26 c15 [.tmp 4] 2 := ⟨⟨Tryd.f15, _, Tryd.func15, rfl, by kernel_rfl, Tryd.ntmps15, by kernel_rfl, by kernel_rfl⟩, by decide⟩

/-- linnet/mask.With -/
abbrev r16_0 : List CO := [
  ⟨some 3, .box (.t 0), none⟩,
  ⟨some 6, .alloc (List.replicate 32 (.s (.int .u8 0))), none⟩]
abbrev r16_1 : List CO := [
  ⟨some 10, .mv (.t 1), none⟩,
  ⟨some 11, .call (.c (.fn (.func 25) [] [])) [.t 10], none⟩,
  ⟨some 9, .mv (.t 11), none⟩,
  ⟨some 12, .extract 0 (.t 9), none⟩,
  ⟨some 13, .extract 1 (.t 9), none⟩,
  ⟨some 7, .mv (.t 12), none⟩,
  ⟨some 8, .mv (.t 13), none⟩]
abbrev r16_2 : List CO := [
  ⟨some 14, .mv (.t 7), none⟩,
  ⟨some 15, .iaddrA 1 32 (.t 3) (.t 14), none⟩,
  ⟨some 16, .load false 1 (.t 15), none⟩,
  ⟨some 17, .mv (.t 8), none⟩,
  ⟨some 18, .bin .andNot (.t 16) (.t 17), none⟩,
  ⟨some 19, .iaddrA 1 32 (.t 3) (.t 14), none⟩,
  ⟨none, .store 1 (.t 19) (.t 18), none⟩]
abbrev r16_3 : List CO := [
  ⟨some 20, .mv (.t 2), none⟩]
abbrev r16_4 : List CO := [
  ⟨some 21, .mv (.t 7), none⟩,
  ⟨some 22, .iaddrA 1 32 (.t 3) (.t 21), none⟩,
  ⟨some 23, .load false 1 (.t 22), none⟩,
  ⟨some 24, .mv (.t 8), none⟩,
  ⟨some 25, .bin .or (.t 23) (.t 24), none⟩,
  ⟨some 26, .iaddrA 1 32 (.t 3) (.t 21), none⟩,
  ⟨none, .store 1 (.t 26) (.t 25), none⟩]
abbrev r16_5 : List CO := [
  ⟨some 27, .load true 32 (.t 3), none⟩,
  ⟨none, .store 32 (.t 6) (.t 27), none⟩]
abbrev c16 : CC := .seq (.reg r16_0) (.seq (.reg r16_1) (.rest [2, 3, 6, 7, 8] (.seq (.reg r16_2) (.rest [2, 3, 6, 7, 8] (.seq (.seq (.reg r16_3) (.cond (.t 20) (.reg r16_4) (.skip))) (.rest [3, 6] (.seq (.reg r16_5) (.ret))))))))
theorem F16 : Fun Tryd.prog 16 28 c16 [.cell 6 true 32] 3 := ⟨⟨Tryd.f16, _, Tryd.func16, rfl, by kernel_rfl, Tryd.ntmps16, by kernel_rfl, by kernel_rfl⟩, by decide⟩

/-- linnet/linnetref10.With -/
abbrev r17_0 : List CO := [
  ⟨some 3, .box (.t 0), none⟩,
  ⟨some 6, .alloc (List.replicate 32 (.s (.int .u8 0))), none⟩]
abbrev r17_1 : List CO := [
  ⟨some 8, .load true 32 (.t 3), none⟩,
  ⟨some 9, .call (.c (.fn (.func 26) [] [])) [.t 8], none⟩,
  ⟨some 7, .alloc (List.replicate 256 (.s (.bool false))), none⟩,
  ⟨none, .store 256 (.t 7) (.t 9), none⟩]
abbrev r17_2 : List CO := [
  ⟨some 10, .mv (.t 1), none⟩,
  ⟨some 11, .mv (.t 2), none⟩,
  ⟨some 12, .iaddrA 1 256 (.t 7) (.t 10), none⟩,
  ⟨none, .store 1 (.t 12) (.t 11), none⟩]
abbrev r17_3 : List CO := [
  ⟨some 13, .load true 256 (.t 7), none⟩,
  ⟨some 14, .call (.c (.fn (.func 24) [] [])) [.t 13], none⟩,
  ⟨none, .store 32 (.t 6) (.t 14), none⟩]
abbrev c17 : CC := .seq (.reg r17_0) (.seq (.reg r17_1) (.rest [1, 2, 6, 7] (.seq (.reg r17_2) (.rest [6, 7] (.seq (.reg r17_3) (.ret))))))
theorem F17 : Fun Tryd.prog 17 15 c17 [.cell 6 true 32] 3 := ⟨⟨Tryd.f17, _, Tryd.func17, rfl, by kernel_rfl, Tryd.ntmps17, by kernel_rfl, by kernel_rfl⟩, by decide⟩

/-- linnet/linnetref01.Octets -/
abbrev r18_0 : List CO := [
  ⟨some 4, .mv (.c (.p (.s (.bool false)))), none⟩]
abbrev r18_1 : List CO := [
  ⟨some 5, .mv (.t 0), none⟩,
  ⟨some 6, .toStr (.t 5), none⟩,
  ⟨some 7, .mv (.t 1), none⟩,
  ⟨some 8, .toStr (.t 7), none⟩,
  ⟨some 9, .bin .eql (.t 6) (.t 8), none⟩,
  ⟨some 4, .mv (.t 9), none⟩]
abbrev c18 : CC := .seq (.reg r18_0) (.seq (.reg r18_1) (.rest [4] (.ret)))
theorem F18 : Fun Tryd.prog 18 10 c18 [.tmp 4] 2 := ⟨⟨Tryd.f18, _, Tryd.func18, rfl, by kernel_rfl, Tryd.ntmps18, by kernel_rfl, by kernel_rfl⟩, by decide⟩

/-- linnet/mask.Keys -/
abbrev r19_0 : List CO := [
  ⟨some 1, .box (.t 0), none⟩,
  ⟨some 2, .mv (.c (.p (.s (.slice none 0 0)))), none⟩]
abbrev r19_1 : List CO := [
  ⟨some 3, .mv (.c (.p (.s (.slice none 0 0)))), none⟩]
abbrev r19_2 : List CO := [
  ⟨some 5, .mv (.c (.p (.s (.int .i64 0)))), none⟩]
abbrev r19_3 : List CO := [
  ⟨some 6, .bin .lss (.t 5) (.c (.p (.s (.int .i64 256)))), none⟩]
abbrev r19_4 : List CO := [
  ⟨some 7, .mv (.t 5), none⟩,
  ⟨some 4, .mv (.t 7), none⟩]
abbrev r19_5 : List CO := [
  ⟨some 8, .load true 32 (.t 1), none⟩,
  ⟨some 9, .mv (.t 4), none⟩,
  ⟨some 10, .toInt .u8 (.t 9), none⟩,
  ⟨some 11, .call (.c (.fn (.func 14) [] [])) [.t 8, .t 10], none⟩]
abbrev r19_6 : List CO := [
  ⟨some 12, .mv (.t 3), none⟩,
  ⟨some 13, .mv (.t 4), none⟩,
  ⟨some 14, .toInt .u8 (.t 13), none⟩,
  ⟨some 15, .bslice 1 1 ([.s (.int .u8 0)]) [(0, .t 14)], none⟩,
  ⟨some 16, .append 1 1 ([.s (.int .u8 0)]) (.t 12) (.t 15), none⟩,
  ⟨some 3, .mv (.t 16), none⟩]
abbrev k19_1 : CC := .seq (.reg r19_4) (.seq (.reg r19_5) (.rest [1, 3, 4, 5, 11] (.cond (.t 11) (.reg r19_6) (.skip))))
abbrev r19_7 : List CO := [
  ⟨some 17, .bin .add (.t 5) (.c (.p (.s (.int .i64 1)))), none⟩,
  ⟨some 5, .mv (.t 17), none⟩]
abbrev l19_9 : CC := .seq (.reg r19_3) (.seq (.cond (.t 6) (.skip) (.exit 0)) (.seq (.block 1 k19_1) (.rest [1, 3, 5] (.reg r19_7))))
abbrev k19_0 : CC := .loop l19_9
abbrev r19_8 : List CO := [
  ⟨some 18, .mv (.t 3), none⟩,
  ⟨some 2, .mv (.t 18), none⟩]
abbrev c19 : CC := .seq (.reg r19_0) (.seq (.reg r19_1) (.seq (.seq (.reg r19_2) (.block 0 k19_0)) (.rest [3] (.seq (.reg r19_8) (.ret)))))
theorem F19 : Fun Tryd.prog 19 19 c19 [.tmp 2] 1 := ⟨⟨Tryd.f19, _, Tryd.func19, rfl, by kernel_rfl, Tryd.ntmps19, by kernel_rfl, by kernel_rfl⟩, by decide⟩

/-- linnet/linnetref10.Keys -/
abbrev r20_0 : List CO := [
  ⟨some 1, .box (.t 0), none⟩,
  ⟨some 2, .mv (.c (.p (.s (.slice none 0 0)))), none⟩]
abbrev r20_1 : List CO := [
  ⟨some 3, .mv (.c (.p (.s (.slice none 0 0)))), none⟩]
abbrev r20_2 : List CO := [
  ⟨some 4, .mv (.c (.p (.s (.int .i64 0)))), none⟩]
abbrev r20_3 : List CO := [
  ⟨some 5, .mv (.t 4), none⟩,
  ⟨some 6, .bin .lss (.t 5) (.c (.p (.s (.int .i64 256)))), none⟩]
abbrev r20_5 : List CO := [
  ⟨some 9, .load true 32 (.t 1), none⟩,
  ⟨some 10, .mv (.t 4), none⟩,
  ⟨some 11, .toInt .u8 (.t 10), none⟩,
  ⟨some 12, .call (.c (.fn (.func 15) [] [])) [.t 9, .t 11], none⟩]
abbrev r20_6 : List CO := [
  ⟨some 13, .mv (.t 3), none⟩,
  ⟨some 14, .mv (.t 4), none⟩,
  ⟨some 15, .toInt .u8 (.t 14), none⟩,
  ⟨some 16, .bslice 1 1 ([.s (.int .u8 0)]) [(0, .t 15)], none⟩,
  ⟨some 17, .append 1 1 ([.s (.int .u8 0)]) (.t 13) (.t 16), none⟩,
  ⟨some 3, .mv (.t 17), none⟩]
abbrev k20_1 : CC := .seq (.reg r20_5) (.rest [1, 3, 4, 12] (.cond (.t 12) (.reg r20_6) (.skip)))
abbrev r20_4 : List CO := [
  ⟨some 7, .mv (.t 4), none⟩,
  ⟨some 8, .bin .add (.t 7) (.c (.p (.s (.int .i64 1)))), none⟩,
  ⟨some 4, .mv (.t 8), none⟩]
abbrev l20_8 : CC := .seq (.seq (.reg r20_3) (.cond (.t 6) (.skip) (.exit 0))) (.seq (.block 1 k20_1) (.rest [1, 3, 4] (.reg r20_4)))
abbrev k20_0 : CC := .loop l20_8
abbrev r20_7 : List CO := [
  ⟨some 18, .mv (.t 3), none⟩,
  ⟨some 2, .mv (.t 18), none⟩]
abbrev c20 : CC := .seq (.reg r20_0) (.seq (.reg r20_1) (.seq (.seq (.reg r20_2) (.block 0 k20_0)) (.rest [3] (.seq (.reg r20_7) (.ret)))))
theorem F20 : Fun Tryd.prog 20 19 c20 [.tmp 2] 1 := ⟨⟨Tryd.f20, _, Tryd.func20, rfl, by kernel_rfl, Tryd.ntmps20, by kernel_rfl, by kernel_rfl⟩, by decide⟩

/-- linnet/mask.Put -/
abbrev r21_0 : List CO := [
  ⟨some 1, .box (.t 0), none⟩,
  ⟨some 2, .mv (.c (.p (.s (.slice none 0 0)))), none⟩]
abbrev r21_1 : List CO := [
  ⟨some 3, .aslice 1 32 (.t 1) none none, none⟩,
  ⟨some 4, .call (.c (.fn (.func 28) [] [])) [.t 3], none⟩,
  ⟨some 5, .call (.c (.fn (.func 27) [] [])) [.t 4, .c (.p (.s (.string { data := #[0] })))], none⟩,
  ⟨some 2, .mv (.t 5), none⟩]
abbrev c21 : CC := .seq (.reg r21_0) (.seq (.reg r21_1) (.rest [2] (.ret)))
theorem F21 : Fun Tryd.prog 21 6 c21 [.tmp 2] 1 := ⟨⟨Tryd.f21, _, Tryd.func21, rfl, by kernel_rfl, Tryd.ntmps21, by kernel_rfl, by kernel_rfl⟩, by decide⟩

/-- linnet/linnetref10.Put -/
abbrev r22_0 : List CO := [
  ⟨some 1, .box (.t 0), none⟩,
  ⟨some 2, .mv (.c (.p (.s (.slice none 0 0)))), none⟩]
abbrev r22_1 : List CO := [
  ⟨some 3, .mv (.c (.p (.s (.int .i64 32)))), none⟩]
abbrev r22_2 : List CO := [
  ⟨some 4, .mv (.t 3), none⟩,
  ⟨some 5, .bin .gtr (.t 4) (.c (.p (.s (.int .i64 0)))), none⟩,
  ⟨some 6, .mv (.t 5), none⟩,
  ⟨some 7, .mv (.t 3), some (6, true)⟩,
  ⟨some 8, .bin .sub (.t 7) (.c (.p (.s (.int .i64 1)))), some (6, true)⟩,
  ⟨some 9, .iaddrA 1 32 (.t 1) (.t 8), some (6, true)⟩,
  ⟨some 10, .load false 1 (.t 9), some (6, true)⟩,
  ⟨some 11, .bin .eql (.t 10) (.c (.p (.s (.int .u8 0)))), some (6, true)⟩,
  ⟨some 12, .pick (.t 6) (.t 11) (.c (.p (.s (.bool false)))), none⟩]
abbrev r22_3 : List CO := [
  ⟨some 13, .mv (.t 3), none⟩,
  ⟨some 14, .bin .sub (.t 13) (.c (.p (.s (.int .i64 1)))), none⟩,
  ⟨some 3, .mv (.t 14), none⟩]
abbrev k22_1 : CC := .reg r22_3
abbrev l22_5 : CC := .seq (.seq (.reg r22_2) (.rest [1, 3, 12] (.cond (.t 12) (.skip) (.exit 0)))) (.rest [1, 3] (.block 1 k22_1))
abbrev k22_0 : CC := .loop l22_5
abbrev r22_4 : List CO := [
  ⟨some 15, .bslice 1 0 ([.s (.int .u8 0)]) [], none⟩,
  ⟨some 16, .mv (.t 3), none⟩,
  ⟨some 17, .aslice 1 32 (.t 1) none (some (.t 16)), none⟩,
  ⟨some 18, .append 1 1 ([.s (.int .u8 0)]) (.t 15) (.t 17), none⟩,
  ⟨some 2, .mv (.t 18), none⟩]
abbrev c22 : CC := .seq (.reg r22_0) (.seq (.reg r22_1) (.seq (.block 0 k22_0) (.rest [1, 3] (.seq (.reg r22_4) (.rest [2] (.ret))))))
theorem F22 : Fun Tryd.prog 22 19 c22 [.tmp 2] 1 := ⟨⟨Tryd.f22, _, Tryd.func22, rfl, by kernel_rfl, Tryd.ntmps22, by kernel_rfl, by kernel_rfl⟩, by decide⟩

/-- linnet/linnetlaw10.awake -/
abbrev r23_0 : List CO := [
  ⟨some 0, .mv (.c (.p (.s (.bool false)))), none⟩]
abbrev r23_1 : List CO := [
  ⟨some 6, .bslice 1 2 ([.s (.int .u8 0)]) [(0, .c (.p (.s (.int .u8 0)))), (1, .c (.p (.s (.int .u8 9))))], none⟩,
  ⟨some 7, .call (.c (.fn (.func 12) [] [])) [.t 6], none⟩,
  ⟨some 1, .alloc (List.replicate 32 (.s (.int .u8 0))), none⟩,
  ⟨none, .store 32 (.t 1) (.t 7), none⟩]
abbrev r23_2 : List CO := [
  ⟨some 9, .bslice 1 2 ([.s (.int .u8 0)]) [(0, .c (.p (.s (.int .u8 0)))), (1, .c (.p (.s (.int .u8 1))))], none⟩,
  ⟨some 10, .call (.c (.fn (.func 10) [] [])) [.t 9], none⟩,
  ⟨some 8, .mv (.t 10), none⟩,
  ⟨some 11, .extract 0 (.t 8), none⟩,
  ⟨some 12, .extract 1 (.t 8), none⟩,
  ⟨some 2, .alloc (List.replicate 32 (.s (.int .u8 0))), none⟩,
  ⟨none, .store 32 (.t 2) (.t 11), none⟩,
  ⟨some 3, .mv (.t 12), none⟩]
abbrev r23_3 : List CO := [
  ⟨some 14, .ext (.mks 1 1 ([.s (.int .u8 0)]) true) [.c (.p (.s (.int .i64 33))), .c (.p (.s (.int .i64 33)))], none⟩,
  ⟨some 15, .call (.c (.fn (.func 10) [] [])) [.t 14], none⟩,
  ⟨some 13, .mv (.t 15), none⟩,
  ⟨some 16, .extract 0 (.t 13), none⟩,
  ⟨some 17, .extract 1 (.t 13), none⟩,
  ⟨some 4, .alloc (List.replicate 32 (.s (.int .u8 0))), none⟩,
  ⟨none, .store 32 (.t 4) (.t 16), none⟩,
  ⟨some 5, .mv (.t 17), none⟩]
abbrev r23_4 : List CO := [
  ⟨some 18, .iaddrA 1 32 (.t 1) (.c (.p (.s (.int .i64 0)))), none⟩,
  ⟨some 19, .load false 1 (.t 18), none⟩,
  ⟨some 20, .bin .eql (.t 19) (.c (.p (.s (.int .u8 128)))), none⟩,
  ⟨some 21, .mv (.t 20), none⟩,
  ⟨some 22, .iaddrA 1 32 (.t 1) (.c (.p (.s (.int .i64 1)))), some (21, true)⟩,
  ⟨some 23, .load false 1 (.t 22), some (21, true)⟩,
  ⟨some 24, .bin .eql (.t 23) (.c (.p (.s (.int .u8 64)))), some (21, true)⟩,
  ⟨some 25, .pick (.t 21) (.t 24) (.c (.p (.s (.bool false)))), none⟩,
  ⟨some 26, .mv (.t 25), none⟩,
  ⟨some 27, .load true 32 (.t 1), some (26, true)⟩,
  ⟨some 28, .call (.c (.fn (.func 21) [] [])) [.t 27], some (26, true)⟩,
  ⟨some 29, .toStr (.t 28), some (26, true)⟩,
  ⟨some 30, .bin .eql (.t 29) (.c (.p (.s (.string { data := #[128, 64] })))), some (26, true)⟩,
  ⟨some 31, .pick (.t 26) (.t 30) (.c (.p (.s (.bool false)))), none⟩,
  ⟨some 32, .mv (.t 31), none⟩,
  ⟨some 33, .load true 32 (.t 2), some (32, true)⟩,
  ⟨some 34, .call (.c (.fn (.func 19) [] [])) [.t 33], some (32, true)⟩,
  ⟨some 35, .toStr (.t 34), some (32, true)⟩,
  ⟨some 36, .bin .eql (.t 35) (.c (.p (.s (.string { data := #[15] })))), some (32, true)⟩,
  ⟨some 37, .pick (.t 32) (.t 36) (.c (.p (.s (.bool false)))), none⟩,
  ⟨some 38, .mv (.t 37), none⟩,
  ⟨some 39, .mv (.t 3), some (38, true)⟩,
  ⟨some 40, .bin .eql (.t 39) (.c (.p (.s (.int .i64 0)))), some (38, true)⟩,
  ⟨some 41, .pick (.t 38) (.t 40) (.c (.p (.s (.bool false)))), none⟩,
  ⟨some 42, .mv (.t 41), none⟩,
  ⟨some 43, .mv (.t 5), some (42, true)⟩,
  ⟨some 44, .bin .eql (.t 43) (.c (.p (.s (.int .i64 3)))), some (42, true)⟩,
  ⟨some 45, .pick (.t 42) (.t 44) (.c (.p (.s (.bool false)))), none⟩,
  ⟨some 0, .mv (.t 45), none⟩]
abbrev c23 : CC := .seq (.reg r23_0) (.seq (.reg r23_1) (.rest [1] (.seq (.reg r23_2) (.rest [1, 2, 3] (.seq (.reg r23_3) (.rest [1, 2, 3, 5] (.seq (.reg r23_4) (.rest [0] (.ret)))))))))
theorem F23 : Fun Tryd.prog 23 46 c23 [.tmp 0] 0 := ⟨⟨Tryd.f23, _, Tryd.func23, rfl, by kernel_rfl, Tryd.ntmps23, by kernel_rfl, by kernel_rfl⟩, by decide⟩

/-- linnet/linnetref10.of -/
abbrev r24_0 : List CO := [
  ⟨some 1, .box (.t 0), none⟩,
  ⟨some 2, .alloc (List.replicate 32 (.s (.int .u8 0))), none⟩]
abbrev r24_1 : List CO := [
  ⟨some 5, .build (List.replicate 32 (.s (.int .u8 0))) [], none⟩,
  ⟨some 3, .alloc (List.replicate 32 (.s (.int .u8 0))), none⟩,
  ⟨none, .store 32 (.t 3) (.t 5), none⟩]
abbrev r24_2 : List CO := [
  ⟨some 4, .mv (.c (.p (.s (.int .i64 0)))), none⟩]
abbrev r24_3 : List CO := [
  ⟨some 6, .mv (.t 4), none⟩,
  ⟨some 7, .bin .lss (.t 6) (.c (.p (.s (.int .i64 256)))), none⟩]
abbrev r24_5 : List CO := [
  ⟨some 10, .mv (.t 4), none⟩,
  ⟨some 11, .bin .quo (.t 10) (.c (.p (.s (.int .i64 8)))), none⟩,
  ⟨some 12, .mv (.t 4), none⟩,
  ⟨some 13, .bin .quo (.t 12) (.c (.p (.s (.int .i64 8)))), none⟩,
  ⟨some 14, .iaddrA 1 32 (.t 3) (.t 13), none⟩,
  ⟨some 15, .load false 1 (.t 14), none⟩,
  ⟨some 16, .bin .mul (.c (.p (.s (.int .u8 2)))) (.t 15), none⟩,
  ⟨some 17, .iaddrA 1 32 (.t 3) (.t 11), none⟩,
  ⟨none, .store 1 (.t 17) (.t 16), none⟩]
abbrev r24_6 : List CO := [
  ⟨some 18, .mv (.t 4), none⟩,
  ⟨some 19, .iaddrA 1 256 (.t 1) (.t 18), none⟩,
  ⟨some 20, .load false 1 (.t 19), none⟩]
abbrev r24_7 : List CO := [
  ⟨some 21, .mv (.t 4), none⟩,
  ⟨some 22, .bin .quo (.t 21) (.c (.p (.s (.int .i64 8)))), none⟩,
  ⟨some 23, .mv (.t 4), none⟩,
  ⟨some 24, .bin .quo (.t 23) (.c (.p (.s (.int .i64 8)))), none⟩,
  ⟨some 25, .iaddrA 1 32 (.t 3) (.t 24), none⟩,
  ⟨some 26, .load false 1 (.t 25), none⟩,
  ⟨some 27, .bin .add (.t 26) (.c (.p (.s (.int .u8 1)))), none⟩,
  ⟨some 28, .iaddrA 1 32 (.t 3) (.t 22), none⟩,
  ⟨none, .store 1 (.t 28) (.t 27), none⟩]
abbrev k24_1 : CC := .seq (.reg r24_5) (.rest [1, 2, 3, 4] (.seq (.reg r24_6) (.cond (.t 20) (.reg r24_7) (.skip))))
abbrev r24_4 : List CO := [
  ⟨some 8, .mv (.t 4), none⟩,
  ⟨some 9, .bin .add (.t 8) (.c (.p (.s (.int .i64 1)))), none⟩,
  ⟨some 4, .mv (.t 9), none⟩]
abbrev l24_9 : CC := .seq (.seq (.reg r24_3) (.cond (.t 7) (.skip) (.exit 0))) (.seq (.block 1 k24_1) (.rest [1, 2, 3, 4] (.reg r24_4)))
abbrev k24_0 : CC := .loop l24_9
abbrev r24_8 : List CO := [
  ⟨some 29, .load true 32 (.t 3), none⟩,
  ⟨none, .store 32 (.t 2) (.t 29), none⟩]
abbrev c24 : CC := .seq (.reg r24_0) (.seq (.reg r24_1) (.seq (.seq (.reg r24_2) (.block 0 k24_0)) (.rest [2, 3] (.seq (.reg r24_8) (.ret)))))
theorem F24 : Fun Tryd.prog 24 30 c24 [.cell 2 true 32] 1 := ⟨⟨Tryd.f24, _, Tryd.func24, rfl, by kernel_rfl, Tryd.ntmps24, by kernel_rfl, by kernel_rfl⟩, by decide⟩

/-- linnet/mask.bit -/
abbrev r25_0 : List CO := [
  ⟨some 2, .mv (.c (.p (.s (.int .i64 0)))), none⟩,
  ⟨some 3, .mv (.c (.p (.s (.int .u8 0)))), none⟩]
abbrev r25_1 : List CO := [
  ⟨some 4, .mv (.t 0), none⟩,
  ⟨some 5, .bin .shr (.t 4) (.c (.p (.s (.int .u64 3)))), none⟩,
  ⟨some 6, .toInt .i64 (.t 5), none⟩,
  ⟨some 7, .mv (.t 0), none⟩,
  ⟨some 8, .bin .and (.t 7) (.c (.p (.s (.int .u8 7)))), none⟩,
  ⟨some 9, .bin .shr (.c (.p (.s (.int .u8 128)))) (.t 8), none⟩,
  ⟨some 2, .mv (.t 6), none⟩,
  ⟨some 3, .mv (.t 9), none⟩]
abbrev c25 : CC := .seq (.reg r25_0) (.seq (.reg r25_1) (.rest [2, 3] (.ret)))
theorem F25 : Fun Tryd.prog 25 10 c25 [.tmp 2, .tmp 3] 1 := ⟨⟨Tryd.f25, _, Tryd.func25, rfl, by kernel_rfl, Tryd.ntmps25, by kernel_rfl, by kernel_rfl⟩, by decide⟩

/-- linnet/linnetref10.row -/
abbrev r26_0 : List CO := [
  ⟨some 1, .box (.t 0), none⟩,
  ⟨some 2, .alloc (List.replicate 256 (.s (.bool false))), none⟩]
abbrev r26_1 : List CO := [
  ⟨some 5, .build (List.replicate 256 (.s (.bool false))) [], none⟩,
  ⟨some 3, .alloc (List.replicate 256 (.s (.bool false))), none⟩,
  ⟨none, .store 256 (.t 3) (.t 5), none⟩]
abbrev r26_2 : List CO := [
  ⟨some 4, .mv (.c (.p (.s (.int .i64 0)))), none⟩]
abbrev r26_3 : List CO := [
  ⟨some 6, .mv (.t 4), none⟩,
  ⟨some 7, .bin .lss (.t 6) (.c (.p (.s (.int .i64 256)))), none⟩]
abbrev r26_5 : List CO := [
  ⟨some 10, .mv (.t 4), none⟩,
  ⟨some 11, .load true 32 (.t 1), none⟩,
  ⟨some 12, .mv (.t 4), none⟩,
  ⟨some 13, .toInt .u8 (.t 12), none⟩,
  ⟨some 14, .call (.c (.fn (.func 15) [] [])) [.t 11, .t 13], none⟩,
  ⟨some 15, .iaddrA 1 256 (.t 3) (.t 10), none⟩,
  ⟨none, .store 1 (.t 15) (.t 14), none⟩]
abbrev k26_1 : CC := .reg r26_5
abbrev r26_4 : List CO := [
  ⟨some 8, .mv (.t 4), none⟩,
  ⟨some 9, .bin .add (.t 8) (.c (.p (.s (.int .i64 1)))), none⟩,
  ⟨some 4, .mv (.t 9), none⟩]
abbrev l26_7 : CC := .seq (.seq (.reg r26_3) (.cond (.t 7) (.skip) (.exit 0))) (.seq (.block 1 k26_1) (.rest [1, 2, 3, 4] (.reg r26_4)))
abbrev k26_0 : CC := .loop l26_7
abbrev r26_6 : List CO := [
  ⟨some 16, .load true 256 (.t 3), none⟩,
  ⟨none, .store 256 (.t 2) (.t 16), none⟩]
abbrev c26 : CC := .seq (.reg r26_0) (.seq (.reg r26_1) (.seq (.seq (.reg r26_2) (.block 0 k26_0)) (.rest [2, 3] (.seq (.reg r26_6) (.ret)))))
theorem F26 : Fun Tryd.prog 26 17 c26 [.cell 2 true 256] 1 := ⟨⟨Tryd.f26, _, Tryd.func26, rfl, by kernel_rfl, Tryd.ntmps26, by kernel_rfl, by kernel_rfl⟩, by decide⟩

/-- bytes.TrimRight -/
abbrev r27_0 : List CO := [
  ⟨some 4, .mv (.c (.p (.s (.slice none 0 0)))), none⟩]
abbrev r27_1 : List CO := [
  ⟨some 7, .mv (.t 0), none⟩,
  ⟨some 8, .len (.t 7), none⟩,
  ⟨some 9, .bin .eql (.t 8) (.c (.p (.s (.int .i64 0)))), none⟩,
  ⟨some 10, .mv (.t 9), none⟩,
  ⟨some 11, .mv (.t 1), some (10, false)⟩,
  ⟨some 12, .bin .eql (.t 11) (.c (.p (.s (.string { data := #[] })))), some (10, false)⟩,
  ⟨some 13, .pick (.t 10) (.c (.p (.s (.bool true)))) (.t 12), none⟩]
abbrev r27_2 : List CO := [
  ⟨some 14, .mv (.t 0), none⟩,
  ⟨some 4, .mv (.t 14), none⟩]
abbrev r27_3 : List CO := [
  ⟨some 15, .mv (.t 1), none⟩,
  ⟨some 16, .slen (.t 15), none⟩,
  ⟨some 17, .bin .eql (.t 16) (.c (.p (.s (.int .i64 1)))), none⟩,
  ⟨some 18, .mv (.t 17), none⟩,
  ⟨some 19, .mv (.t 1), some (18, true)⟩,
  ⟨some 20, .sindex (.t 19) (.c (.p (.s (.int .i64 0)))), some (18, true)⟩,
  ⟨some 21, .bin .lss (.t 20) (.c (.p (.s (.int .u8 128)))), some (18, true)⟩,
  ⟨some 22, .pick (.t 18) (.t 21) (.c (.p (.s (.bool false)))), none⟩]
abbrev r27_4 : List CO := [
  ⟨some 23, .mv (.t 0), none⟩,
  ⟨some 24, .mv (.t 1), none⟩,
  ⟨some 25, .sindex (.t 24) (.c (.p (.s (.int .i64 0)))), none⟩,
  ⟨some 26, .call (.c (.fn (.func 29) [] [])) [.t 23, .t 25], none⟩,
  ⟨some 4, .mv (.t 26), none⟩]
abbrev r27_5 : List CO := [
  ⟨some 28, .mv (.t 1), none⟩,
  ⟨some 29, .call (.c (.fn (.func 30) [] [])) [.t 28], none⟩,
  ⟨some 27, .mv (.t 29), none⟩,
  ⟨some 30, .extract 0 (.t 27), none⟩,
  ⟨some 31, .extract 1 (.t 27), none⟩,
  ⟨some 5, .alloc (List.replicate 256 (.s (.bool false))), none⟩,
  ⟨none, .store 256 (.t 5) (.t 30), none⟩,
  ⟨some 6, .mv (.t 31), none⟩]
abbrev r27_6 : List CO := [
  ⟨some 32, .mv (.t 6), none⟩]
abbrev r27_7 : List CO := [
  ⟨some 33, .mv (.t 0), none⟩,
  ⟨some 34, .call (.c (.fn (.func 31) [] [])) [.t 33, .t 5], none⟩,
  ⟨some 4, .mv (.t 34), none⟩]
abbrev r27_8 : List CO := [
  ⟨some 35, .mv (.t 0), none⟩,
  ⟨some 36, .mv (.t 1), none⟩,
  ⟨some 37, .call (.c (.fn (.func 32) [] [])) [.t 35, .t 36], none⟩,
  ⟨some 4, .mv (.t 37), none⟩]
abbrev c27 : CC := .seq (.reg r27_0) (.seq (.seq (.reg r27_1) (.rest [0, 1, 13] (.cond (.t 13) (.seq (.reg r27_2) (.ret)) (.skip)))) (.rest [0, 1] (.seq (.seq (.reg r27_3) (.rest [0, 1, 22] (.cond (.t 22) (.seq (.reg r27_4) (.rest [4] (.ret))) (.skip)))) (.rest [0, 1] (.seq (.seq (.reg r27_5) (.rest [0, 1, 5, 6] (.seq (.reg r27_6) (.cond (.t 32) (.seq (.reg r27_7) (.ret)) (.skip))))) (.rest [0, 1] (.seq (.reg r27_8) (.rest [4] (.ret)))))))))
theorem F27 : Fun Tryd.prog 27 38 c27 [.tmp 4] 2 := ⟨⟨Tryd.f27, _, Tryd.func27, rfl, by kernel_rfl, Tryd.ntmps27, by kernel_rfl, by kernel_rfl⟩, by decide⟩

/-- bytes.Clone -/
abbrev r28_0 : List CO := [
  ⟨some 2, .mv (.c (.p (.s (.slice none 0 0)))), none⟩]
abbrev r28_1 : List CO := [
  ⟨some 3, .mv (.t 0), none⟩,
  ⟨some 4, .isnil false (.t 3), none⟩]
abbrev r28_2 : List CO := [
  ⟨some 2, .mv (.c (.p (.s (.slice none 0 0)))), none⟩]
abbrev r28_3 : List CO := [
  ⟨some 5, .bslice 1 0 ([.s (.int .u8 0)]) [], none⟩,
  ⟨some 6, .mv (.t 0), none⟩,
  ⟨some 7, .append 1 1 ([.s (.int .u8 0)]) (.t 5) (.t 6), none⟩,
  ⟨some 2, .mv (.t 7), none⟩]
abbrev c28 : CC := .seq (.reg r28_0) (.seq (.seq (.reg r28_1) (.cond (.t 4) (.seq (.reg r28_2) (.ret)) (.skip))) (.seq (.reg r28_3) (.rest [2] (.ret))))
theorem F28 : Fun Tryd.prog 28 8 c28 [.tmp 2] 1 := ⟨⟨Tryd.f28, _, Tryd.func28, rfl, by kernel_rfl, Tryd.ntmps28, by kernel_rfl, by kernel_rfl⟩, by decide⟩

/-- bytes.trimRightByte -/
abbrev r29_0 : List CO := [
  ⟨some 4, .mv (.c (.p (.s (.slice none 0 0)))), none⟩]
abbrev r29_1 : List CO := [
  ⟨some 5, .mv (.t 0), none⟩,
  ⟨some 6, .len (.t 5), none⟩,
  ⟨some 7, .bin .gtr (.t 6) (.c (.p (.s (.int .i64 0)))), none⟩,
  ⟨some 8, .mv (.t 7), none⟩,
  ⟨some 9, .mv (.t 0), some (8, true)⟩,
  ⟨some 10, .mv (.t 0), some (8, true)⟩,
  ⟨some 11, .len (.t 10), some (8, true)⟩,
  ⟨some 12, .bin .sub (.t 11) (.c (.p (.s (.int .i64 1)))), some (8, true)⟩,
  ⟨some 13, .iaddrS 1 (.t 9) (.t 12), some (8, true)⟩,
  ⟨some 14, .load false 1 (.t 13), some (8, true)⟩,
  ⟨some 15, .mv (.t 1), some (8, true)⟩,
  ⟨some 16, .bin .eql (.t 14) (.t 15), some (8, true)⟩,
  ⟨some 17, .pick (.t 8) (.t 16) (.c (.p (.s (.bool false)))), none⟩]
abbrev r29_2 : List CO := [
  ⟨some 18, .mv (.t 0), none⟩,
  ⟨some 19, .mv (.t 0), none⟩,
  ⟨some 20, .len (.t 19), none⟩,
  ⟨some 21, .bin .sub (.t 20) (.c (.p (.s (.int .i64 1)))), none⟩,
  ⟨some 22, .slice 1 (.t 18) none (some (.t 21)), none⟩,
  ⟨some 0, .mv (.t 22), none⟩]
abbrev k29_1 : CC := .reg r29_2
abbrev l29_4 : CC := .seq (.seq (.reg r29_1) (.rest [0, 1, 17] (.cond (.t 17) (.skip) (.exit 0)))) (.rest [0, 1] (.block 1 k29_1))
abbrev k29_0 : CC := .loop l29_4
abbrev r29_3 : List CO := [
  ⟨some 23, .mv (.t 0), none⟩,
  ⟨some 4, .mv (.t 23), none⟩]
abbrev c29 : CC := .seq (.reg r29_0) (.seq (.block 0 k29_0) (.rest [0] (.seq (.reg r29_3) (.ret))))
theorem F29 : Fun Tryd.prog 29 24 c29 [.tmp 4] 2 := ⟨⟨Tryd.f29, _, Tryd.func29, rfl, by kernel_rfl, Tryd.ntmps29, by kernel_rfl, by kernel_rfl⟩, by decide⟩

/-- bytes.makeASCIISet -/
abbrev r30_0 : List CO := [
  ⟨some 2, .alloc (List.replicate 256 (.s (.bool false))), none⟩,
  ⟨some 3, .mv (.c (.p (.s (.bool false)))), none⟩]
abbrev r30_1 : List CO := [
  ⟨some 4, .mv (.c (.p (.s (.int .i64 0)))), none⟩]
abbrev r30_2 : List CO := [
  ⟨some 6, .mv (.t 4), none⟩,
  ⟨some 7, .mv (.t 0), none⟩,
  ⟨some 8, .slen (.t 7), none⟩,
  ⟨some 9, .bin .lss (.t 6) (.t 8), none⟩]
abbrev r30_4 : List CO := [
  ⟨some 12, .mv (.t 0), none⟩,
  ⟨some 13, .mv (.t 4), none⟩,
  ⟨some 14, .sindex (.t 12) (.t 13), none⟩,
  ⟨some 5, .mv (.t 14), none⟩]
abbrev r30_5 : List CO := [
  ⟨some 15, .mv (.t 5), none⟩,
  ⟨some 16, .bin .geq (.t 15) (.c (.p (.s (.int .u8 128)))), none⟩]
abbrev r30_6 : List CO := [
  ⟨some 17, .load true 256 (.t 2), none⟩,
  ⟨none, .store 256 (.t 2) (.t 17), none⟩,
  ⟨some 3, .mv (.c (.p (.s (.bool false)))), none⟩]
abbrev r30_7 : List CO := [
  ⟨some 18, .mv (.t 5), none⟩,
  ⟨some 19, .iaddrA 1 256 (.t 2) (.t 18), none⟩,
  ⟨none, .store 1 (.t 19) (.c (.p (.s (.bool true)))), none⟩]
abbrev k30_1 : CC := .seq (.reg r30_4) (.rest [0, 2, 4, 5] (.seq (.seq (.reg r30_5) (.cond (.t 16) (.seq (.reg r30_6) (.ret)) (.skip))) (.rest [0, 2, 4, 5] (.reg r30_7))))
abbrev r30_3 : List CO := [
  ⟨some 10, .mv (.t 4), none⟩,
  ⟨some 11, .bin .add (.t 10) (.c (.p (.s (.int .i64 1)))), none⟩,
  ⟨some 4, .mv (.t 11), none⟩]
abbrev l30_9 : CC := .seq (.seq (.reg r30_2) (.rest [0, 2, 4, 9] (.cond (.t 9) (.skip) (.exit 0)))) (.rest [0, 2, 4] (.seq (.block 1 k30_1) (.rest [0, 2, 4] (.reg r30_3))))
abbrev k30_0 : CC := .loop l30_9
abbrev r30_8 : List CO := [
  ⟨some 20, .load true 256 (.t 2), none⟩,
  ⟨none, .store 256 (.t 2) (.t 20), none⟩,
  ⟨some 3, .mv (.c (.p (.s (.bool true)))), none⟩]
abbrev c30 : CC := .seq (.reg r30_0) (.seq (.seq (.reg r30_1) (.block 0 k30_0)) (.rest [2] (.seq (.reg r30_8) (.ret))))
theorem F30 : Fun Tryd.prog 30 21 c30 [.cell 2 true 256, .tmp 3] 1 := ⟨⟨Tryd.f30, _, Tryd.func30, rfl, by kernel_rfl, Tryd.ntmps30, by kernel_rfl, by kernel_rfl⟩, by decide⟩

/-- bytes.trimRightASCII -/
abbrev r31_0 : List CO := [
  ⟨some 4, .mv (.c (.p (.s (.slice none 0 0)))), none⟩]
abbrev r31_1 : List CO := [
  ⟨some 5, .mv (.t 0), none⟩,
  ⟨some 6, .len (.t 5), none⟩,
  ⟨some 7, .bin .gtr (.t 6) (.c (.p (.s (.int .i64 0)))), none⟩]
abbrev r31_2 : List CO := [
  ⟨some 8, .mv (.t 1), none⟩,
  ⟨some 9, .mv (.t 0), none⟩,
  ⟨some 10, .mv (.t 0), none⟩,
  ⟨some 11, .len (.t 10), none⟩,
  ⟨some 12, .bin .sub (.t 11) (.c (.p (.s (.int .i64 1)))), none⟩,
  ⟨some 13, .iaddrS 1 (.t 9) (.t 12), none⟩,
  ⟨some 14, .load false 1 (.t 13), none⟩,
  ⟨some 15, .call (.c (.fn (.func 33) [] [])) [.t 8, .t 14], none⟩,
  ⟨some 16, .un .not (.t 15), none⟩]
abbrev r31_3 : List CO := [
  ⟨some 17, .mv (.t 0), none⟩,
  ⟨some 18, .mv (.t 0), none⟩,
  ⟨some 19, .len (.t 18), none⟩,
  ⟨some 20, .bin .sub (.t 19) (.c (.p (.s (.int .i64 1)))), none⟩,
  ⟨some 21, .slice 1 (.t 17) none (some (.t 20)), none⟩,
  ⟨some 0, .mv (.t 21), none⟩]
abbrev k31_1 : CC := .seq (.seq (.reg r31_2) (.rest [0, 1, 16] (.cond (.t 16) (.exit 0) (.skip)))) (.rest [0, 1] (.reg r31_3))
abbrev l31_5 : CC := .seq (.seq (.reg r31_1) (.cond (.t 7) (.skip) (.exit 0))) (.block 1 k31_1)
abbrev k31_0 : CC := .loop l31_5
abbrev r31_4 : List CO := [
  ⟨some 22, .mv (.t 0), none⟩,
  ⟨some 4, .mv (.t 22), none⟩]
abbrev c31 : CC := .seq (.reg r31_0) (.seq (.block 0 k31_0) (.rest [0] (.seq (.reg r31_4) (.ret))))
theorem F31 : Fun Tryd.prog 31 23 c31 [.tmp 4] 2 := ⟨⟨Tryd.f31, _, Tryd.func31, rfl, by kernel_rfl, Tryd.ntmps31, by kernel_rfl, by kernel_rfl⟩, by decide⟩

/-- bytes.trimRightUnicode -/
abbrev r32_0 : List CO := [
  ⟨some 4, .mv (.c (.p (.s (.slice none 0 0)))), none⟩]
abbrev r32_1 : List CO := [
  ⟨some 7, .mv (.t 0), none⟩,
  ⟨some 8, .len (.t 7), none⟩,
  ⟨some 9, .bin .gtr (.t 8) (.c (.p (.s (.int .i64 0)))), none⟩]
abbrev r32_2 : List CO := [
  ⟨some 10, .mv (.t 0), none⟩,
  ⟨some 11, .mv (.t 0), none⟩,
  ⟨some 12, .len (.t 11), none⟩,
  ⟨some 13, .bin .sub (.t 12) (.c (.p (.s (.int .i64 1)))), none⟩,
  ⟨some 14, .iaddrS 1 (.t 10) (.t 13), none⟩,
  ⟨some 15, .load false 1 (.t 14), none⟩,
  ⟨some 16, .toInt .i32 (.t 15), none⟩,
  ⟨some 5, .mv (.t 16), none⟩,
  ⟨some 6, .mv (.c (.p (.s (.int .i64 1)))), none⟩]
abbrev r32_3 : List CO := [
  ⟨some 17, .mv (.t 5), none⟩,
  ⟨some 18, .bin .geq (.t 17) (.c (.p (.s (.int .i32 128)))), none⟩]
abbrev r32_4 : List CO := [
  ⟨some 20, .mv (.t 0), none⟩,
  ⟨some 21, .call (.c (.fn (.func 34) [] [])) [.t 20], none⟩,
  ⟨some 19, .mv (.t 21), none⟩,
  ⟨some 22, .extract 0 (.t 19), none⟩,
  ⟨some 23, .extract 1 (.t 19), none⟩,
  ⟨some 5, .mv (.t 22), none⟩,
  ⟨some 6, .mv (.t 23), none⟩]
abbrev r32_5 : List CO := [
  ⟨some 24, .mv (.t 1), none⟩,
  ⟨some 25, .mv (.t 5), none⟩,
  ⟨some 26, .call (.c (.fn (.func 35) [] [])) [.t 24, .t 25], none⟩,
  ⟨some 27, .un .not (.t 26), none⟩]
abbrev r32_6 : List CO := [
  ⟨some 28, .mv (.t 0), none⟩,
  ⟨some 29, .mv (.t 0), none⟩,
  ⟨some 30, .len (.t 29), none⟩,
  ⟨some 31, .mv (.t 6), none⟩,
  ⟨some 32, .bin .sub (.t 30) (.t 31), none⟩,
  ⟨some 33, .slice 1 (.t 28) none (some (.t 32)), none⟩,
  ⟨some 0, .mv (.t 33), none⟩]
abbrev k32_1 : CC := .seq (.reg r32_2) (.rest [0, 1, 5, 6] (.seq (.seq (.reg r32_3) (.cond (.t 18) (.reg r32_4) (.skip))) (.rest [0, 1, 5, 6] (.seq (.seq (.reg r32_5) (.rest [0, 1, 6, 27] (.cond (.t 27) (.exit 0) (.skip)))) (.rest [0, 1, 6] (.reg r32_6))))))
abbrev l32_8 : CC := .seq (.seq (.reg r32_1) (.cond (.t 9) (.skip) (.exit 0))) (.block 1 k32_1)
abbrev k32_0 : CC := .loop l32_8
abbrev r32_7 : List CO := [
  ⟨some 34, .mv (.t 0), none⟩,
  ⟨some 4, .mv (.t 34), none⟩]
abbrev c32 : CC := .seq (.reg r32_0) (.seq (.block 0 k32_0) (.rest [0] (.seq (.reg r32_7) (.ret))))
theorem F32 : Fun Tryd.prog 32 35 c32 [.tmp 4] 2 := ⟨⟨Tryd.f32, _, Tryd.func32, rfl, by kernel_rfl, Tryd.ntmps32, by kernel_rfl, by kernel_rfl⟩, by decide⟩

end Go.Proofs.YtnbghbbmilfgpaaDoor
