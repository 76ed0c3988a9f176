/- Code of functions of the given program in compact form, printed by a program of this repository (wip/tools/gen.py) out of what Lean prints of the loaded functions; each is checked by the kernel. -/
import Derived.Test.YtlijecknkpcgfaaDoorSdf
import Derived.Test.YtlijecknkpcgfaaDoorSst
import Derived.Test.YtlijecknkpcgfaaDoorProg
import Derived.KernelRfl
namespace Go.Proofs.YtlijecknkpcgfaaDoor
open Go Go.Shade

/-- linnet/linnetlaw22.ScriptTells -/
abbrev r7_0 : List CO := [
  ⟨some 6, .mv (.c (.p (.s (.bool false)))), none⟩]
abbrev r7_1 : List CO := [
  ⟨some 18, .mv (.t 0), none⟩,
  ⟨some 19, .call (.c (.fn (.func 9) [] [])) [.t 18], none⟩,
  ⟨some 20, .mv (.t 1), none⟩,
  ⟨some 21, .call (.c (.fn (.func 9) [] [])) [.t 20], none⟩,
  ⟨some 22, .mv (.t 2), none⟩,
  ⟨some 23, .call (.c (.fn (.func 10) [] [])) [.t 22], none⟩,
  ⟨some 0, .mv (.t 19), none⟩,
  ⟨some 1, .mv (.t 21), none⟩,
  ⟨some 2, .mv (.t 23), none⟩]
abbrev r7_2 : List CO := [
  ⟨some 7, .mv (.c (.p (.s (.int .i64 0)))), none⟩]
abbrev r7_3 : List CO := [
  ⟨some 24, .mv (.t 7), none⟩,
  ⟨some 25, .mv (.t 0), none⟩,
  ⟨some 26, .len (.t 25), none⟩,
  ⟨some 27, .bin .lss (.t 24) (.t 26), none⟩]
abbrev r7_5 : List CO := [
  ⟨some 30, .mv (.t 0), none⟩,
  ⟨some 31, .mv (.t 7), none⟩,
  ⟨some 32, .iaddrS 50 (.t 30) (.t 31), none⟩,
  ⟨some 33, .load true 50 (.t 32), none⟩,
  ⟨some 34, .call (.c (.fn (.func 18) [] [])) [.t 33], none⟩,
  ⟨some 35, .bin .eql (.t 34) (.c (.p (.s (.int .i64 0)))), none⟩,
  ⟨some 36, .mv (.t 0), none⟩,
  ⟨some 37, .mv (.t 7), none⟩,
  ⟨some 38, .iaddrS 50 (.t 36) (.t 37), none⟩,
  ⟨some 39, .load true 50 (.t 38), none⟩,
  ⟨some 40, .call (.c (.fn (.func 19) [] [])) [.t 39], none⟩,
  ⟨some 41, .beq true (.t 35) (.t 40), none⟩]
abbrev b7_5 : List (List Nat) := [[], [], [0, 1], [2], [3], [4], [], [], [6, 7], [8], [9, 4], [5, 10]]
abbrev r7_6 : List CO := [
  ⟨some 6, .mv (.c (.p (.s (.bool false)))), none⟩]
abbrev k7_1 : CC := .seq (.regd r7_5 b7_5) (.rest [0, 1, 2, 7, 41] (.cond (.t 41) (.seq (.reg r7_6) (.ret)) (.skip)))
abbrev r7_4 : List CO := [
  ⟨some 28, .mv (.t 7), none⟩,
  ⟨some 29, .bin .add (.t 28) (.c (.p (.s (.int .i64 1)))), none⟩,
  ⟨some 7, .mv (.t 29), none⟩]
abbrev l7_9 : CC := .seq (.seq (.reg r7_3) (.rest [0, 1, 2, 7, 27] (.cond (.t 27) (.skip) (.exit 0)))) (.rest [0, 1, 2, 7] (.seq (.block 1 k7_1) (.rest [0, 1, 2, 7] (.reg r7_4))))
abbrev k7_0 : CC := .loop l7_9
abbrev r7_7 : List CO := [
  ⟨some 43, .mv (.t 0), none⟩,
  ⟨some 44, .call (.c (.fn (.func 11) [] [])) [.t 43], none⟩,
  ⟨some 42, .mv (.t 44), none⟩,
  ⟨some 45, .extract 0 (.t 42), none⟩,
  ⟨some 46, .extract 1 (.t 42), none⟩,
  ⟨some 8, .mv (.t 45), none⟩,
  ⟨some 9, .mv (.t 46), none⟩]
abbrev r7_8 : List CO := [
  ⟨some 48, .mv (.t 0), none⟩,
  ⟨some 49, .call (.c (.fn (.func 20) [] [])) [.t 48], none⟩,
  ⟨some 47, .mv (.t 49), none⟩,
  ⟨some 50, .extract 0 (.t 47), none⟩,
  ⟨some 51, .extract 1 (.t 47), none⟩,
  ⟨some 10, .mv (.t 50), none⟩,
  ⟨some 11, .mv (.t 51), none⟩]
abbrev r7_9 : List CO := [
  ⟨some 53, .mv (.t 2), none⟩,
  ⟨some 54, .call (.c (.fn (.func 13) [] [])) [.t 53], none⟩,
  ⟨some 52, .mv (.t 54), none⟩,
  ⟨some 55, .extract 0 (.t 52), none⟩,
  ⟨some 56, .extract 1 (.t 52), none⟩,
  ⟨some 57, .extract 2 (.t 52), none⟩,
  ⟨some 12, .mv (.t 55), none⟩,
  ⟨some 13, .mv (.t 56), none⟩,
  ⟨some 14, .mv (.t 57), none⟩]
abbrev r7_10 : List CO := [
  ⟨some 59, .mv (.t 2), none⟩,
  ⟨some 60, .call (.c (.fn (.func 21) [] [])) [.t 59], none⟩,
  ⟨some 58, .mv (.t 60), none⟩,
  ⟨some 61, .extract 0 (.t 58), none⟩,
  ⟨some 62, .extract 1 (.t 58), none⟩,
  ⟨some 63, .extract 2 (.t 58), none⟩,
  ⟨some 15, .mv (.t 61), none⟩,
  ⟨some 16, .mv (.t 62), none⟩,
  ⟨some 17, .mv (.t 63), none⟩]
abbrev r7_11 : List CO := [
  ⟨some 64, .mv (.t 0), none⟩,
  ⟨some 65, .mv (.t 1), none⟩,
  ⟨some 66, .call (.c (.fn (.func 14) [] [])) [.t 64, .t 65], none⟩,
  ⟨some 67, .mv (.t 0), none⟩,
  ⟨some 68, .mv (.t 1), none⟩,
  ⟨some 69, .call (.c (.fn (.func 22) [] [])) [.t 67, .t 68], none⟩,
  ⟨some 70, .beq true (.t 66) (.t 69), none⟩,
  ⟨some 71, .mv (.t 70), none⟩,
  ⟨some 72, .mv (.t 8), some (71, false)⟩,
  ⟨some 73, .mv (.t 10), some (71, false)⟩,
  ⟨some 74, .call (.c (.fn (.func 15) [] [])) [.t 72, .t 73], some (71, false)⟩,
  ⟨some 75, .un .not (.t 74), some (71, false)⟩,
  ⟨some 76, .pick (.t 71) (.c (.p (.s (.bool true)))) (.t 75), none⟩,
  ⟨some 77, .mv (.t 76), none⟩,
  ⟨some 78, .mv (.t 9), some (77, false)⟩,
  ⟨some 79, .mv (.t 11), some (77, false)⟩,
  ⟨some 80, .bin .neq (.t 78) (.t 79), some (77, false)⟩,
  ⟨some 81, .pick (.t 77) (.c (.p (.s (.bool true)))) (.t 80), none⟩]
abbrev r7_12 : List CO := [
  ⟨some 6, .mv (.c (.p (.s (.bool false)))), none⟩]
abbrev r7_13 : List CO := [
  ⟨some 82, .mv (.t 12), none⟩,
  ⟨some 83, .mv (.t 15), none⟩,
  ⟨some 84, .call (.c (.fn (.func 22) [] [])) [.t 82, .t 83], none⟩,
  ⟨some 85, .mv (.t 84), none⟩,
  ⟨some 86, .mv (.t 13), some (85, true)⟩,
  ⟨some 87, .mv (.t 16), some (85, true)⟩,
  ⟨some 88, .bin .eql (.t 86) (.t 87), some (85, true)⟩,
  ⟨some 89, .pick (.t 85) (.t 88) (.c (.p (.s (.bool false)))), none⟩,
  ⟨some 90, .mv (.t 89), none⟩,
  ⟨some 91, .mv (.t 14), some (90, true)⟩,
  ⟨some 92, .bin .eql (.t 91) (.c (.p (.s (.int .i64 0)))), some (90, true)⟩,
  ⟨some 93, .mv (.t 17), some (90, true)⟩,
  ⟨some 94, .beq false (.t 92) (.t 93), some (90, true)⟩,
  ⟨some 95, .pick (.t 90) (.t 94) (.c (.p (.s (.bool false)))), none⟩,
  ⟨some 96, .mv (.t 95), none⟩,
  ⟨some 97, .mv (.t 17), some (96, true)⟩,
  ⟨some 98, .mv (.t 97), some (96, true)⟩,
  ⟨some 99, .mv (.t 14), some (98, false)⟩,
  ⟨some 100, .bin .eql (.t 99) (.c (.p (.s (.int .i64 2)))), some (98, false)⟩,
  ⟨some 101, .pick (.t 98) (.c (.p (.s (.bool true)))) (.t 100), some (96, true)⟩,
  ⟨some 102, .pick (.t 96) (.t 101) (.c (.p (.s (.bool false)))), none⟩,
  ⟨some 103, .mv (.t 102), none⟩,
  ⟨some 104, .call (.c (.fn (.func 12) [] [])) [], some (103, true)⟩,
  ⟨some 105, .pick (.t 103) (.t 104) (.c (.p (.s (.bool false)))), none⟩,
  ⟨some 6, .mv (.t 105), none⟩]
abbrev c7 : CC := .seq (.reg r7_0) (.seq (.reg r7_1) (.rest [0, 1, 2] (.seq (.seq (.reg r7_2) (.block 0 k7_0)) (.rest [0, 1, 2] (.seq (.reg r7_7) (.rest [0, 1, 2, 8, 9] (.seq (.reg r7_8) (.rest [0, 1, 2, 8, 9, 10, 11] (.seq (.reg r7_9) (.rest [0, 1, 2, 8, 9, 10, 11, 12, 13, 14] (.seq (.reg r7_10) (.rest [0, 1, 8, 9, 10, 11, 12, 13, 14, 15, 16, 17] (.seq (.seq (.reg r7_11) (.rest [12, 13, 14, 15, 16, 17, 81] (.cond (.t 81) (.seq (.reg r7_12) (.ret)) (.skip)))) (.rest [12, 13, 14, 15, 16, 17] (.seq (.reg r7_13) (.rest [6] (.ret)))))))))))))))))
theorem F7 : Fun Tryd.prog 7 106 c7 [.tmp 6] 3 := ⟨⟨Tryd.f7, _, Tryd.func7, rfl, by kernel_rfl, Tryd.ntmps7, by kernel_rfl, by kernel_rfl⟩, by decide⟩

/-- linnet/linnetlaw22.Row -/
abbrev r9_0 : List CO := [
  ⟨some 2, .mv (.c (.p (.s (.slice none 0 0)))), none⟩]
abbrev r9_1 : List CO := [
  ⟨some 3, .mv (.c (.p (.s (.slice none 0 0)))), none⟩]
abbrev r9_2 : List CO := [
  ⟨some 4, .mv (.c (.p (.s (.int .i64 0)))), none⟩]
abbrev r9_3 : List CO := [
  ⟨some 6, .mv (.t 4), none⟩,
  ⟨some 7, .mv (.t 0), none⟩,
  ⟨some 8, .len (.t 7), none⟩,
  ⟨some 9, .bin .lss (.t 6) (.t 8), none⟩,
  ⟨some 10, .mv (.t 9), none⟩,
  ⟨some 11, .mv (.t 4), some (10, true)⟩,
  ⟨some 12, .bin .lss (.t 11) (.c (.p (.s (.int .i64 60)))), some (10, true)⟩,
  ⟨some 13, .pick (.t 10) (.t 12) (.c (.p (.s (.bool false)))), none⟩]
abbrev r9_5 : List CO := [
  ⟨some 16, .mv (.t 0), none⟩,
  ⟨some 17, .mv (.t 4), none⟩,
  ⟨some 18, .iaddrS 50 (.t 16) (.t 17), none⟩,
  ⟨some 19, .load true 50 (.t 18), none⟩,
  ⟨some 5, .alloc (tz50), none⟩,
  ⟨none, .store 50 (.t 5) (.t 19), none⟩]
abbrev r9_6 : List CO := [
  ⟨some 20, .faddr 44 (.t 5), none⟩,
  ⟨some 21, .load false 1 (.t 20), none⟩,
  ⟨some 22, .len (.t 21), none⟩,
  ⟨some 23, .bin .gtr (.t 22) (.c (.p (.s (.int .i64 300)))), none⟩]
abbrev r9_7 : List CO := [
  ⟨some 24, .faddr 44 (.t 5), none⟩,
  ⟨some 25, .load false 1 (.t 24), none⟩,
  ⟨some 26, .slice 1 (.t 25) none (some (.c (.p (.s (.int .i64 300))))), none⟩,
  ⟨some 27, .faddr 44 (.t 5), none⟩,
  ⟨none, .store 1 (.t 27) (.t 26), none⟩]
abbrev r9_8 : List CO := [
  ⟨some 28, .mv (.t 3), none⟩,
  ⟨some 29, .load true 50 (.t 5), none⟩,
  ⟨some 30, .bslice 50 1 (tz50) [(0, .t 29)], none⟩,
  ⟨some 31, .append 50 152 (tz50) (.t 28) (.t 30), none⟩,
  ⟨some 3, .mv (.t 31), none⟩]
abbrev k9_1 : CC := .seq (.reg r9_5) (.rest [0, 3, 4, 5] (.seq (.seq (.reg r9_6) (.rest [0, 3, 4, 5, 23] (.cond (.t 23) (.reg r9_7) (.skip)))) (.rest [0, 3, 4, 5] (.reg r9_8))))
abbrev r9_4 : List CO := [
  ⟨some 14, .mv (.t 4), none⟩,
  ⟨some 15, .bin .add (.t 14) (.c (.p (.s (.int .i64 1)))), none⟩,
  ⟨some 4, .mv (.t 15), none⟩]
abbrev l9_10 : CC := .seq (.seq (.reg r9_3) (.rest [0, 3, 4, 13] (.cond (.t 13) (.skip) (.exit 0)))) (.rest [0, 3, 4] (.seq (.block 1 k9_1) (.rest [0, 3, 4] (.reg r9_4))))
abbrev k9_0 : CC := .loop l9_10
abbrev r9_9 : List CO := [
  ⟨some 32, .mv (.t 3), none⟩,
  ⟨some 2, .mv (.t 32), none⟩]
abbrev c9 : CC := .seq (.reg r9_0) (.seq (.reg r9_1) (.seq (.seq (.reg r9_2) (.block 0 k9_0)) (.rest [3] (.seq (.reg r9_9) (.ret)))))
theorem F9 : Fun Tryd.prog 9 33 c9 [.tmp 2] 1 := ⟨⟨Tryd.f9, _, Tryd.func9, rfl, by kernel_rfl, Tryd.ntmps9, by kernel_rfl, by kernel_rfl⟩, by decide⟩

/-- linnet/linnetlaw22.few -/
abbrev r10_0 : List CO := [
  ⟨some 2, .mv (.c (.p (.s (.slice none 0 0)))), none⟩]
abbrev r10_1 : List CO := [
  ⟨some 3, .mv (.t 0), none⟩,
  ⟨some 4, .len (.t 3), none⟩,
  ⟨some 5, .bin .gtr (.t 4) (.c (.p (.s (.int .i64 900)))), none⟩]
abbrev r10_2 : List CO := [
  ⟨some 6, .mv (.t 0), none⟩,
  ⟨some 7, .slice 1 (.t 6) none (some (.c (.p (.s (.int .i64 900))))), none⟩,
  ⟨some 2, .mv (.t 7), none⟩]
abbrev r10_3 : List CO := [
  ⟨some 8, .mv (.t 0), none⟩,
  ⟨some 2, .mv (.t 8), none⟩]
abbrev c10 : CC := .seq (.reg r10_0) (.seq (.seq (.reg r10_1) (.cond (.t 5) (.seq (.reg r10_2) (.ret)) (.skip))) (.rest [0] (.seq (.reg r10_3) (.ret))))
theorem F10 : Fun Tryd.prog 10 9 c10 [.tmp 2] 1 := ⟨⟨Tryd.f10, _, Tryd.func10, rfl, by kernel_rfl, Tryd.ntmps10, by kernel_rfl, by kernel_rfl⟩, by decide⟩

/-- linnet/script.Put -/
abbrev r11_0 : List CO := [
  ⟨some 2, .mv (.c (.p (.s (.slice none 0 0)))), none⟩,
  ⟨some 3, .mv (.c (.p (.s (.int .i64 0)))), none⟩]
abbrev r11_1 : List CO := [
  ⟨some 10, .call (.c (.fn (.func 23) [] [])) [], none⟩,
  ⟨some 4, .alloc (List.replicate 16 (.s (.nilFunc))), none⟩,
  ⟨none, .store 16 (.t 4) (.t 10), none⟩]
abbrev r11_2 : List CO := [
  ⟨some 5, .mv (.c (.p (.s (.slice none 0 0)))), none⟩]
abbrev r11_3 : List CO := [
  ⟨some 11, .mv (.t 0), none⟩,
  ⟨some 12, .len (.t 11), none⟩,
  ⟨some 13, .mv (.c (.p (.s (.int .i64 0)))), none⟩]
abbrev r11_4 : List CO := [
  ⟨some 14, .bin .lss (.t 13) (.t 12), none⟩]
abbrev r11_5 : List CO := [
  ⟨some 15, .iaddrS 50 (.t 11) (.t 13), none⟩,
  ⟨some 16, .load true 50 (.t 15), none⟩,
  ⟨some 7, .alloc (tz50), none⟩,
  ⟨none, .store 50 (.t 7) (.t 16), none⟩]
abbrev r11_6 : List CO := [
  ⟨some 18, .load true 16 (.t 4), none⟩,
  ⟨some 19, .load true 50 (.t 7), none⟩,
  ⟨some 20, .call (.c (.fn (.func 24) [] [])) [.t 18, .t 19], none⟩,
  ⟨some 17, .mv (.t 20), none⟩,
  ⟨some 21, .extract 0 (.t 17), none⟩,
  ⟨some 22, .extract 1 (.t 17), none⟩,
  ⟨some 8, .mv (.t 21), none⟩,
  ⟨some 9, .mv (.t 22), none⟩]
abbrev r11_7 : List CO := [
  ⟨some 23, .mv (.t 9), none⟩,
  ⟨some 24, .un .not (.t 23), none⟩]
abbrev r11_8 : List CO := [
  ⟨some 2, .mv (.c (.p (.s (.slice none 0 0)))), none⟩,
  ⟨some 3, .mv (.c (.p (.s (.int .i64 1)))), none⟩]
abbrev r11_9 : List CO := [
  ⟨some 25, .mv (.t 5), none⟩,
  ⟨some 26, .mv (.t 8), none⟩,
  ⟨some 27, .append 1 1 ([.s (.int .u8 0)]) (.t 25) (.t 26), none⟩,
  ⟨some 5, .mv (.t 27), none⟩]
abbrev k11_1 : CC := .seq (.reg r11_5) (.rest [0, 4, 5, 7, 11, 12, 13] (.seq (.reg r11_6) (.rest [0, 4, 5, 8, 9, 11, 12, 13] (.seq (.seq (.reg r11_7) (.cond (.t 24) (.seq (.reg r11_8) (.ret)) (.skip))) (.rest [0, 4, 5, 8, 11, 12, 13] (.reg r11_9))))))
abbrev r11_10 : List CO := [
  ⟨some 28, .bin .add (.t 13) (.c (.p (.s (.int .i64 1)))), none⟩,
  ⟨some 13, .mv (.t 28), none⟩]
abbrev l11_12 : CC := .seq (.reg r11_4) (.seq (.cond (.t 14) (.skip) (.exit 0)) (.seq (.block 1 k11_1) (.rest [0, 4, 5, 11, 12, 13] (.reg r11_10))))
abbrev k11_0 : CC := .loop l11_12
abbrev r11_11 : List CO := [
  ⟨some 29, .mv (.t 0), none⟩,
  ⟨some 30, .len (.t 29), none⟩,
  ⟨some 31, .bin .gtr (.t 30) (.c (.p (.s (.int .i64 4096)))), none⟩]
abbrev r11_12 : List CO := [
  ⟨some 2, .mv (.c (.p (.s (.slice none 0 0)))), none⟩,
  ⟨some 3, .mv (.c (.p (.s (.int .i64 3)))), none⟩]
abbrev r11_13 : List CO := [
  ⟨some 32, .mv (.t 5), none⟩,
  ⟨some 2, .mv (.t 32), none⟩,
  ⟨some 3, .mv (.c (.p (.s (.int .i64 0)))), none⟩]
abbrev c11 : CC := .seq (.reg r11_0) (.seq (.reg r11_1) (.seq (.reg r11_2) (.seq (.seq (.reg r11_3) (.block 0 k11_0)) (.rest [0, 5] (.seq (.seq (.reg r11_11) (.cond (.t 31) (.seq (.reg r11_12) (.ret)) (.skip))) (.rest [5] (.seq (.reg r11_13) (.ret))))))))
theorem F11 : Fun Tryd.prog 11 33 c11 [.tmp 2, .tmp 3] 1 := ⟨⟨Tryd.f11, _, Tryd.func11, rfl, by kernel_rfl, Tryd.ntmps11, by kernel_rfl, by kernel_rfl⟩, by decide⟩

/-- linnet/linnetlaw22.awake -/
abbrev r12_0 : List CO := [
  ⟨some 0, .mv (.c (.p (.s (.bool false)))), none⟩]
abbrev r12_1 : List CO := [
  ⟨some 10, .build (tz50) [(3, 1, .c (.p (.s (.int .u8 97))))], none⟩,
  ⟨some 11, .build (tz50) [(0, 1, .c (.p (.s (.int .i64 1)))), (1, 1, .c (.p (.s (.int .i64 2)))), (2, 1, .c (.p (.s (.int .i64 9))))], none⟩,
  ⟨some 12, .bslice 50 2 (tz50) [(0, .t 10), (1, .t 11)], none⟩,
  ⟨some 13, .call (.c (.fn (.func 11) [] [])) [.t 12], none⟩,
  ⟨some 9, .mv (.t 13), none⟩,
  ⟨some 14, .extract 0 (.t 9), none⟩,
  ⟨some 15, .extract 1 (.t 9), none⟩,
  ⟨some 1, .mv (.t 14), none⟩,
  ⟨some 2, .mv (.t 15), none⟩]
abbrev r12_2 : List CO := [
  ⟨some 17, .bslice 1 3 ([.s (.int .u8 0)]) [(0, .c (.p (.s (.int .u8 0)))), (1, .c (.p (.s (.int .u8 97)))), (2, .c (.p (.s (.int .u8 8))))], none⟩,
  ⟨some 18, .call (.c (.fn (.func 13) [] [])) [.t 17], none⟩,
  ⟨some 16, .mv (.t 18), none⟩,
  ⟨some 19, .extract 0 (.t 16), none⟩,
  ⟨some 20, .extract 1 (.t 16), none⟩,
  ⟨some 21, .extract 2 (.t 16), none⟩,
  ⟨some 3, .mv (.t 19), none⟩,
  ⟨some 4, .mv (.t 20), none⟩,
  ⟨some 5, .mv (.t 21), none⟩]
abbrev r12_3 : List CO := [
  ⟨some 23, .bslice 1 3 ([.s (.int .u8 0)]) [(0, .c (.p (.s (.int .u8 2)))), (1, .c (.p (.s (.int .u8 5)))), (2, .c (.p (.s (.int .u8 3))))], none⟩,
  ⟨some 24, .call (.c (.fn (.func 13) [] [])) [.t 23], none⟩,
  ⟨some 22, .mv (.t 24), none⟩,
  ⟨some 25, .extract 0 (.t 22), none⟩,
  ⟨some 26, .extract 1 (.t 22), none⟩,
  ⟨some 27, .extract 2 (.t 22), none⟩,
  ⟨some 6, .mv (.t 25), none⟩,
  ⟨some 7, .mv (.t 26), none⟩,
  ⟨some 8, .mv (.t 27), none⟩]
abbrev r12_4 : List CO := [
  ⟨some 28, .mv (.t 2), none⟩,
  ⟨some 29, .bin .eql (.t 28) (.c (.p (.s (.int .i64 0)))), none⟩,
  ⟨some 30, .mv (.t 29), none⟩,
  ⟨some 31, .mv (.t 5), some (30, true)⟩,
  ⟨some 32, .bin .eql (.t 31) (.c (.p (.s (.int .i64 2)))), some (30, true)⟩,
  ⟨some 33, .pick (.t 30) (.t 32) (.c (.p (.s (.bool false)))), none⟩,
  ⟨some 34, .mv (.t 33), none⟩,
  ⟨some 35, .mv (.t 8), some (34, true)⟩,
  ⟨some 36, .bin .eql (.t 35) (.c (.p (.s (.int .i64 0)))), some (34, true)⟩,
  ⟨some 37, .pick (.t 34) (.t 36) (.c (.p (.s (.bool false)))), none⟩,
  ⟨some 38, .mv (.t 37), none⟩,
  ⟨some 39, .mv (.t 1), some (38, true)⟩,
  ⟨some 40, .toStr (.t 39), some (38, true)⟩,
  ⟨some 41, .bin .eql (.t 40) (.c (.p (.s (.string { data := #[0, 97, 1, 2, 9] })))), some (38, true)⟩,
  ⟨some 42, .pick (.t 38) (.t 41) (.c (.p (.s (.bool false)))), none⟩,
  ⟨some 43, .mv (.t 42), none⟩,
  ⟨some 44, .mv (.t 4), some (43, true)⟩,
  ⟨some 45, .bin .eql (.t 44) (.c (.p (.s (.int .i64 2)))), some (43, true)⟩,
  ⟨some 46, .pick (.t 43) (.t 45) (.c (.p (.s (.bool false)))), none⟩,
  ⟨some 47, .mv (.t 46), none⟩,
  ⟨some 48, .mv (.t 3), some (47, true)⟩,
  ⟨some 49, .len (.t 48), some (47, true)⟩,
  ⟨some 50, .bin .eql (.t 49) (.c (.p (.s (.int .i64 1)))), some (47, true)⟩,
  ⟨some 51, .pick (.t 47) (.t 50) (.c (.p (.s (.bool false)))), none⟩,
  ⟨some 52, .mv (.t 51), none⟩,
  ⟨some 53, .mv (.t 3), some (52, true)⟩,
  ⟨some 54, .iaddrS 50 (.t 53) (.c (.p (.s (.int .i64 0)))), some (52, true)⟩,
  ⟨some 55, .faddr 3 (.t 54), some (52, true)⟩,
  ⟨some 56, .load false 1 (.t 55), some (52, true)⟩,
  ⟨some 57, .bin .eql (.t 56) (.c (.p (.s (.int .u8 97)))), some (52, true)⟩,
  ⟨some 58, .pick (.t 52) (.t 57) (.c (.p (.s (.bool false)))), none⟩,
  ⟨some 59, .mv (.t 58), none⟩,
  ⟨some 60, .mv (.t 7), some (59, true)⟩,
  ⟨some 61, .bin .eql (.t 60) (.c (.p (.s (.int .i64 3)))), some (59, true)⟩,
  ⟨some 62, .pick (.t 59) (.t 61) (.c (.p (.s (.bool false)))), none⟩,
  ⟨some 63, .mv (.t 62), none⟩,
  ⟨some 64, .mv (.t 6), some (63, true)⟩,
  ⟨some 65, .build (tz50) [(0, 1, .c (.p (.s (.int .i64 2)))), (1, 1, .c (.p (.s (.int .i64 1)))), (5, 1, .c (.p (.s (.bool true)))), (2, 1, .c (.p (.s (.int .i64 3))))], some (63, true)⟩,
  ⟨some 66, .bslice 50 1 (tz50) [(0, .t 65)], some (63, true)⟩,
  ⟨some 67, .call (.c (.fn (.func 14) [] [])) [.t 64, .t 66], some (63, true)⟩,
  ⟨some 68, .pick (.t 63) (.t 67) (.c (.p (.s (.bool false)))), none⟩,
  ⟨some 69, .mv (.t 68), none⟩,
  ⟨some 70, .pick (.t 69) (.c (.p (.s (.bool true)))) (.c (.p (.s (.bool false)))), none⟩,
  ⟨some 71, .mv (.t 70), none⟩,
  ⟨some 72, .pick (.t 71) (.c (.p (.s (.bool true)))) (.c (.p (.s (.bool false)))), none⟩,
  ⟨some 0, .mv (.t 72), none⟩]
abbrev c12 : CC := .seq (.reg r12_0) (.seq (.reg r12_1) (.rest [1, 2] (.seq (.reg r12_2) (.rest [1, 2, 3, 4, 5] (.seq (.reg r12_3) (.rest [1, 2, 3, 4, 5, 6, 7, 8] (.seq (.reg r12_4) (.rest [0] (.ret)))))))))
theorem F12 : Fun Tryd.prog 12 73 c12 [.tmp 0] 0 := ⟨⟨Tryd.f12, _, Tryd.func12, rfl, by kernel_rfl, Tryd.ntmps12, by kernel_rfl, by kernel_rfl⟩, by decide⟩

/-- linnet/script.Get -/
abbrev r13_0 : List CO := [
  ⟨some 2, .mv (.c (.p (.s (.slice none 0 0)))), none⟩,
  ⟨some 3, .mv (.c (.p (.s (.int .i64 0)))), none⟩,
  ⟨some 4, .mv (.c (.p (.s (.int .i64 0)))), none⟩]
abbrev r13_1 : List CO := [
  ⟨some 11, .call (.c (.fn (.func 23) [] [])) [], none⟩,
  ⟨some 5, .alloc (List.replicate 16 (.s (.nilFunc))), none⟩,
  ⟨none, .store 16 (.t 5) (.t 11), none⟩]
abbrev r13_2 : List CO := [
  ⟨some 6, .mv (.c (.p (.s (.slice none 0 0)))), none⟩]
abbrev r13_3 : List CO := [
  ⟨some 12, .mv (.t 0), none⟩,
  ⟨some 7, .mv (.t 12), none⟩]
abbrev r13_4 : List CO := [
  ⟨some 13, .mv (.t 7), none⟩,
  ⟨some 14, .len (.t 13), none⟩,
  ⟨some 15, .bin .gtr (.t 14) (.c (.p (.s (.int .i64 0)))), none⟩,
  ⟨some 16, .mv (.t 15), none⟩,
  ⟨some 17, .mv (.t 6), some (16, true)⟩,
  ⟨some 18, .len (.t 17), some (16, true)⟩,
  ⟨some 19, .bin .lss (.t 18) (.c (.p (.s (.int .i64 4096)))), some (16, true)⟩,
  ⟨some 20, .pick (.t 16) (.t 19) (.c (.p (.s (.bool false)))), none⟩]
abbrev r13_5 : List CO := [
  ⟨some 22, .load true 16 (.t 5), none⟩,
  ⟨some 23, .mv (.t 7), none⟩,
  ⟨some 24, .call (.c (.fn (.func 25) [] [])) [.t 22, .t 23], none⟩,
  ⟨some 21, .mv (.t 24), none⟩,
  ⟨some 25, .extract 0 (.t 21), none⟩,
  ⟨some 26, .extract 1 (.t 21), none⟩,
  ⟨some 27, .extract 2 (.t 21), none⟩,
  ⟨some 8, .alloc (tz50), none⟩,
  ⟨none, .store 50 (.t 8) (.t 25), none⟩,
  ⟨some 9, .mv (.t 26), none⟩,
  ⟨some 10, .mv (.t 27), none⟩]
abbrev r13_6 : List CO := [
  ⟨some 28, .mv (.t 10), none⟩,
  ⟨some 29, .un .not (.t 28), none⟩]
abbrev r13_7 : List CO := [
  ⟨some 30, .mv (.t 6), none⟩,
  ⟨some 31, .mv (.t 0), none⟩,
  ⟨some 32, .len (.t 31), none⟩,
  ⟨some 33, .mv (.t 7), none⟩,
  ⟨some 34, .len (.t 33), none⟩,
  ⟨some 35, .bin .sub (.t 32) (.t 34), none⟩,
  ⟨some 2, .mv (.t 30), none⟩,
  ⟨some 3, .mv (.t 35), none⟩,
  ⟨some 4, .mv (.c (.p (.s (.int .i64 2)))), none⟩]
abbrev r13_8 : List CO := [
  ⟨some 36, .mv (.t 6), none⟩,
  ⟨some 37, .load true 50 (.t 8), none⟩,
  ⟨some 38, .bslice 50 1 (tz50) [(0, .t 37)], none⟩,
  ⟨some 39, .append 50 152 (tz50) (.t 36) (.t 38), none⟩,
  ⟨some 40, .mv (.t 9), none⟩,
  ⟨some 6, .mv (.t 39), none⟩,
  ⟨some 7, .mv (.t 40), none⟩]
abbrev k13_1 : CC := .seq (.reg r13_5) (.rest [0, 5, 6, 7, 8, 9, 10] (.seq (.seq (.reg r13_6) (.cond (.t 29) (.seq (.reg r13_7) (.rest [2, 3, 4] (.ret))) (.skip))) (.rest [0, 5, 6, 8, 9] (.reg r13_8))))
abbrev l13_10 : CC := .seq (.seq (.reg r13_4) (.rest [0, 5, 6, 7, 20] (.cond (.t 20) (.skip) (.exit 0)))) (.rest [0, 5, 6, 7] (.block 1 k13_1))
abbrev k13_0 : CC := .loop l13_10
abbrev r13_9 : List CO := [
  ⟨some 41, .mv (.t 6), none⟩,
  ⟨some 42, .mv (.t 0), none⟩,
  ⟨some 43, .len (.t 42), none⟩,
  ⟨some 44, .mv (.t 7), none⟩,
  ⟨some 45, .len (.t 44), none⟩,
  ⟨some 46, .bin .sub (.t 43) (.t 45), none⟩,
  ⟨some 2, .mv (.t 41), none⟩,
  ⟨some 3, .mv (.t 46), none⟩,
  ⟨some 4, .mv (.c (.p (.s (.int .i64 0)))), none⟩]
abbrev c13 : CC := .seq (.reg r13_0) (.seq (.reg r13_1) (.seq (.reg r13_2) (.seq (.reg r13_3) (.seq (.block 0 k13_0) (.rest [0, 6, 7] (.seq (.reg r13_9) (.rest [2, 3, 4] (.ret))))))))
theorem F13 : Fun Tryd.prog 13 47 c13 [.tmp 2, .tmp 3, .tmp 4] 1 := ⟨⟨Tryd.f13, _, Tryd.func13, rfl, by kernel_rfl, Tryd.ntmps13, by kernel_rfl, by kernel_rfl⟩, by decide⟩

/-- linnet/script.Same -/
abbrev r14_0 : List CO := [
  ⟨some 4, .mv (.c (.p (.s (.bool false)))), none⟩]
abbrev r14_1 : List CO := [
  ⟨some 5, .mv (.t 0), none⟩,
  ⟨some 6, .mv (.t 1), none⟩,
  ⟨some 7, .call (.c (.fn (.func 26) [] [])) [.t 5, .t 6, .c (.fn (.func 27) [] [])], none⟩,
  ⟨some 4, .mv (.t 7), none⟩]
abbrev c14 : CC := .seq (.reg r14_0) (.seq (.reg r14_1) (.rest [4] (.ret)))
theorem F14 : Fun Tryd.prog 14 8 c14 [.tmp 4] 2 := ⟨⟨Tryd.f14, _, Tryd.func14, rfl, by kernel_rfl, Tryd.ntmps14, by kernel_rfl, by kernel_rfl⟩, by decide⟩

/-- linnet/linnetref01.Octets -/
abbrev r15_0 : List CO := [
  ⟨some 4, .mv (.c (.p (.s (.bool false)))), none⟩]
abbrev r15_1 : List CO := [
  ⟨some 5, .mv (.t 0), none⟩,
  ⟨some 6, .toStr (.t 5), none⟩,
  ⟨some 7, .mv (.t 1), none⟩,
  ⟨some 8, .toStr (.t 7), none⟩,
  ⟨some 9, .bin .eql (.t 6) (.t 8), none⟩,
  ⟨some 4, .mv (.t 9), none⟩]
abbrev c15 : CC := .seq (.reg r15_0) (.seq (.reg r15_1) (.rest [4] (.ret)))
theorem F15 : Fun Tryd.prog 15 10 c15 [.tmp 4] 2 := ⟨⟨Tryd.f15, _, Tryd.func15, rfl, by kernel_rfl, Tryd.ntmps15, by kernel_rfl, by kernel_rfl⟩, by decide⟩

/-- linnet/weigh.Lay -/
abbrev r16_0 : List CO := [
  ⟨some 2, .mv (.c (.p (.s (.slice none 0 0)))), none⟩]
abbrev r16_1 : List CO := [
  ⟨some 3, .mv (.c (.p (.s (.slice none 0 0)))), none⟩]
abbrev r16_2 : List CO := [
  ⟨some 8, .mv (.t 0), none⟩,
  ⟨some 9, .len (.t 8), none⟩,
  ⟨some 10, .mv (.c (.p (.s (.int .i64 0)))), none⟩]
abbrev r16_3 : List CO := [
  ⟨some 11, .bin .lss (.t 10) (.t 9), none⟩]
abbrev r16_4 : List CO := [
  ⟨some 12, .iaddrS 1 (.t 8) (.t 10), none⟩,
  ⟨some 13, .load false 1 (.t 12), none⟩,
  ⟨some 5, .mv (.t 13), none⟩]
abbrev r16_5 : List CO := [
  ⟨some 14, .mv (.t 5), none⟩,
  ⟨some 15, .ext (.f64 false) [.t 14], none⟩,
  ⟨some 6, .mv (.t 15), none⟩]
abbrev r16_6 : List CO := [
  ⟨some 16, .mv (.t 5), none⟩,
  ⟨some 17, .call (.c (.fn (.func 29) [] [])) [.t 16], none⟩]
abbrev r16_7 : List CO := [
  ⟨some 6, .mv (.c (.p (.s (.int .u64 9221120237041090561)))), none⟩]
abbrev r16_8 : List CO := [
  ⟨some 18, .mv (.c (.p (.s (.int .i64 0)))), none⟩]
abbrev r16_9 : List CO := [
  ⟨some 19, .bin .lss (.t 18) (.c (.p (.s (.int .i64 8)))), none⟩]
abbrev r16_10 : List CO := [
  ⟨some 20, .mv (.t 18), none⟩,
  ⟨some 7, .mv (.t 20), none⟩]
abbrev r16_11 : List CO := [
  ⟨some 21, .mv (.t 3), none⟩,
  ⟨some 22, .mv (.t 6), none⟩,
  ⟨some 23, .mv (.t 7), none⟩,
  ⟨some 24, .bin .mul (.c (.p (.s (.int .i64 8)))) (.t 23), none⟩,
  ⟨some 25, .bin .shr (.t 22) (.t 24), none⟩,
  ⟨some 26, .toInt .u8 (.t 25), none⟩,
  ⟨some 27, .bslice 1 1 ([.s (.int .u8 0)]) [(0, .t 26)], none⟩,
  ⟨some 28, .append 1 1 ([.s (.int .u8 0)]) (.t 21) (.t 27), none⟩,
  ⟨some 3, .mv (.t 28), none⟩]
abbrev k16_3 : CC := .seq (.reg r16_10) (.reg r16_11)
abbrev r16_12 : List CO := [
  ⟨some 29, .bin .add (.t 18) (.c (.p (.s (.int .i64 1)))), none⟩,
  ⟨some 18, .mv (.t 29), none⟩]
abbrev l16_14 : CC := .seq (.reg r16_9) (.seq (.cond (.t 19) (.skip) (.exit 2)) (.seq (.block 3 k16_3) (.rest [3, 6, 8, 9, 10, 18] (.reg r16_12))))
abbrev k16_2 : CC := .loop l16_14
abbrev k16_1 : CC := .seq (.reg r16_4) (.seq (.reg r16_5) (.seq (.seq (.reg r16_6) (.cond (.t 17) (.reg r16_7) (.skip))) (.seq (.reg r16_8) (.block 2 k16_2))))
abbrev r16_13 : List CO := [
  ⟨some 30, .bin .add (.t 10) (.c (.p (.s (.int .i64 1)))), none⟩,
  ⟨some 10, .mv (.t 30), none⟩]
abbrev l16_18 : CC := .seq (.reg r16_3) (.seq (.cond (.t 11) (.skip) (.exit 0)) (.seq (.block 1 k16_1) (.rest [3, 8, 9, 10] (.reg r16_13))))
abbrev k16_0 : CC := .loop l16_18
abbrev r16_14 : List CO := [
  ⟨some 31, .mv (.t 3), none⟩,
  ⟨some 2, .mv (.t 31), none⟩]
abbrev c16 : CC := .seq (.reg r16_0) (.seq (.reg r16_1) (.seq (.seq (.reg r16_2) (.block 0 k16_0)) (.rest [3] (.seq (.reg r16_14) (.ret)))))
theorem F16 : Fun Tryd.prog 16 32 c16 [.tmp 2] 1 := ⟨⟨Tryd.f16, _, Tryd.func16, rfl, by kernel_rfl, Tryd.ntmps16, by kernel_rfl, by kernel_rfl⟩, by decide⟩

/-- linnet/script.Check -/
abbrev r18_0 : List CO := [
  ⟨some 1, .box (.t 0), none⟩,
  ⟨some 2, .mv (.c (.p (.s (.int .i64 0)))), none⟩]
abbrev r18_1 : List CO := [
  ⟨some 6, .call (.c (.fn (.func 23) [] [])) [], none⟩,
  ⟨some 7, .load true 50 (.t 1), none⟩,
  ⟨some 8, .call (.c (.fn (.func 24) [] [])) [.t 6, .t 7], none⟩,
  ⟨some 5, .mv (.t 8), none⟩,
  ⟨some 9, .extract 0 (.t 5), none⟩,
  ⟨some 10, .extract 1 (.t 5), none⟩,
  ⟨some 3, .mv (.t 9), none⟩,
  ⟨some 4, .mv (.t 10), none⟩]
abbrev b18_1 : List (List Nat) := [[], [], [0, 1, 0], [2], [3], [3], [4, 2, 0, 1, 2, 3, 4], [5, 6, 0, 1, 2, 3, 4, 5, 6]]
abbrev r18_2 : List CO := [
  ⟨some 11, .mv (.t 4), none⟩,
  ⟨some 12, .un .not (.t 11), none⟩]
abbrev r18_3 : List CO := [
  ⟨some 2, .mv (.c (.p (.s (.int .i64 1)))), none⟩]
abbrev r18_4 : List CO := [
  ⟨some 2, .mv (.c (.p (.s (.int .i64 0)))), none⟩]
abbrev c18 : CC := .seq (.reg r18_0) (.seq (.seq (.regd r18_1 b18_1) (.rest [4] (.seq (.reg r18_2) (.cond (.t 12) (.seq (.reg r18_3) (.ret)) (.skip))))) (.rest [] (.seq (.reg r18_4) (.ret))))
theorem F18 : Fun Tryd.prog 18 13 c18 [.tmp 2] 1 := ⟨⟨Tryd.f18, _, Tryd.func18, rfl, by kernel_rfl, Tryd.ntmps18, by kernel_rfl, by kernel_rfl⟩, by decide⟩

/-- linnet/linnetref22.May -/
abbrev r19_0 : List CO := [
  ⟨some 1, .box (.t 0), none⟩,
  ⟨some 2, .mv (.c (.p (.s (.bool false)))), none⟩]
abbrev r19_1 : List CO := [
  ⟨some 7, .load true 50 (.t 1), none⟩,
  ⟨some 8, .load true 50 (.t 1), none⟩,
  ⟨some 9, .call (.c (.fn (.func 33) [] [])) [.t 8], none⟩,
  ⟨some 10, .call (.c (.fn (.func 32) [] [])) [.t 7, .t 9], none⟩,
  ⟨some 11, .un .not (.t 10), none⟩]
abbrev b19_1 : List (List Nat) := [[], [], [1], [0, 2, 2], [3]]
abbrev r19_2 : List CO := [
  ⟨some 2, .mv (.c (.p (.s (.bool false)))), none⟩]
abbrev r19_3 : List CO := [
  ⟨some 12, .faddr 0 (.t 1), none⟩,
  ⟨some 13, .load false 1 (.t 12), none⟩]
abbrev r19_4 : List CO := [
  ⟨some 15, .bin .eql (.t 13) (.c (.p (.s (.int .i64 0)))), none⟩,
  ⟨some 14, .mv (.t 15), none⟩]
abbrev r19_5 : List CO := [
  ⟨some 16, .bin .eql (.t 13) (.c (.p (.s (.int .i64 4)))), none⟩,
  ⟨some 14, .mv (.t 16), none⟩]
abbrev r19_6 : List CO := [
  ⟨some 2, .mv (.c (.p (.s (.bool true)))), none⟩]
abbrev r19_7 : List CO := [
  ⟨some 18, .bin .eql (.t 13) (.c (.p (.s (.int .i64 1)))), none⟩,
  ⟨some 17, .mv (.t 18), none⟩]
abbrev r19_8 : List CO := [
  ⟨some 19, .faddr 1 (.t 1), none⟩,
  ⟨some 20, .load false 1 (.t 19), none⟩,
  ⟨some 21, .call (.c (.fn (.func 34) [] [])) [.t 20, .c (.p (.s (.int .i64 3)))], none⟩,
  ⟨some 22, .mv (.t 21), none⟩,
  ⟨some 23, .faddr 2 (.t 1), some (22, true)⟩,
  ⟨some 24, .load false 1 (.t 23), some (22, true)⟩,
  ⟨some 25, .call (.c (.fn (.func 34) [] [])) [.t 24, .c (.p (.s (.int .i64 255)))], some (22, true)⟩,
  ⟨some 26, .pick (.t 22) (.t 25) (.c (.p (.s (.bool false)))), none⟩,
  ⟨some 2, .mv (.t 26), none⟩]
abbrev r19_9 : List CO := [
  ⟨some 28, .bin .eql (.t 13) (.c (.p (.s (.int .i64 2)))), none⟩,
  ⟨some 27, .mv (.t 28), none⟩]
abbrev r19_10 : List CO := [
  ⟨some 29, .faddr 1 (.t 1), none⟩,
  ⟨some 30, .load false 1 (.t 29), none⟩,
  ⟨some 31, .call (.c (.fn (.func 34) [] [])) [.t 30, .c (.p (.s (.int .i64 1)))], none⟩,
  ⟨some 32, .mv (.t 31), none⟩,
  ⟨some 33, .faddr 2 (.t 1), some (32, true)⟩,
  ⟨some 34, .load false 1 (.t 33), some (32, true)⟩,
  ⟨some 35, .call (.c (.fn (.func 34) [] [])) [.t 34, .c (.p (.s (.int .i64 3)))], some (32, true)⟩,
  ⟨some 36, .pick (.t 32) (.t 35) (.c (.p (.s (.bool false)))), none⟩,
  ⟨some 2, .mv (.t 36), none⟩]
abbrev r19_11 : List CO := [
  ⟨some 38, .bin .eql (.t 13) (.c (.p (.s (.int .i64 3)))), none⟩,
  ⟨some 37, .mv (.t 38), none⟩]
abbrev r19_12 : List CO := [
  ⟨some 39, .faddr 2 (.t 1), none⟩,
  ⟨some 40, .load false 1 (.t 39), none⟩,
  ⟨some 41, .call (.c (.fn (.func 34) [] [])) [.t 40, .c (.p (.s (.int .i64 255)))], none⟩,
  ⟨some 2, .mv (.t 41), none⟩]
abbrev r19_13 : List CO := [
  ⟨some 43, .bin .eql (.t 13) (.c (.p (.s (.int .i64 5)))), none⟩,
  ⟨some 42, .mv (.t 43), none⟩]
abbrev r19_14 : List CO := [
  ⟨some 44, .faddr 1 (.t 1), none⟩,
  ⟨some 45, .load false 1 (.t 44), none⟩,
  ⟨some 46, .call (.c (.fn (.func 34) [] [])) [.t 45, .c (.p (.s (.int .i64 1)))], none⟩,
  ⟨some 47, .mv (.t 46), none⟩,
  ⟨some 48, .faddr 38 (.t 1), some (47, true)⟩,
  ⟨some 49, .load true 6 (.t 48), some (47, true)⟩,
  ⟨some 50, .call (.c (.fn (.func 35) [] [])) [.t 49], some (47, true)⟩,
  ⟨some 51, .pick (.t 47) (.t 50) (.c (.p (.s (.bool false)))), none⟩,
  ⟨some 2, .mv (.t 51), none⟩]
abbrev r19_15 : List CO := [
  ⟨some 53, .bin .eql (.t 13) (.c (.p (.s (.int .i64 6)))), none⟩,
  ⟨some 52, .mv (.t 53), none⟩]
abbrev r19_16 : List CO := [
  ⟨some 54, .faddr 44 (.t 1), none⟩,
  ⟨some 55, .load false 1 (.t 54), none⟩,
  ⟨some 56, .len (.t 55), none⟩,
  ⟨some 57, .bin .leq (.t 56) (.c (.p (.s (.int .i64 255)))), none⟩,
  ⟨some 2, .mv (.t 57), none⟩]
abbrev r19_17 : List CO := [
  ⟨some 59, .bin .eql (.t 13) (.c (.p (.s (.int .i64 7)))), none⟩,
  ⟨some 58, .mv (.t 59), none⟩]
abbrev r19_18 : List CO := [
  ⟨some 61, .faddr 45 (.t 1), none⟩,
  ⟨some 62, .aslice 1 4 (.t 61) none none, none⟩,
  ⟨some 63, .call (.c (.fn (.func 37) [] [])) [.t 62], none⟩,
  ⟨some 64, .call (.c (.fn (.func 36) [] [])) [.t 63], none⟩,
  ⟨some 60, .mv (.t 64), none⟩,
  ⟨some 65, .extract 0 (.t 60), none⟩,
  ⟨some 66, .extract 1 (.t 60), none⟩,
  ⟨some 3, .mv (.t 65), none⟩,
  ⟨some 4, .mv (.t 66), none⟩]
abbrev r19_19 : List CO := [
  ⟨some 67, .load true 50 (.t 1), none⟩,
  ⟨some 5, .alloc (tz50), none⟩,
  ⟨none, .store 50 (.t 5) (.t 67), none⟩]
abbrev r19_20 : List CO := [
  ⟨some 6, .mv (.c (.p (.s (.int .i64 0)))), none⟩]
abbrev r19_21 : List CO := [
  ⟨some 68, .mv (.t 6), none⟩,
  ⟨some 69, .bin .lss (.t 68) (.c (.p (.s (.int .i64 4)))), none⟩]
abbrev r19_23 : List CO := [
  ⟨some 72, .mv (.t 6), none⟩,
  ⟨some 73, .mv (.t 3), none⟩,
  ⟨some 74, .mv (.t 6), none⟩,
  ⟨some 75, .iaddrS 1 (.t 73) (.t 74), none⟩,
  ⟨some 76, .load false 1 (.t 75), none⟩,
  ⟨some 77, .faddr 45 (.t 5), none⟩,
  ⟨some 78, .iaddrA 1 4 (.t 77) (.t 72), none⟩,
  ⟨none, .store 1 (.t 78) (.t 76), none⟩]
abbrev k19_2 : CC := .reg r19_23
abbrev r19_22 : List CO := [
  ⟨some 70, .mv (.t 6), none⟩,
  ⟨some 71, .bin .add (.t 70) (.c (.p (.s (.int .i64 1)))), none⟩,
  ⟨some 6, .mv (.t 71), none⟩]
abbrev l19_26 : CC := .seq (.seq (.reg r19_21) (.cond (.t 69) (.skip) (.exit 1))) (.seq (.block 2 k19_2) (.rest [1, 3, 5, 6] (.reg r19_22)))
abbrev k19_1 : CC := .loop l19_26
abbrev r19_24 : List CO := [
  ⟨some 79, .faddr 2 (.t 1), none⟩,
  ⟨some 80, .load false 1 (.t 79), none⟩,
  ⟨some 81, .call (.c (.fn (.func 34) [] [])) [.t 80, .c (.p (.s (.int .i64 255)))], none⟩,
  ⟨some 82, .mv (.t 81), none⟩,
  ⟨some 83, .load true 50 (.t 1), some (82, true)⟩,
  ⟨some 84, .load true 50 (.t 5), some (82, true)⟩,
  ⟨some 85, .call (.c (.fn (.func 32) [] [])) [.t 83, .t 84], some (82, true)⟩,
  ⟨some 86, .pick (.t 82) (.t 85) (.c (.p (.s (.bool false)))), none⟩,
  ⟨some 2, .mv (.t 86), none⟩]
abbrev k19_0 : CC := .seq (.seq (.reg r19_4) (.cond (.t 14) (.skip) (.reg r19_5))) (.rest [1, 13, 14] (.cond (.t 14) (.seq (.reg r19_6) (.ret)) (.seq (.reg r19_7) (.cond (.t 17) (.seq (.reg r19_8) (.rest [2] (.ret))) (.seq (.reg r19_9) (.cond (.t 27) (.seq (.reg r19_10) (.rest [2] (.ret))) (.seq (.reg r19_11) (.cond (.t 37) (.seq (.reg r19_12) (.rest [2] (.ret))) (.seq (.reg r19_13) (.cond (.t 42) (.seq (.reg r19_14) (.rest [2] (.ret))) (.seq (.reg r19_15) (.cond (.t 52) (.seq (.reg r19_16) (.rest [2] (.ret))) (.seq (.reg r19_17) (.cond (.t 58) (.seq (.reg r19_18) (.rest [1, 3] (.seq (.reg r19_19) (.seq (.seq (.reg r19_20) (.block 1 k19_1)) (.rest [1, 5] (.seq (.reg r19_24) (.rest [2] (.ret)))))))) (.skip)))))))))))))))
abbrev r19_25 : List CO := [
  ⟨some 2, .mv (.c (.p (.s (.bool false)))), none⟩]
abbrev c19 : CC := .seq (.reg r19_0) (.seq (.seq (.regd r19_1 b19_1) (.rest [1, 11] (.cond (.t 11) (.seq (.reg r19_2) (.ret)) (.skip)))) (.rest [1] (.seq (.seq (.reg r19_3) (.block 0 k19_0)) (.rest [] (.seq (.reg r19_25) (.ret))))))
theorem F19 : Fun Tryd.prog 19 87 c19 [.tmp 2] 1 := ⟨⟨Tryd.f19, _, Tryd.func19, rfl, by kernel_rfl, Tryd.ntmps19, by kernel_rfl, by kernel_rfl⟩, by decide⟩

/-- linnet/linnetref22.Put -/
abbrev r20_0 : List CO := [
  ⟨some 2, .mv (.c (.p (.s (.slice none 0 0)))), none⟩,
  ⟨some 3, .mv (.c (.p (.s (.int .i64 0)))), none⟩]
abbrev r20_1 : List CO := [
  ⟨some 4, .mv (.c (.p (.s (.slice none 0 0)))), none⟩]
abbrev r20_2 : List CO := [
  ⟨some 5, .mv (.c (.p (.s (.int .i64 0)))), none⟩]
abbrev r20_3 : List CO := [
  ⟨some 6, .mv (.t 5), none⟩,
  ⟨some 7, .mv (.t 0), none⟩,
  ⟨some 8, .len (.t 7), none⟩,
  ⟨some 9, .bin .lss (.t 6) (.t 8), none⟩]
abbrev r20_5 : List CO := [
  ⟨some 12, .mv (.t 0), none⟩,
  ⟨some 13, .mv (.t 5), none⟩,
  ⟨some 14, .iaddrS 50 (.t 12) (.t 13), none⟩,
  ⟨some 15, .load true 50 (.t 14), none⟩,
  ⟨some 16, .call (.c (.fn (.func 19) [] [])) [.t 15], none⟩,
  ⟨some 17, .un .not (.t 16), none⟩]
abbrev r20_6 : List CO := [
  ⟨some 2, .mv (.c (.p (.s (.slice none 0 0)))), none⟩,
  ⟨some 3, .mv (.c (.p (.s (.int .i64 1)))), none⟩]
abbrev r20_7 : List CO := [
  ⟨some 18, .mv (.t 4), none⟩,
  ⟨some 19, .mv (.t 0), none⟩,
  ⟨some 20, .mv (.t 5), none⟩,
  ⟨some 21, .iaddrS 50 (.t 19) (.t 20), none⟩,
  ⟨some 22, .load true 50 (.t 21), none⟩,
  ⟨some 23, .call (.c (.fn (.func 38) [] [])) [.t 22], none⟩,
  ⟨some 24, .append 1 1 ([.s (.int .u8 0)]) (.t 18) (.t 23), none⟩,
  ⟨some 4, .mv (.t 24), none⟩]
abbrev k20_1 : CC := .seq (.seq (.reg r20_5) (.rest [0, 4, 5, 17] (.cond (.t 17) (.seq (.reg r20_6) (.ret)) (.skip)))) (.rest [0, 4, 5] (.reg r20_7))
abbrev r20_4 : List CO := [
  ⟨some 10, .mv (.t 5), none⟩,
  ⟨some 11, .bin .add (.t 10) (.c (.p (.s (.int .i64 1)))), none⟩,
  ⟨some 5, .mv (.t 11), none⟩]
abbrev l20_9 : CC := .seq (.seq (.reg r20_3) (.rest [0, 4, 5, 9] (.cond (.t 9) (.skip) (.exit 0)))) (.rest [0, 4, 5] (.seq (.block 1 k20_1) (.rest [0, 4, 5] (.reg r20_4))))
abbrev k20_0 : CC := .loop l20_9
abbrev r20_8 : List CO := [
  ⟨some 25, .mv (.t 0), none⟩,
  ⟨some 26, .len (.t 25), none⟩,
  ⟨some 27, .bin .gtr (.t 26) (.c (.p (.s (.int .i64 4096)))), none⟩]
abbrev r20_9 : List CO := [
  ⟨some 2, .mv (.c (.p (.s (.slice none 0 0)))), none⟩,
  ⟨some 3, .mv (.c (.p (.s (.int .i64 3)))), none⟩]
abbrev r20_10 : List CO := [
  ⟨some 28, .mv (.t 4), none⟩,
  ⟨some 2, .mv (.t 28), none⟩,
  ⟨some 3, .mv (.c (.p (.s (.int .i64 0)))), none⟩]
abbrev c20 : CC := .seq (.reg r20_0) (.seq (.reg r20_1) (.seq (.seq (.reg r20_2) (.block 0 k20_0)) (.rest [0, 4] (.seq (.seq (.reg r20_8) (.cond (.t 27) (.seq (.reg r20_9) (.ret)) (.skip))) (.rest [4] (.seq (.reg r20_10) (.ret)))))))
theorem F20 : Fun Tryd.prog 20 29 c20 [.tmp 2, .tmp 3] 1 := ⟨⟨Tryd.f20, _, Tryd.func20, rfl, by kernel_rfl, Tryd.ntmps20, by kernel_rfl, by kernel_rfl⟩, by decide⟩

/-- linnet/linnetref22.Get -/
abbrev r21_0 : List CO := [
  ⟨some 2, .mv (.c (.p (.s (.slice none 0 0)))), none⟩,
  ⟨some 3, .mv (.c (.p (.s (.int .i64 0)))), none⟩,
  ⟨some 4, .mv (.c (.p (.s (.bool false)))), none⟩]
abbrev r21_1 : List CO := [
  ⟨some 5, .mv (.c (.p (.s (.slice none 0 0)))), none⟩]
abbrev r21_2 : List CO := [
  ⟨some 6, .mv (.c (.p (.s (.int .i64 0)))), none⟩]
abbrev r21_3 : List CO := [
  ⟨some 9, .mv (.t 6), none⟩,
  ⟨some 10, .mv (.t 0), none⟩,
  ⟨some 11, .len (.t 10), none⟩,
  ⟨some 12, .bin .lss (.t 9) (.t 11), none⟩,
  ⟨some 13, .mv (.t 12), none⟩,
  ⟨some 14, .mv (.t 5), some (13, true)⟩,
  ⟨some 15, .len (.t 14), some (13, true)⟩,
  ⟨some 16, .bin .lss (.t 15) (.c (.p (.s (.int .i64 4096)))), some (13, true)⟩,
  ⟨some 17, .pick (.t 13) (.t 16) (.c (.p (.s (.bool false)))), none⟩]
abbrev r21_4 : List CO := [
  ⟨some 18, .mv (.t 0), none⟩,
  ⟨some 19, .mv (.t 6), none⟩,
  ⟨some 20, .slice 1 (.t 18) (some (.t 19)) none, none⟩,
  ⟨some 21, .call (.c (.fn (.func 39) [] [])) [.t 20], none⟩,
  ⟨some 7, .mv (.t 21), none⟩]
abbrev r21_5 : List CO := [
  ⟨some 22, .mv (.t 7), none⟩,
  ⟨some 23, .bin .eql (.t 22) (.c (.p (.s (.int .i64 0)))), none⟩,
  ⟨some 24, .mv (.t 23), none⟩,
  ⟨some 25, .mv (.t 6), some (24, false)⟩,
  ⟨some 26, .mv (.t 7), some (24, false)⟩,
  ⟨some 27, .bin .add (.t 25) (.t 26), some (24, false)⟩,
  ⟨some 28, .mv (.t 0), some (24, false)⟩,
  ⟨some 29, .len (.t 28), some (24, false)⟩,
  ⟨some 30, .bin .gtr (.t 27) (.t 29), some (24, false)⟩,
  ⟨some 31, .pick (.t 24) (.c (.p (.s (.bool true)))) (.t 30), none⟩]
abbrev r21_6 : List CO := [
  ⟨some 32, .mv (.t 5), none⟩,
  ⟨some 33, .mv (.t 6), none⟩,
  ⟨some 2, .mv (.t 32), none⟩,
  ⟨some 3, .mv (.t 33), none⟩,
  ⟨some 4, .mv (.c (.p (.s (.bool false)))), none⟩]
abbrev r21_7 : List CO := [
  ⟨some 34, .mv (.t 0), none⟩,
  ⟨some 35, .mv (.t 6), none⟩,
  ⟨some 36, .mv (.t 6), none⟩,
  ⟨some 37, .mv (.t 7), none⟩,
  ⟨some 38, .bin .add (.t 36) (.t 37), none⟩,
  ⟨some 39, .slice 1 (.t 34) (some (.t 35)) (some (.t 38)), none⟩,
  ⟨some 40, .call (.c (.fn (.func 40) [] [])) [.t 39], none⟩,
  ⟨some 8, .alloc (tz50), none⟩,
  ⟨none, .store 50 (.t 8) (.t 40), none⟩]
abbrev r21_8 : List CO := [
  ⟨some 41, .load true 50 (.t 8), none⟩,
  ⟨some 42, .call (.c (.fn (.func 19) [] [])) [.t 41], none⟩,
  ⟨some 43, .un .not (.t 42), none⟩,
  ⟨some 44, .mv (.t 43), none⟩,
  ⟨some 45, .load true 50 (.t 8), some (44, false)⟩,
  ⟨some 46, .call (.c (.fn (.func 38) [] [])) [.t 45], some (44, false)⟩,
  ⟨some 47, .toStr (.t 46), some (44, false)⟩,
  ⟨some 48, .mv (.t 0), some (44, false)⟩,
  ⟨some 49, .mv (.t 6), some (44, false)⟩,
  ⟨some 50, .mv (.t 6), some (44, false)⟩,
  ⟨some 51, .mv (.t 7), some (44, false)⟩,
  ⟨some 52, .bin .add (.t 50) (.t 51), some (44, false)⟩,
  ⟨some 53, .slice 1 (.t 48) (some (.t 49)) (some (.t 52)), some (44, false)⟩,
  ⟨some 54, .toStr (.t 53), some (44, false)⟩,
  ⟨some 55, .bin .neq (.t 47) (.t 54), some (44, false)⟩,
  ⟨some 56, .pick (.t 44) (.c (.p (.s (.bool true)))) (.t 55), none⟩]
abbrev b21_8 : List (List Nat) := [[], [0], [1], [2, 1], [3], [4, 3, 3], [5, 3], [3], [3], [3], [3], [9, 10, 3], [7, 8, 11, 3], [12, 3], [6, 13, 3], [3, 14]]
abbrev r21_9 : List CO := [
  ⟨some 57, .mv (.t 5), none⟩,
  ⟨some 58, .mv (.t 6), none⟩,
  ⟨some 2, .mv (.t 57), none⟩,
  ⟨some 3, .mv (.t 58), none⟩,
  ⟨some 4, .mv (.c (.p (.s (.bool false)))), none⟩]
abbrev r21_10 : List CO := [
  ⟨some 59, .mv (.t 5), none⟩,
  ⟨some 60, .load true 50 (.t 8), none⟩,
  ⟨some 61, .bslice 50 1 (tz50) [(0, .t 60)], none⟩,
  ⟨some 62, .append 50 152 (tz50) (.t 59) (.t 61), none⟩,
  ⟨some 5, .mv (.t 62), none⟩]
abbrev r21_11 : List CO := [
  ⟨some 63, .mv (.t 6), none⟩,
  ⟨some 64, .mv (.t 7), none⟩,
  ⟨some 65, .bin .add (.t 63) (.t 64), none⟩,
  ⟨some 6, .mv (.t 65), none⟩]
abbrev k21_1 : CC := .seq (.reg r21_4) (.rest [0, 5, 6, 7] (.seq (.seq (.reg r21_5) (.rest [0, 5, 6, 7, 31] (.cond (.t 31) (.seq (.reg r21_6) (.rest [2, 3, 4] (.ret))) (.skip)))) (.rest [0, 5, 6, 7] (.seq (.reg r21_7) (.rest [0, 5, 6, 7, 8] (.seq (.seq (.regd r21_8 b21_8) (.rest [0, 5, 6, 7, 8, 56] (.cond (.t 56) (.seq (.reg r21_9) (.rest [2, 3, 4] (.ret))) (.skip)))) (.rest [0, 5, 6, 7, 8] (.seq (.reg r21_10) (.rest [0, 5, 6, 7] (.reg r21_11))))))))))
abbrev l21_14 : CC := .seq (.seq (.reg r21_3) (.rest [0, 5, 6, 17] (.cond (.t 17) (.skip) (.exit 0)))) (.rest [0, 5, 6] (.block 1 k21_1))
abbrev k21_0 : CC := .loop l21_14
abbrev r21_12 : List CO := [
  ⟨some 66, .mv (.t 5), none⟩,
  ⟨some 67, .mv (.t 6), none⟩,
  ⟨some 2, .mv (.t 66), none⟩,
  ⟨some 3, .mv (.t 67), none⟩,
  ⟨some 4, .mv (.c (.p (.s (.bool true)))), none⟩]
abbrev c21 : CC := .seq (.reg r21_0) (.seq (.reg r21_1) (.seq (.reg r21_2) (.seq (.block 0 k21_0) (.rest [5, 6] (.seq (.reg r21_12) (.rest [2, 3, 4] (.ret)))))))
theorem F21 : Fun Tryd.prog 21 68 c21 [.tmp 2, .tmp 3, .tmp 4] 1 := ⟨⟨Tryd.f21, _, Tryd.func21, rfl, by kernel_rfl, Tryd.ntmps21, by kernel_rfl, by kernel_rfl⟩, by decide⟩

/-- linnet/linnetref22.Same -/
abbrev r22_0 : List CO := [
  ⟨some 4, .mv (.c (.p (.s (.bool false)))), none⟩]
abbrev r22_1 : List CO := [
  ⟨some 6, .mv (.t 0), none⟩,
  ⟨some 7, .len (.t 6), none⟩,
  ⟨some 8, .mv (.t 1), none⟩,
  ⟨some 9, .len (.t 8), none⟩,
  ⟨some 10, .bin .neq (.t 7) (.t 9), none⟩]
abbrev r22_2 : List CO := [
  ⟨some 4, .mv (.c (.p (.s (.bool false)))), none⟩]
abbrev r22_3 : List CO := [
  ⟨some 5, .mv (.c (.p (.s (.int .i64 0)))), none⟩]
abbrev r22_4 : List CO := [
  ⟨some 11, .mv (.t 5), none⟩,
  ⟨some 12, .mv (.t 0), none⟩,
  ⟨some 13, .len (.t 12), none⟩,
  ⟨some 14, .bin .lss (.t 11) (.t 13), none⟩]
abbrev r22_6 : List CO := [
  ⟨some 17, .mv (.t 0), none⟩,
  ⟨some 18, .mv (.t 5), none⟩,
  ⟨some 19, .iaddrS 50 (.t 17) (.t 18), none⟩,
  ⟨some 20, .load true 50 (.t 19), none⟩,
  ⟨some 21, .mv (.t 1), none⟩,
  ⟨some 22, .mv (.t 5), none⟩,
  ⟨some 23, .iaddrS 50 (.t 21) (.t 22), none⟩,
  ⟨some 24, .load true 50 (.t 23), none⟩,
  ⟨some 25, .call (.c (.fn (.func 32) [] [])) [.t 20, .t 24], none⟩,
  ⟨some 26, .un .not (.t 25), none⟩]
abbrev b22_6 : List (List Nat) := [[], [], [0, 1], [2], [], [], [4, 5], [6], [3, 7], [8]]
abbrev r22_7 : List CO := [
  ⟨some 4, .mv (.c (.p (.s (.bool false)))), none⟩]
abbrev k22_1 : CC := .seq (.regd r22_6 b22_6) (.rest [0, 1, 5, 26] (.cond (.t 26) (.seq (.reg r22_7) (.ret)) (.skip)))
abbrev r22_5 : List CO := [
  ⟨some 15, .mv (.t 5), none⟩,
  ⟨some 16, .bin .add (.t 15) (.c (.p (.s (.int .i64 1)))), none⟩,
  ⟨some 5, .mv (.t 16), none⟩]
abbrev l22_10 : CC := .seq (.seq (.reg r22_4) (.rest [0, 1, 5, 14] (.cond (.t 14) (.skip) (.exit 0)))) (.rest [0, 1, 5] (.seq (.block 1 k22_1) (.rest [0, 1, 5] (.reg r22_5))))
abbrev k22_0 : CC := .loop l22_10
abbrev r22_8 : List CO := [
  ⟨some 4, .mv (.c (.p (.s (.bool true)))), none⟩]
abbrev c22 : CC := .seq (.reg r22_0) (.seq (.seq (.reg r22_1) (.rest [0, 1, 10] (.cond (.t 10) (.seq (.reg r22_2) (.ret)) (.skip)))) (.rest [0, 1] (.seq (.seq (.reg r22_3) (.block 0 k22_0)) (.rest [] (.seq (.reg r22_8) (.ret))))))
theorem F22 : Fun Tryd.prog 22 27 c22 [.tmp 4] 2 := ⟨⟨Tryd.f22, _, Tryd.func22, rfl, by kernel_rfl, Tryd.ntmps22, by kernel_rfl, by kernel_rfl⟩, by decide⟩

/-- linnet/script.forms -/
abbrev r23_0 : List CO := [
  ⟨some 0, .alloc (List.replicate 16 (.s (.nilFunc))), none⟩]
abbrev r23_1 : List CO := [
  ⟨some 1, .call (.c (.fn (.func 41) [] [])) [], none⟩,
  ⟨some 2, .call (.c (.fn (.func 42) [] [])) [], none⟩,
  ⟨some 3, .call (.c (.fn (.func 43) [] [])) [], none⟩,
  ⟨some 4, .call (.c (.fn (.func 44) [] [])) [], none⟩,
  ⟨some 5, .call (.c (.fn (.func 45) [] [])) [], none⟩,
  ⟨some 6, .call (.c (.fn (.func 46) [] [])) [], none⟩,
  ⟨some 7, .call (.c (.fn (.func 47) [] [])) [], none⟩,
  ⟨some 8, .call (.c (.fn (.func 48) [] [])) [], none⟩,
  ⟨some 9, .build (List.replicate 16 (.s (.nilFunc))) [(0, 2, .t 1), (2, 2, .t 2), (4, 2, .t 3), (6, 2, .t 4), (8, 2, .t 5), (10, 2, .t 6), (12, 2, .t 7), (14, 2, .t 8)], none⟩,
  ⟨none, .store 16 (.t 0) (.t 9), none⟩]
abbrev c23 : CC := .seq (.reg r23_0) (.seq (.reg r23_1) (.rest [0] (.ret)))
theorem F23 : Fun Tryd.prog 23 10 c23 [.cell 0 true 16] 0 := ⟨⟨Tryd.f23, _, Tryd.func23, rfl, by kernel_rfl, Tryd.ntmps23, by kernel_rfl, by kernel_rfl⟩, by decide⟩

/-- linnet/script.may -/
abbrev r24_0 : List CO := [
  ⟨some 2, .box (.t 0), none⟩,
  ⟨some 3, .box (.t 1), none⟩,
  ⟨some 4, .mv (.c (.p (.s (.slice none 0 0)))), none⟩,
  ⟨some 5, .mv (.c (.p (.s (.bool false)))), none⟩]
abbrev r24_1 : List CO := [
  ⟨some 11, .load true 16 (.t 2), none⟩,
  ⟨some 12, .load true 50 (.t 3), none⟩,
  ⟨some 13, .call (.c (.fn (.func 49) [] [])) [.t 11, .t 12], none⟩,
  ⟨some 10, .mv (.t 13), none⟩,
  ⟨some 14, .extract 0 (.t 10), none⟩,
  ⟨some 15, .extract 1 (.t 10), none⟩,
  ⟨some 6, .mv (.t 14), none⟩,
  ⟨some 7, .mv (.t 15), none⟩]
abbrev r24_2 : List CO := [
  ⟨some 16, .mv (.t 7), none⟩,
  ⟨some 17, .un .not (.t 16), none⟩]
abbrev r24_3 : List CO := [
  ⟨some 4, .mv (.c (.p (.s (.slice none 0 0)))), none⟩,
  ⟨some 5, .mv (.c (.p (.s (.bool false)))), none⟩]
abbrev r24_4 : List CO := [
  ⟨some 19, .load true 16 (.t 2), none⟩,
  ⟨some 20, .mv (.t 6), none⟩,
  ⟨some 21, .call (.c (.fn (.func 25) [] [])) [.t 19, .t 20], none⟩,
  ⟨some 18, .mv (.t 21), none⟩,
  ⟨some 22, .extract 0 (.t 18), none⟩,
  ⟨some 23, .extract 1 (.t 18), none⟩,
  ⟨some 24, .extract 2 (.t 18), none⟩,
  ⟨some 8, .alloc (tz50), none⟩,
  ⟨none, .store 50 (.t 8) (.t 22), none⟩,
  ⟨some 9, .mv (.t 23), none⟩,
  ⟨some 7, .mv (.t 24), none⟩]
abbrev r24_5 : List CO := [
  ⟨some 25, .mv (.t 6), none⟩,
  ⟨some 26, .mv (.t 7), none⟩,
  ⟨some 27, .mv (.t 26), none⟩,
  ⟨some 28, .mv (.t 9), some (27, true)⟩,
  ⟨some 29, .len (.t 28), some (27, true)⟩,
  ⟨some 30, .bin .eql (.t 29) (.c (.p (.s (.int .i64 0)))), some (27, true)⟩,
  ⟨some 31, .pick (.t 27) (.t 30) (.c (.p (.s (.bool false)))), none⟩,
  ⟨some 32, .mv (.t 31), none⟩,
  ⟨some 33, .load true 50 (.t 3), some (32, true)⟩,
  ⟨some 34, .load true 50 (.t 8), some (32, true)⟩,
  ⟨some 35, .call (.c (.fn (.func 27) [] [])) [.t 33, .t 34], some (32, true)⟩,
  ⟨some 36, .pick (.t 32) (.t 35) (.c (.p (.s (.bool false)))), none⟩,
  ⟨some 4, .mv (.t 25), none⟩,
  ⟨some 5, .mv (.t 36), none⟩]
abbrev c24 : CC := .seq (.reg r24_0) (.rest [2, 3] (.seq (.reg r24_1) (.rest [2, 3, 6, 7] (.seq (.seq (.reg r24_2) (.cond (.t 17) (.seq (.reg r24_3) (.ret)) (.skip))) (.rest [2, 3, 6] (.seq (.reg r24_4) (.rest [3, 6, 7, 8, 9] (.seq (.reg r24_5) (.rest [4, 5] (.ret))))))))))
theorem F24 : Fun Tryd.prog 24 37 c24 [.tmp 4, .tmp 5] 2 := ⟨⟨Tryd.f24, _, Tryd.func24, rfl, by kernel_rfl, Tryd.ntmps24, by kernel_rfl, by kernel_rfl⟩, by decide⟩

/-- linnet/script.reads (defers) -/
abbrev r25_0 : List CO := [
  ⟨some 2, .box (.t 0), none⟩,
  ⟨some 3, .box (.t 1), none⟩,
  ⟨some 4, .alloc (tz50), none⟩,
  ⟨some 5, .alloc ([.s (.slice none 0 0)]), none⟩,
  ⟨some 6, .alloc ([.s (.bool false)]), none⟩]
abbrev q25 : List CO := [
  ⟨some 8, .mkfn (.func 50) [] [.t 3, .t 4, .t 5, .t 6], none⟩]
abbrev r25_2 : List CO := [
  ⟨some 9, .load false 1 (.t 3), none⟩,
  ⟨some 10, .build ([.s (.slice none 0 0)]) [(0, 1, .t 9)], none⟩,
  ⟨some 11, .box (.t 10), none⟩,
  ⟨some 7, .mv (.t 11), none⟩]
abbrev r25_3 : List CO := [
  ⟨some 12, .mv (.t 7), none⟩,
  ⟨some 13, .call (.c (.fn (.func 51) [] [])) [.t 12], none⟩,
  ⟨some 14, .faddr 0 (.t 4), none⟩,
  ⟨none, .store 1 (.t 14) (.t 13), none⟩]
abbrev r25_4 : List CO := [
  ⟨some 15, .faddr 0 (.t 4), none⟩,
  ⟨some 16, .load false 1 (.t 15), none⟩,
  ⟨some 17, .bin .lss (.t 16) (.c (.p (.s (.int .i64 8)))), none⟩,
  ⟨some 18, .call (.c (.fn (.func 52) [] [])) [.t 17], none⟩]
abbrev r25_5 : List CO := [
  ⟨some 19, .faddr 0 (.t 4), none⟩,
  ⟨some 20, .load false 1 (.t 19), none⟩,
  ⟨some 21, .iaddrA 2 8 (.t 2) (.t 20), none⟩,
  ⟨some 22, .faddr 1 (.t 21), none⟩,
  ⟨some 23, .load false 1 (.t 22), none⟩,
  ⟨some 24, .mv (.t 7), none⟩,
  ⟨some 25, .call (.t 23) [.t 24, .t 4], none⟩]
abbrev r25_6 : List CO := [
  ⟨some 26, .load true 50 (.t 4), none⟩,
  ⟨some 27, .mv (.t 7), none⟩,
  ⟨some 28, .nilchk (.t 27), none⟩,
  ⟨some 29, .faddr 0 (.t 28), none⟩,
  ⟨some 30, .load false 1 (.t 29), none⟩,
  ⟨none, .store 50 (.t 4) (.t 26), none⟩,
  ⟨none, .store 1 (.t 5) (.t 30), none⟩,
  ⟨none, .store 1 (.t 6) (.c (.p (.s (.bool true)))), none⟩]
abbrev b25_6 : List (List Nat) := [[], [], [1], [2], [3], [0, 0, 4], [4, 5, 0, 1, 2, 3, 4, 5], [6, 0, 1, 2, 3, 4, 5, 6]]
abbrev ca25 : CC := .reg r25_0
abbrev cb25 : CC := .seq (.reg r25_2) (.rest [2, 4, 5, 6, 7] (.seq (.reg r25_3) (.rest [2, 4, 5, 6, 7] (.seq (.reg r25_4) (.rest [2, 4, 5, 6, 7] (.seq (.reg r25_5) (.rest [4, 5, 6, 7] (.seq (.regd r25_6 b25_6) (.rest [4, 5, 6] (.ret))))))))))
theorem G25 : GFun Tryd.prog 25 31 ca25 q25 8 cb25 [.cell 4 true 50, .cell 5 false 1, .cell 6 false 1] 2 := ⟨⟨Tryd.f25, _, _, _, _, [_], _, Tryd.func25, rfl, by kernel_rfl, Tryd.ntmps25, by kernel_rfl, rfl, by kernel_rfl, rfl, rfl, rfl, by kernel_rfl, by kernel_rfl⟩, by decide, by decide⟩

/-- slices.EqualFunc[[]linnet/api.Step,[]linnet/api.Step,linnet/api.Step,linnet/api.Step] -/
abbrev r26_0 : List CO := [
  ⟨some 6, .mv (.c (.p (.s (.bool false)))), none⟩]
abbrev r26_1 : List CO := [
  ⟨some 10, .mv (.t 0), none⟩,
  ⟨some 11, .len (.t 10), none⟩,
  ⟨some 12, .mv (.t 1), none⟩,
  ⟨some 13, .len (.t 12), none⟩,
  ⟨some 14, .bin .neq (.t 11) (.t 13), none⟩]
abbrev r26_2 : List CO := [
  ⟨some 6, .mv (.c (.p (.s (.bool false)))), none⟩]
abbrev r26_3 : List CO := [
  ⟨some 15, .mv (.t 0), none⟩,
  ⟨some 16, .len (.t 15), none⟩,
  ⟨some 17, .mv (.c (.p (.s (.int .i64 0)))), none⟩]
abbrev r26_4 : List CO := [
  ⟨some 18, .bin .lss (.t 17) (.t 16), none⟩]
abbrev r26_5 : List CO := [
  ⟨some 19, .mv (.t 17), none⟩,
  ⟨some 20, .iaddrS 50 (.t 15) (.t 17), none⟩,
  ⟨some 21, .load true 50 (.t 20), none⟩,
  ⟨some 8, .alloc (tz50), none⟩,
  ⟨some 7, .mv (.t 19), none⟩,
  ⟨none, .store 50 (.t 8) (.t 21), none⟩]
abbrev r26_6 : List CO := [
  ⟨some 22, .mv (.t 1), none⟩,
  ⟨some 23, .mv (.t 7), none⟩,
  ⟨some 24, .iaddrS 50 (.t 22) (.t 23), none⟩,
  ⟨some 25, .load true 50 (.t 24), none⟩,
  ⟨some 9, .alloc (tz50), none⟩,
  ⟨none, .store 50 (.t 9) (.t 25), none⟩]
abbrev r26_7 : List CO := [
  ⟨some 26, .mv (.t 2), none⟩,
  ⟨some 27, .load true 50 (.t 8), none⟩,
  ⟨some 28, .load true 50 (.t 9), none⟩,
  ⟨some 29, .call (.t 26) [.t 27, .t 28], none⟩,
  ⟨some 30, .un .not (.t 29), none⟩]
abbrev r26_8 : List CO := [
  ⟨some 6, .mv (.c (.p (.s (.bool false)))), none⟩]
abbrev k26_1 : CC := .seq (.reg r26_5) (.rest [1, 2, 7, 8, 15, 16, 17] (.seq (.reg r26_6) (.rest [1, 2, 8, 9, 15, 16, 17] (.seq (.reg r26_7) (.rest [1, 2, 15, 16, 17, 30] (.cond (.t 30) (.seq (.reg r26_8) (.ret)) (.skip)))))))
abbrev r26_9 : List CO := [
  ⟨some 31, .bin .add (.t 17) (.c (.p (.s (.int .i64 1)))), none⟩,
  ⟨some 17, .mv (.t 31), none⟩]
abbrev l26_11 : CC := .seq (.reg r26_4) (.seq (.cond (.t 18) (.skip) (.exit 0)) (.seq (.block 1 k26_1) (.rest [1, 2, 15, 16, 17] (.reg r26_9))))
abbrev k26_0 : CC := .loop l26_11
abbrev r26_10 : List CO := [
  ⟨some 6, .mv (.c (.p (.s (.bool true)))), none⟩]
abbrev c26 : CC := .seq (.reg r26_0) (.seq (.seq (.reg r26_1) (.rest [0, 1, 2, 14] (.cond (.t 14) (.seq (.reg r26_2) (.ret)) (.skip)))) (.rest [0, 1, 2] (.seq (.seq (.reg r26_3) (.block 0 k26_0)) (.rest [] (.seq (.reg r26_10) (.ret))))))
theorem F26 : Fun Tryd.prog 26 32 c26 [.tmp 6] 3 := ⟨⟨Tryd.f26, _, Tryd.func26, rfl, by kernel_rfl, Tryd.ntmps26, by kernel_rfl, by kernel_rfl⟩, by decide⟩

/-- linnet/script.same -/
abbrev r27_0 : List CO := [
  ⟨some 2, .box (.t 0), none⟩,
  ⟨some 3, .box (.t 1), none⟩,
  ⟨some 4, .mv (.c (.p (.s (.bool false)))), none⟩]
abbrev r27_1 : List CO := [
  ⟨some 6, .mv (.c (.p (.s (.int .i64 0)))), none⟩]
abbrev r27_2 : List CO := [
  ⟨some 7, .bin .lss (.t 6) (.c (.p (.s (.int .i64 4)))), none⟩]
abbrev r27_3 : List CO := [
  ⟨some 8, .mv (.t 6), none⟩,
  ⟨some 5, .mv (.t 8), none⟩]
abbrev r27_4 : List CO := [
  ⟨some 9, .mv (.t 5), none⟩,
  ⟨some 10, .faddr 45 (.t 2), none⟩,
  ⟨some 11, .iaddrA 1 4 (.t 10) (.t 9), none⟩,
  ⟨some 12, .load false 1 (.t 11), none⟩,
  ⟨some 13, .ext (.f64 false) [.t 12], none⟩,
  ⟨some 14, .mv (.t 5), none⟩,
  ⟨some 15, .faddr 45 (.t 3), none⟩,
  ⟨some 16, .iaddrA 1 4 (.t 15) (.t 14), none⟩,
  ⟨some 17, .load false 1 (.t 16), none⟩,
  ⟨some 18, .ext (.f64 false) [.t 17], none⟩,
  ⟨some 19, .bin .neq (.t 13) (.t 18), none⟩]
abbrev b27_4 : List (List Nat) := [[], [], [1, 0], [2], [3], [], [], [6, 5], [7], [8, 4], [4, 9]]
abbrev r27_5 : List CO := [
  ⟨some 4, .mv (.c (.p (.s (.bool false)))), none⟩]
abbrev k27_1 : CC := .seq (.reg r27_3) (.seq (.regd r27_4 b27_4) (.rest [2, 3, 6, 19] (.cond (.t 19) (.seq (.reg r27_5) (.ret)) (.skip))))
abbrev r27_6 : List CO := [
  ⟨some 20, .bin .add (.t 6) (.c (.p (.s (.int .i64 1)))), none⟩,
  ⟨some 6, .mv (.t 20), none⟩]
abbrev l27_9 : CC := .seq (.reg r27_2) (.seq (.cond (.t 7) (.skip) (.exit 0)) (.seq (.block 1 k27_1) (.rest [2, 3, 6] (.reg r27_6))))
abbrev k27_0 : CC := .loop l27_9
abbrev r27_7 : List CO := [
  ⟨some 21, .faddr 0 (.t 2), none⟩,
  ⟨some 22, .load false 1 (.t 21), none⟩,
  ⟨some 23, .faddr 0 (.t 3), none⟩,
  ⟨some 24, .load false 1 (.t 23), none⟩,
  ⟨some 25, .bin .eql (.t 22) (.t 24), none⟩,
  ⟨some 26, .mv (.t 25), none⟩,
  ⟨some 27, .faddr 1 (.t 2), some (26, true)⟩,
  ⟨some 28, .load false 1 (.t 27), some (26, true)⟩,
  ⟨some 29, .faddr 1 (.t 3), some (26, true)⟩,
  ⟨some 30, .load false 1 (.t 29), some (26, true)⟩,
  ⟨some 31, .bin .eql (.t 28) (.t 30), some (26, true)⟩,
  ⟨some 32, .pick (.t 26) (.t 31) (.c (.p (.s (.bool false)))), none⟩,
  ⟨some 33, .mv (.t 32), none⟩,
  ⟨some 34, .faddr 2 (.t 2), some (33, true)⟩,
  ⟨some 35, .load false 1 (.t 34), some (33, true)⟩,
  ⟨some 36, .faddr 2 (.t 3), some (33, true)⟩,
  ⟨some 37, .load false 1 (.t 36), some (33, true)⟩,
  ⟨some 38, .bin .eql (.t 35) (.t 37), some (33, true)⟩,
  ⟨some 39, .pick (.t 33) (.t 38) (.c (.p (.s (.bool false)))), none⟩,
  ⟨some 40, .mv (.t 39), none⟩,
  ⟨some 41, .faddr 3 (.t 2), some (40, true)⟩,
  ⟨some 42, .load false 1 (.t 41), some (40, true)⟩,
  ⟨some 43, .faddr 3 (.t 3), some (40, true)⟩,
  ⟨some 44, .load false 1 (.t 43), some (40, true)⟩,
  ⟨some 45, .bin .eql (.t 42) (.t 44), some (40, true)⟩,
  ⟨some 46, .pick (.t 40) (.t 45) (.c (.p (.s (.bool false)))), none⟩,
  ⟨some 47, .mv (.t 46), none⟩,
  ⟨some 48, .faddr 4 (.t 2), some (47, true)⟩,
  ⟨some 49, .load false 1 (.t 48), some (47, true)⟩,
  ⟨some 50, .faddr 4 (.t 3), some (47, true)⟩,
  ⟨some 51, .load false 1 (.t 50), some (47, true)⟩,
  ⟨some 52, .beq false (.t 49) (.t 51), some (47, true)⟩,
  ⟨some 53, .pick (.t 47) (.t 52) (.c (.p (.s (.bool false)))), none⟩,
  ⟨some 54, .mv (.t 53), none⟩,
  ⟨some 55, .faddr 5 (.t 2), some (54, true)⟩,
  ⟨some 56, .load false 1 (.t 55), some (54, true)⟩,
  ⟨some 57, .faddr 5 (.t 3), some (54, true)⟩,
  ⟨some 58, .load false 1 (.t 57), some (54, true)⟩,
  ⟨some 59, .beq false (.t 56) (.t 58), some (54, true)⟩,
  ⟨some 60, .pick (.t 54) (.t 59) (.c (.p (.s (.bool false)))), none⟩,
  ⟨some 61, .mv (.t 60), none⟩,
  ⟨some 62, .faddr 6 (.t 2), some (61, true)⟩,
  ⟨some 63, .load true 32 (.t 62), some (61, true)⟩,
  ⟨some 64, .faddr 6 (.t 3), some (61, true)⟩,
  ⟨some 65, .load true 32 (.t 64), some (61, true)⟩,
  ⟨some 66, .eqs false (List.replicate 32 0) (.t 63) (.t 65), some (61, true)⟩,
  ⟨some 67, .pick (.t 61) (.t 66) (.c (.p (.s (.bool false)))), none⟩,
  ⟨some 68, .mv (.t 67), none⟩,
  ⟨some 69, .faddr 38 (.t 2), some (68, true)⟩,
  ⟨some 70, .load true 6 (.t 69), some (68, true)⟩,
  ⟨some 71, .faddr 38 (.t 3), some (68, true)⟩,
  ⟨some 72, .load true 6 (.t 71), some (68, true)⟩,
  ⟨some 73, .eqs false [0, 0, 1, 1, 1, 0] (.t 70) (.t 72), some (68, true)⟩,
  ⟨some 74, .pick (.t 68) (.t 73) (.c (.p (.s (.bool false)))), none⟩,
  ⟨some 75, .mv (.t 74), none⟩,
  ⟨some 76, .faddr 44 (.t 2), some (75, true)⟩,
  ⟨some 77, .load false 1 (.t 76), some (75, true)⟩,
  ⟨some 78, .faddr 44 (.t 3), some (75, true)⟩,
  ⟨some 79, .load false 1 (.t 78), some (75, true)⟩,
  ⟨some 80, .call (.c (.fn (.func 53) [] [])) [.t 77, .t 79], some (75, true)⟩,
  ⟨some 81, .pick (.t 75) (.t 80) (.c (.p (.s (.bool false)))), none⟩,
  ⟨some 82, .mv (.t 81), none⟩,
  ⟨some 83, .faddr 49 (.t 2), some (82, true)⟩,
  ⟨some 84, .load false 1 (.t 83), some (82, true)⟩,
  ⟨some 85, .faddr 49 (.t 3), some (82, true)⟩,
  ⟨some 86, .load false 1 (.t 85), some (82, true)⟩,
  ⟨some 87, .bin .eql (.t 84) (.t 86), some (82, true)⟩,
  ⟨some 88, .pick (.t 82) (.t 87) (.c (.p (.s (.bool false)))), none⟩,
  ⟨some 4, .mv (.t 88), none⟩]
abbrev c27 : CC := .seq (.reg r27_0) (.seq (.seq (.reg r27_1) (.block 0 k27_0)) (.rest [2, 3] (.seq (.reg r27_7) (.rest [4] (.ret)))))
theorem F27 : Fun Tryd.prog 27 89 c27 [.tmp 4] 2 := ⟨⟨Tryd.f27, _, Tryd.func27, rfl, by kernel_rfl, Tryd.ntmps27, by kernel_rfl, by kernel_rfl⟩, by decide⟩

/-- math.IsNaN -/
abbrev r29_0 : List CO := [
  ⟨some 2, .mv (.c (.p (.s (.bool false)))), none⟩]
abbrev r29_1 : List CO := [
  ⟨some 3, .mv (.t 0), none⟩,
  ⟨some 4, .mv (.t 0), none⟩,
  ⟨some 5, .ext (.feq true) [.t 3, .t 4], none⟩,
  ⟨some 2, .mv (.t 5), none⟩]
abbrev c29 : CC := .seq (.reg r29_0) (.seq (.reg r29_1) (.rest [2] (.ret)))
theorem F29 : Fun Tryd.prog 29 6 c29 [.tmp 2] 1 := ⟨⟨Tryd.f29, _, Tryd.func29, rfl, by kernel_rfl, Tryd.ntmps29, by kernel_rfl, by kernel_rfl⟩, by decide⟩

/-- linnet/linnetref22.One -/
abbrev r32_0 : List CO := [
  ⟨some 2, .box (.t 0), none⟩,
  ⟨some 3, .box (.t 1), none⟩,
  ⟨some 4, .mv (.c (.p (.s (.bool false)))), none⟩]
abbrev r32_1 : List CO := [
  ⟨some 5, .mv (.c (.p (.s (.int .i64 0)))), none⟩]
abbrev r32_2 : List CO := [
  ⟨some 6, .mv (.t 5), none⟩,
  ⟨some 7, .bin .lss (.t 6) (.c (.p (.s (.int .i64 4)))), none⟩]
abbrev r32_4 : List CO := [
  ⟨some 10, .mv (.t 5), none⟩,
  ⟨some 11, .faddr 45 (.t 2), none⟩,
  ⟨some 12, .iaddrA 1 4 (.t 11) (.t 10), none⟩,
  ⟨some 13, .load false 1 (.t 12), none⟩,
  ⟨some 14, .ext (.f64 false) [.t 13], none⟩,
  ⟨some 15, .mv (.t 5), none⟩,
  ⟨some 16, .faddr 45 (.t 3), none⟩,
  ⟨some 17, .iaddrA 1 4 (.t 16) (.t 15), none⟩,
  ⟨some 18, .load false 1 (.t 17), none⟩,
  ⟨some 19, .ext (.f64 false) [.t 18], none⟩,
  ⟨some 20, .bin .neq (.t 14) (.t 19), none⟩]
abbrev b32_4 : List (List Nat) := [[], [], [1, 0], [2], [3], [], [], [6, 5], [7], [8, 4], [4, 9]]
abbrev r32_5 : List CO := [
  ⟨some 4, .mv (.c (.p (.s (.bool false)))), none⟩]
abbrev k32_1 : CC := .seq (.regd r32_4 b32_4) (.rest [2, 3, 5, 20] (.cond (.t 20) (.seq (.reg r32_5) (.ret)) (.skip)))
abbrev r32_3 : List CO := [
  ⟨some 8, .mv (.t 5), none⟩,
  ⟨some 9, .bin .add (.t 8) (.c (.p (.s (.int .i64 1)))), none⟩,
  ⟨some 5, .mv (.t 9), none⟩]
abbrev l32_8 : CC := .seq (.seq (.reg r32_2) (.cond (.t 7) (.skip) (.exit 0))) (.seq (.block 1 k32_1) (.rest [2, 3, 5] (.reg r32_3)))
abbrev k32_0 : CC := .loop l32_8
abbrev r32_6 : List CO := [
  ⟨some 21, .faddr 0 (.t 2), none⟩,
  ⟨some 22, .load false 1 (.t 21), none⟩,
  ⟨some 23, .faddr 0 (.t 3), none⟩,
  ⟨some 24, .load false 1 (.t 23), none⟩,
  ⟨some 25, .bin .eql (.t 22) (.t 24), none⟩,
  ⟨some 26, .mv (.t 25), none⟩,
  ⟨some 27, .faddr 1 (.t 2), some (26, true)⟩,
  ⟨some 28, .load false 1 (.t 27), some (26, true)⟩,
  ⟨some 29, .faddr 1 (.t 3), some (26, true)⟩,
  ⟨some 30, .load false 1 (.t 29), some (26, true)⟩,
  ⟨some 31, .bin .eql (.t 28) (.t 30), some (26, true)⟩,
  ⟨some 32, .pick (.t 26) (.t 31) (.c (.p (.s (.bool false)))), none⟩,
  ⟨some 33, .mv (.t 32), none⟩,
  ⟨some 34, .faddr 2 (.t 2), some (33, true)⟩,
  ⟨some 35, .load false 1 (.t 34), some (33, true)⟩,
  ⟨some 36, .faddr 2 (.t 3), some (33, true)⟩,
  ⟨some 37, .load false 1 (.t 36), some (33, true)⟩,
  ⟨some 38, .bin .eql (.t 35) (.t 37), some (33, true)⟩,
  ⟨some 39, .pick (.t 33) (.t 38) (.c (.p (.s (.bool false)))), none⟩,
  ⟨some 40, .mv (.t 39), none⟩,
  ⟨some 41, .faddr 3 (.t 2), some (40, true)⟩,
  ⟨some 42, .load false 1 (.t 41), some (40, true)⟩,
  ⟨some 43, .faddr 3 (.t 3), some (40, true)⟩,
  ⟨some 44, .load false 1 (.t 43), some (40, true)⟩,
  ⟨some 45, .bin .eql (.t 42) (.t 44), some (40, true)⟩,
  ⟨some 46, .pick (.t 40) (.t 45) (.c (.p (.s (.bool false)))), none⟩,
  ⟨some 47, .mv (.t 46), none⟩,
  ⟨some 48, .faddr 4 (.t 2), some (47, true)⟩,
  ⟨some 49, .load false 1 (.t 48), some (47, true)⟩,
  ⟨some 50, .faddr 4 (.t 3), some (47, true)⟩,
  ⟨some 51, .load false 1 (.t 50), some (47, true)⟩,
  ⟨some 52, .beq false (.t 49) (.t 51), some (47, true)⟩,
  ⟨some 53, .pick (.t 47) (.t 52) (.c (.p (.s (.bool false)))), none⟩,
  ⟨some 54, .mv (.t 53), none⟩,
  ⟨some 55, .faddr 5 (.t 2), some (54, true)⟩,
  ⟨some 56, .load false 1 (.t 55), some (54, true)⟩,
  ⟨some 57, .faddr 5 (.t 3), some (54, true)⟩,
  ⟨some 58, .load false 1 (.t 57), some (54, true)⟩,
  ⟨some 59, .beq false (.t 56) (.t 58), some (54, true)⟩,
  ⟨some 60, .pick (.t 54) (.t 59) (.c (.p (.s (.bool false)))), none⟩,
  ⟨some 61, .mv (.t 60), none⟩,
  ⟨some 62, .faddr 6 (.t 2), some (61, true)⟩,
  ⟨some 63, .load true 32 (.t 62), some (61, true)⟩,
  ⟨some 64, .faddr 6 (.t 3), some (61, true)⟩,
  ⟨some 65, .load true 32 (.t 64), some (61, true)⟩,
  ⟨some 66, .eqs false (List.replicate 32 0) (.t 63) (.t 65), some (61, true)⟩,
  ⟨some 67, .pick (.t 61) (.t 66) (.c (.p (.s (.bool false)))), none⟩,
  ⟨some 68, .mv (.t 67), none⟩,
  ⟨some 69, .faddr 38 (.t 2), some (68, true)⟩,
  ⟨some 70, .load true 6 (.t 69), some (68, true)⟩,
  ⟨some 71, .faddr 38 (.t 3), some (68, true)⟩,
  ⟨some 72, .load true 6 (.t 71), some (68, true)⟩,
  ⟨some 73, .eqs false [0, 0, 1, 1, 1, 0] (.t 70) (.t 72), some (68, true)⟩,
  ⟨some 74, .pick (.t 68) (.t 73) (.c (.p (.s (.bool false)))), none⟩,
  ⟨some 75, .mv (.t 74), none⟩,
  ⟨some 76, .faddr 44 (.t 2), some (75, true)⟩,
  ⟨some 77, .load false 1 (.t 76), some (75, true)⟩,
  ⟨some 78, .toStr (.t 77), some (75, true)⟩,
  ⟨some 79, .faddr 44 (.t 3), some (75, true)⟩,
  ⟨some 80, .load false 1 (.t 79), some (75, true)⟩,
  ⟨some 81, .toStr (.t 80), some (75, true)⟩,
  ⟨some 82, .bin .eql (.t 78) (.t 81), some (75, true)⟩,
  ⟨some 83, .pick (.t 75) (.t 82) (.c (.p (.s (.bool false)))), none⟩,
  ⟨some 84, .mv (.t 83), none⟩,
  ⟨some 85, .faddr 49 (.t 2), some (84, true)⟩,
  ⟨some 86, .load false 1 (.t 85), some (84, true)⟩,
  ⟨some 87, .faddr 49 (.t 3), some (84, true)⟩,
  ⟨some 88, .load false 1 (.t 87), some (84, true)⟩,
  ⟨some 89, .bin .eql (.t 86) (.t 88), some (84, true)⟩,
  ⟨some 90, .pick (.t 84) (.t 89) (.c (.p (.s (.bool false)))), none⟩,
  ⟨some 4, .mv (.t 90), none⟩]
abbrev c32 : CC := .seq (.reg r32_0) (.seq (.seq (.reg r32_1) (.block 0 k32_0)) (.rest [2, 3] (.seq (.reg r32_6) (.rest [4] (.ret)))))
theorem F32 : Fun Tryd.prog 32 91 c32 [.tmp 4] 2 := ⟨⟨Tryd.f32, _, Tryd.func32, rfl, by kernel_rfl, Tryd.ntmps32, by kernel_rfl, by kernel_rfl⟩, by decide⟩

/-- linnet/linnetref22.parts -/
abbrev r33_0 : List CO := [
  ⟨some 1, .box (.t 0), none⟩,
  ⟨some 2, .alloc (tz50), none⟩]
abbrev r33_1 : List CO := [
  ⟨some 4, .faddr 0 (.t 1), none⟩,
  ⟨some 5, .load false 1 (.t 4), none⟩,
  ⟨some 6, .build (tz50) [(0, 1, .t 5)], none⟩,
  ⟨some 3, .alloc (tz50), none⟩,
  ⟨none, .store 50 (.t 3) (.t 6), none⟩]
abbrev r33_2 : List CO := [
  ⟨some 7, .faddr 0 (.t 1), none⟩,
  ⟨some 8, .load false 1 (.t 7), none⟩]
abbrev r33_3 : List CO := [
  ⟨some 10, .bin .eql (.t 8) (.c (.p (.s (.int .i64 0)))), none⟩,
  ⟨some 9, .mv (.t 10), none⟩]
abbrev r33_4 : List CO := [
  ⟨some 11, .faddr 3 (.t 1), none⟩,
  ⟨some 12, .load false 1 (.t 11), none⟩,
  ⟨some 13, .faddr 3 (.t 3), none⟩,
  ⟨none, .store 1 (.t 13) (.t 12), none⟩]
abbrev r33_5 : List CO := [
  ⟨some 15, .bin .eql (.t 8) (.c (.p (.s (.int .i64 1)))), none⟩,
  ⟨some 14, .mv (.t 15), none⟩]
abbrev r33_6 : List CO := [
  ⟨some 16, .faddr 1 (.t 1), none⟩,
  ⟨some 17, .load false 1 (.t 16), none⟩,
  ⟨some 18, .faddr 2 (.t 1), none⟩,
  ⟨some 19, .load false 1 (.t 18), none⟩,
  ⟨some 20, .faddr 1 (.t 3), none⟩,
  ⟨none, .store 1 (.t 20) (.t 17), none⟩,
  ⟨some 21, .faddr 2 (.t 3), none⟩,
  ⟨none, .store 1 (.t 21) (.t 19), none⟩]
abbrev b33_6 : List (List Nat) := [[], [0], [], [2], [0, 1], [4, 1, 0, 1], [0, 1, 2, 3, 4, 5], [6, 3, 5, 0, 1, 2, 3, 4, 5]]
abbrev r33_7 : List CO := [
  ⟨some 23, .bin .eql (.t 8) (.c (.p (.s (.int .i64 2)))), none⟩,
  ⟨some 22, .mv (.t 23), none⟩]
abbrev r33_8 : List CO := [
  ⟨some 24, .faddr 1 (.t 1), none⟩,
  ⟨some 25, .load false 1 (.t 24), none⟩,
  ⟨some 26, .faddr 2 (.t 1), none⟩,
  ⟨some 27, .load false 1 (.t 26), none⟩,
  ⟨some 28, .faddr 4 (.t 1), none⟩,
  ⟨some 29, .load false 1 (.t 28), none⟩,
  ⟨some 30, .faddr 5 (.t 1), none⟩,
  ⟨some 31, .load false 1 (.t 30), none⟩,
  ⟨some 32, .faddr 1 (.t 3), none⟩,
  ⟨none, .store 1 (.t 32) (.t 25), none⟩,
  ⟨some 33, .faddr 2 (.t 3), none⟩,
  ⟨none, .store 1 (.t 33) (.t 27), none⟩,
  ⟨some 34, .faddr 4 (.t 3), none⟩,
  ⟨none, .store 1 (.t 34) (.t 29), none⟩,
  ⟨some 35, .faddr 5 (.t 3), none⟩,
  ⟨none, .store 1 (.t 35) (.t 31), none⟩]
abbrev b33_8 : List (List Nat) := [[], [0], [], [2], [], [4], [], [6], [0, 1], [8, 1, 0, 1], [0, 1, 2, 3, 8, 9], [10, 3, 9, 0, 1, 2, 3, 8, 9], [0, 1, 2, 3, 4, 5, 8, 9, 10, 11], [12, 5, 11, 0, 1, 2, 3, 4, 5, 8, 9, 10, 11], [0, 1, 2, 3, 4, 5, 6, 7, 8, 9, 10, 11, 12, 13], [14, 7, 13, 0, 1, 2, 3, 4, 5, 6, 7, 8, 9, 10, 11, 12, 13]]
abbrev r33_9 : List CO := [
  ⟨some 37, .bin .eql (.t 8) (.c (.p (.s (.int .i64 3)))), none⟩,
  ⟨some 36, .mv (.t 37), none⟩]
abbrev r33_10 : List CO := [
  ⟨some 38, .faddr 2 (.t 1), none⟩,
  ⟨some 39, .load false 1 (.t 38), none⟩,
  ⟨some 40, .faddr 2 (.t 3), none⟩,
  ⟨none, .store 1 (.t 40) (.t 39), none⟩]
abbrev r33_11 : List CO := [
  ⟨some 42, .bin .eql (.t 8) (.c (.p (.s (.int .i64 4)))), none⟩,
  ⟨some 41, .mv (.t 42), none⟩]
abbrev r33_12 : List CO := [
  ⟨some 43, .faddr 5 (.t 1), none⟩,
  ⟨some 44, .load false 1 (.t 43), none⟩,
  ⟨some 45, .faddr 5 (.t 3), none⟩,
  ⟨none, .store 1 (.t 45) (.t 44), none⟩]
abbrev r33_13 : List CO := [
  ⟨some 46, .faddr 5 (.t 1), none⟩,
  ⟨some 47, .load false 1 (.t 46), none⟩]
abbrev r33_14 : List CO := [
  ⟨some 48, .faddr 6 (.t 1), none⟩,
  ⟨some 49, .load true 32 (.t 48), none⟩,
  ⟨some 50, .faddr 6 (.t 3), none⟩,
  ⟨none, .store 32 (.t 50) (.t 49), none⟩]
abbrev r33_15 : List CO := [
  ⟨some 52, .bin .eql (.t 8) (.c (.p (.s (.int .i64 5)))), none⟩,
  ⟨some 51, .mv (.t 52), none⟩]
abbrev r33_16 : List CO := [
  ⟨some 53, .faddr 1 (.t 1), none⟩,
  ⟨some 54, .load false 1 (.t 53), none⟩,
  ⟨some 55, .faddr 38 (.t 1), none⟩,
  ⟨some 56, .load true 6 (.t 55), none⟩,
  ⟨some 57, .faddr 1 (.t 3), none⟩,
  ⟨none, .store 1 (.t 57) (.t 54), none⟩,
  ⟨some 58, .faddr 38 (.t 3), none⟩,
  ⟨none, .store 6 (.t 58) (.t 56), none⟩]
abbrev b33_16 : List (List Nat) := [[], [0], [], [2], [0, 1], [4, 1, 0, 1], [0, 1, 2, 3, 4, 5], [6, 3, 5, 0, 1, 2, 3, 4, 5]]
abbrev r33_17 : List CO := [
  ⟨some 60, .bin .eql (.t 8) (.c (.p (.s (.int .i64 6)))), none⟩,
  ⟨some 59, .mv (.t 60), none⟩]
abbrev r33_18 : List CO := [
  ⟨some 61, .faddr 44 (.t 1), none⟩,
  ⟨some 62, .load false 1 (.t 61), none⟩,
  ⟨some 63, .faddr 44 (.t 3), none⟩,
  ⟨none, .store 1 (.t 63) (.t 62), none⟩]
abbrev r33_19 : List CO := [
  ⟨some 65, .bin .eql (.t 8) (.c (.p (.s (.int .i64 7)))), none⟩,
  ⟨some 64, .mv (.t 65), none⟩]
abbrev r33_20 : List CO := [
  ⟨some 66, .faddr 2 (.t 1), none⟩,
  ⟨some 67, .load false 1 (.t 66), none⟩,
  ⟨some 68, .faddr 45 (.t 1), none⟩,
  ⟨some 69, .load true 4 (.t 68), none⟩,
  ⟨some 70, .faddr 49 (.t 1), none⟩,
  ⟨some 71, .load false 1 (.t 70), none⟩,
  ⟨some 72, .faddr 2 (.t 3), none⟩,
  ⟨none, .store 1 (.t 72) (.t 67), none⟩,
  ⟨some 73, .faddr 45 (.t 3), none⟩,
  ⟨none, .store 4 (.t 73) (.t 69), none⟩,
  ⟨some 74, .faddr 49 (.t 3), none⟩,
  ⟨none, .store 1 (.t 74) (.t 71), none⟩]
abbrev b33_20 : List (List Nat) := [[], [0], [], [2], [], [4], [0, 1], [6, 1, 0, 1], [0, 1, 2, 3, 6, 7], [8, 3, 7, 0, 1, 2, 3, 6, 7], [0, 1, 2, 3, 4, 5, 6, 7, 8, 9], [10, 5, 9, 0, 1, 2, 3, 4, 5, 6, 7, 8, 9]]
abbrev k33_0 : CC := .seq (.reg r33_3) (.cond (.t 9) (.reg r33_4) (.seq (.reg r33_5) (.cond (.t 14) (.regd r33_6 b33_6) (.seq (.reg r33_7) (.cond (.t 22) (.regd r33_8 b33_8) (.seq (.reg r33_9) (.cond (.t 36) (.reg r33_10) (.seq (.reg r33_11) (.cond (.t 41) (.seq (.reg r33_12) (.rest [1, 2, 3] (.seq (.reg r33_13) (.cond (.t 47) (.reg r33_14) (.skip))))) (.seq (.reg r33_15) (.cond (.t 51) (.regd r33_16 b33_16) (.seq (.reg r33_17) (.cond (.t 59) (.reg r33_18) (.seq (.reg r33_19) (.cond (.t 64) (.regd r33_20 b33_20) (.skip))))))))))))))))
abbrev r33_21 : List CO := [
  ⟨some 75, .load true 50 (.t 3), none⟩,
  ⟨none, .store 50 (.t 2) (.t 75), none⟩]
abbrev c33 : CC := .seq (.reg r33_0) (.seq (.reg r33_1) (.rest [1, 2, 3] (.seq (.seq (.reg r33_2) (.block 0 k33_0)) (.rest [2, 3] (.seq (.reg r33_21) (.ret))))))
theorem F33 : Fun Tryd.prog 33 76 c33 [.cell 2 true 50] 1 := ⟨⟨Tryd.f33, _, Tryd.func33, rfl, by kernel_rfl, Tryd.ntmps33, by kernel_rfl, by kernel_rfl⟩, by decide⟩

/-- linnet/linnetref22.within -/
abbrev r34_0 : List CO := [
  ⟨some 4, .mv (.c (.p (.s (.bool false)))), none⟩]
abbrev r34_1 : List CO := [
  ⟨some 5, .mv (.t 0), none⟩,
  ⟨some 6, .bin .geq (.t 5) (.c (.p (.s (.int .i64 0)))), none⟩,
  ⟨some 7, .mv (.t 6), none⟩,
  ⟨some 8, .mv (.t 0), some (7, true)⟩,
  ⟨some 9, .mv (.t 1), some (7, true)⟩,
  ⟨some 10, .bin .leq (.t 8) (.t 9), some (7, true)⟩,
  ⟨some 11, .pick (.t 7) (.t 10) (.c (.p (.s (.bool false)))), none⟩,
  ⟨some 4, .mv (.t 11), none⟩]
abbrev c34 : CC := .seq (.reg r34_0) (.seq (.reg r34_1) (.rest [4] (.ret)))
theorem F34 : Fun Tryd.prog 34 12 c34 [.tmp 4] 2 := ⟨⟨Tryd.f34, _, Tryd.func34, rfl, by kernel_rfl, Tryd.ntmps34, by kernel_rfl, by kernel_rfl⟩, by decide⟩

/-- linnet/linnetref07.May -/
abbrev r35_0 : List CO := [
  ⟨some 1, .box (.t 0), none⟩,
  ⟨some 2, .mv (.c (.p (.s (.bool false)))), none⟩]
abbrev r35_1 : List CO := [
  ⟨some 3, .faddr 0 (.t 1), none⟩,
  ⟨some 4, .load false 1 (.t 3), none⟩,
  ⟨some 5, .bin .geq (.t 4) (.c (.p (.s (.int .i64 0)))), none⟩,
  ⟨some 6, .mv (.t 5), none⟩,
  ⟨some 7, .faddr 0 (.t 1), some (6, true)⟩,
  ⟨some 8, .load false 1 (.t 7), some (6, true)⟩,
  ⟨some 9, .bin .leq (.t 8) (.c (.p (.s (.int .i64 255)))), some (6, true)⟩,
  ⟨some 10, .pick (.t 6) (.t 9) (.c (.p (.s (.bool false)))), none⟩,
  ⟨some 11, .mv (.t 10), none⟩,
  ⟨some 12, .faddr 1 (.t 1), some (11, true)⟩,
  ⟨some 13, .load false 1 (.t 12), some (11, true)⟩,
  ⟨some 14, .bin .geq (.t 13) (.c (.p (.s (.int .i64 0)))), some (11, true)⟩,
  ⟨some 15, .pick (.t 11) (.t 14) (.c (.p (.s (.bool false)))), none⟩,
  ⟨some 16, .mv (.t 15), none⟩,
  ⟨some 17, .faddr 1 (.t 1), some (16, true)⟩,
  ⟨some 18, .load false 1 (.t 17), some (16, true)⟩,
  ⟨some 19, .bin .leq (.t 18) (.c (.p (.s (.int .i64 3)))), some (16, true)⟩,
  ⟨some 20, .pick (.t 16) (.t 19) (.c (.p (.s (.bool false)))), none⟩,
  ⟨some 2, .mv (.t 20), none⟩]
abbrev c35 : CC := .seq (.reg r35_0) (.seq (.reg r35_1) (.rest [2] (.ret)))
theorem F35 : Fun Tryd.prog 35 21 c35 [.tmp 2] 1 := ⟨⟨Tryd.f35, _, Tryd.func35, rfl, by kernel_rfl, Tryd.ntmps35, by kernel_rfl, by kernel_rfl⟩, by decide⟩

/-- linnet/linnetref20.Read -/
abbrev r36_0 : List CO := [
  ⟨some 2, .mv (.c (.p (.s (.slice none 0 0)))), none⟩,
  ⟨some 3, .mv (.c (.p (.s (.bool false)))), none⟩]
abbrev r36_1 : List CO := [
  ⟨some 4, .mv (.c (.p (.s (.slice none 0 0)))), none⟩]
abbrev r36_2 : List CO := [
  ⟨some 8, .mv (.t 0), none⟩,
  ⟨some 9, .len (.t 8), none⟩,
  ⟨some 10, .bin .rem (.t 9) (.c (.p (.s (.int .i64 8)))), none⟩,
  ⟨some 11, .bin .neq (.t 10) (.c (.p (.s (.int .i64 0)))), none⟩]
abbrev r36_3 : List CO := [
  ⟨some 2, .mv (.c (.p (.s (.slice none 0 0)))), none⟩,
  ⟨some 3, .mv (.c (.p (.s (.bool false)))), none⟩]
abbrev r36_4 : List CO := [
  ⟨some 5, .mv (.c (.p (.s (.int .i64 0)))), none⟩]
abbrev r36_5 : List CO := [
  ⟨some 12, .mv (.t 5), none⟩,
  ⟨some 13, .mv (.t 0), none⟩,
  ⟨some 14, .len (.t 13), none⟩,
  ⟨some 15, .bin .lss (.t 12) (.t 14), none⟩]
abbrev r36_7 : List CO := [
  ⟨some 6, .mv (.c (.p (.s (.int .u64 0)))), none⟩]
abbrev r36_8 : List CO := [
  ⟨some 7, .mv (.c (.p (.s (.int .i64 7)))), none⟩]
abbrev r36_9 : List CO := [
  ⟨some 18, .mv (.t 7), none⟩,
  ⟨some 19, .bin .geq (.t 18) (.c (.p (.s (.int .i64 0)))), none⟩]
abbrev r36_11 : List CO := [
  ⟨some 22, .mv (.t 6), none⟩,
  ⟨some 23, .bin .mul (.c (.p (.s (.int .u64 256)))) (.t 22), none⟩,
  ⟨some 24, .mv (.t 0), none⟩,
  ⟨some 25, .mv (.t 5), none⟩,
  ⟨some 26, .mv (.t 7), none⟩,
  ⟨some 27, .bin .add (.t 25) (.t 26), none⟩,
  ⟨some 28, .iaddrS 1 (.t 24) (.t 27), none⟩,
  ⟨some 29, .load false 1 (.t 28), none⟩,
  ⟨some 30, .toInt .u64 (.t 29), none⟩,
  ⟨some 31, .bin .add (.t 23) (.t 30), none⟩,
  ⟨some 6, .mv (.t 31), none⟩]
abbrev k36_3 : CC := .reg r36_11
abbrev r36_10 : List CO := [
  ⟨some 20, .mv (.t 7), none⟩,
  ⟨some 21, .bin .sub (.t 20) (.c (.p (.s (.int .i64 1)))), none⟩,
  ⟨some 7, .mv (.t 21), none⟩]
abbrev l36_12 : CC := .seq (.seq (.reg r36_9) (.cond (.t 19) (.skip) (.exit 2))) (.seq (.block 3 k36_3) (.rest [0, 4, 5, 6, 7] (.reg r36_10)))
abbrev k36_2 : CC := .loop l36_12
abbrev r36_12 : List CO := [
  ⟨some 32, .mv (.t 4), none⟩,
  ⟨some 33, .mv (.t 6), none⟩,
  ⟨some 34, .ext (.f64 true) [.t 33], none⟩,
  ⟨some 35, .bslice 1 1 ([.s (.float .f64 0)]) [(0, .t 34)], none⟩,
  ⟨some 36, .append 1 8 ([.s (.float .f64 0)]) (.t 32) (.t 35), none⟩,
  ⟨some 4, .mv (.t 36), none⟩]
abbrev k36_1 : CC := .seq (.reg r36_7) (.seq (.seq (.reg r36_8) (.block 2 k36_2)) (.rest [0, 4, 5, 6] (.reg r36_12)))
abbrev r36_6 : List CO := [
  ⟨some 16, .mv (.t 5), none⟩,
  ⟨some 17, .bin .add (.t 16) (.c (.p (.s (.int .i64 8)))), none⟩,
  ⟨some 5, .mv (.t 17), none⟩]
abbrev l36_17 : CC := .seq (.seq (.reg r36_5) (.rest [0, 4, 5, 15] (.cond (.t 15) (.skip) (.exit 0)))) (.rest [0, 4, 5] (.seq (.block 1 k36_1) (.rest [0, 4, 5] (.reg r36_6))))
abbrev k36_0 : CC := .loop l36_17
abbrev r36_13 : List CO := [
  ⟨some 37, .mv (.t 4), none⟩,
  ⟨some 2, .mv (.t 37), none⟩,
  ⟨some 3, .mv (.c (.p (.s (.bool true)))), none⟩]
abbrev c36 : CC := .seq (.reg r36_0) (.seq (.reg r36_1) (.seq (.seq (.reg r36_2) (.rest [0, 4, 11] (.cond (.t 11) (.seq (.reg r36_3) (.ret)) (.skip)))) (.rest [0, 4] (.seq (.seq (.reg r36_4) (.block 0 k36_0)) (.rest [4] (.seq (.reg r36_13) (.ret)))))))
theorem F36 : Fun Tryd.prog 36 38 c36 [.tmp 2, .tmp 3] 1 := ⟨⟨Tryd.f36, _, Tryd.func36, rfl, by kernel_rfl, Tryd.ntmps36, by kernel_rfl, by kernel_rfl⟩, by decide⟩

/-- linnet/linnetref20.Lay -/
abbrev r37_0 : List CO := [
  ⟨some 2, .mv (.c (.p (.s (.slice none 0 0)))), none⟩]
abbrev r37_1 : List CO := [
  ⟨some 3, .mv (.c (.p (.s (.slice none 0 0)))), none⟩]
abbrev r37_2 : List CO := [
  ⟨some 4, .mv (.c (.p (.s (.int .i64 0)))), none⟩]
abbrev r37_3 : List CO := [
  ⟨some 7, .mv (.t 4), none⟩,
  ⟨some 8, .mv (.t 0), none⟩,
  ⟨some 9, .len (.t 8), none⟩,
  ⟨some 10, .bin .lss (.t 7) (.t 9), none⟩]
abbrev r37_5 : List CO := [
  ⟨some 13, .mv (.t 0), none⟩,
  ⟨some 14, .mv (.t 4), none⟩,
  ⟨some 15, .iaddrS 1 (.t 13) (.t 14), none⟩,
  ⟨some 16, .load false 1 (.t 15), none⟩,
  ⟨some 17, .ext (.f64 false) [.t 16], none⟩,
  ⟨some 5, .mv (.t 17), none⟩]
abbrev r37_6 : List CO := [
  ⟨some 18, .mv (.t 0), none⟩,
  ⟨some 19, .mv (.t 4), none⟩,
  ⟨some 20, .iaddrS 1 (.t 18) (.t 19), none⟩,
  ⟨some 21, .load false 1 (.t 20), none⟩,
  ⟨some 22, .mv (.t 0), none⟩,
  ⟨some 23, .mv (.t 4), none⟩,
  ⟨some 24, .iaddrS 1 (.t 22) (.t 23), none⟩,
  ⟨some 25, .load false 1 (.t 24), none⟩,
  ⟨some 26, .ext (.feq true) [.t 21, .t 25], none⟩]
abbrev b37_6 : List (List Nat) := [[], [], [0, 1], [2], [], [], [4, 5], [6], [3, 7]]
abbrev r37_7 : List CO := [
  ⟨some 5, .mv (.c (.p (.s (.int .u64 9221120237041090561)))), none⟩]
abbrev r37_8 : List CO := [
  ⟨some 6, .mv (.c (.p (.s (.int .i64 0)))), none⟩]
abbrev r37_9 : List CO := [
  ⟨some 27, .mv (.t 6), none⟩,
  ⟨some 28, .bin .lss (.t 27) (.c (.p (.s (.int .i64 8)))), none⟩]
abbrev r37_11 : List CO := [
  ⟨some 31, .mv (.t 3), none⟩,
  ⟨some 32, .mv (.t 5), none⟩,
  ⟨some 33, .bin .rem (.t 32) (.c (.p (.s (.int .u64 256)))), none⟩,
  ⟨some 34, .toInt .u8 (.t 33), none⟩,
  ⟨some 35, .bslice 1 1 ([.s (.int .u8 0)]) [(0, .t 34)], none⟩,
  ⟨some 36, .append 1 1 ([.s (.int .u8 0)]) (.t 31) (.t 35), none⟩,
  ⟨some 3, .mv (.t 36), none⟩]
abbrev r37_12 : List CO := [
  ⟨some 37, .mv (.t 5), none⟩,
  ⟨some 38, .bin .quo (.t 37) (.c (.p (.s (.int .u64 256)))), none⟩,
  ⟨some 5, .mv (.t 38), none⟩]
abbrev k37_3 : CC := .seq (.reg r37_11) (.rest [0, 3, 4, 5, 6] (.reg r37_12))
abbrev r37_10 : List CO := [
  ⟨some 29, .mv (.t 6), none⟩,
  ⟨some 30, .bin .add (.t 29) (.c (.p (.s (.int .i64 1)))), none⟩,
  ⟨some 6, .mv (.t 30), none⟩]
abbrev l37_14 : CC := .seq (.seq (.reg r37_9) (.cond (.t 28) (.skip) (.exit 2))) (.seq (.block 3 k37_3) (.rest [0, 3, 4, 5, 6] (.reg r37_10)))
abbrev k37_2 : CC := .loop l37_14
abbrev k37_1 : CC := .seq (.reg r37_5) (.rest [0, 3, 4, 5] (.seq (.seq (.regd r37_6 b37_6) (.rest [0, 3, 4, 5, 26] (.cond (.t 26) (.reg r37_7) (.skip)))) (.rest [0, 3, 4, 5] (.seq (.reg r37_8) (.block 2 k37_2)))))
abbrev r37_4 : List CO := [
  ⟨some 11, .mv (.t 4), none⟩,
  ⟨some 12, .bin .add (.t 11) (.c (.p (.s (.int .i64 1)))), none⟩,
  ⟨some 4, .mv (.t 12), none⟩]
abbrev l37_18 : CC := .seq (.seq (.reg r37_3) (.rest [0, 3, 4, 10] (.cond (.t 10) (.skip) (.exit 0)))) (.rest [0, 3, 4] (.seq (.block 1 k37_1) (.rest [0, 3, 4] (.reg r37_4))))
abbrev k37_0 : CC := .loop l37_18
abbrev r37_13 : List CO := [
  ⟨some 39, .mv (.t 3), none⟩,
  ⟨some 2, .mv (.t 39), none⟩]
abbrev c37 : CC := .seq (.reg r37_0) (.seq (.reg r37_1) (.seq (.seq (.reg r37_2) (.block 0 k37_0)) (.rest [3] (.seq (.reg r37_13) (.ret)))))
theorem F37 : Fun Tryd.prog 37 40 c37 [.tmp 2] 1 := ⟨⟨Tryd.f37, _, Tryd.func37, rfl, by kernel_rfl, Tryd.ntmps37, by kernel_rfl, by kernel_rfl⟩, by decide⟩

/-- linnet/linnetref22.lays -/
abbrev r38_0 : List CO := [
  ⟨some 1, .box (.t 0), none⟩,
  ⟨some 2, .mv (.c (.p (.s (.slice none 0 0)))), none⟩]
abbrev r38_1 : List CO := [
  ⟨some 7, .faddr 0 (.t 1), none⟩,
  ⟨some 8, .load false 1 (.t 7), none⟩,
  ⟨some 9, .toInt .u8 (.t 8), none⟩,
  ⟨some 10, .bslice 1 1 ([.s (.int .u8 0)]) [(0, .t 9)], none⟩,
  ⟨some 3, .mv (.t 10), none⟩]
abbrev r38_2 : List CO := [
  ⟨some 11, .faddr 0 (.t 1), none⟩,
  ⟨some 12, .load false 1 (.t 11), none⟩]
abbrev r38_3 : List CO := [
  ⟨some 14, .bin .eql (.t 12) (.c (.p (.s (.int .i64 0)))), none⟩,
  ⟨some 13, .mv (.t 14), none⟩]
abbrev r38_4 : List CO := [
  ⟨some 15, .mv (.t 3), none⟩,
  ⟨some 16, .faddr 3 (.t 1), none⟩,
  ⟨some 17, .load false 1 (.t 16), none⟩,
  ⟨some 18, .bslice 1 1 ([.s (.int .u8 0)]) [(0, .t 17)], none⟩,
  ⟨some 19, .append 1 1 ([.s (.int .u8 0)]) (.t 15) (.t 18), none⟩,
  ⟨some 2, .mv (.t 19), none⟩]
abbrev r38_5 : List CO := [
  ⟨some 21, .bin .eql (.t 12) (.c (.p (.s (.int .i64 1)))), none⟩,
  ⟨some 20, .mv (.t 21), none⟩]
abbrev r38_6 : List CO := [
  ⟨some 22, .mv (.t 3), none⟩,
  ⟨some 23, .faddr 1 (.t 1), none⟩,
  ⟨some 24, .load false 1 (.t 23), none⟩,
  ⟨some 25, .toInt .u8 (.t 24), none⟩,
  ⟨some 26, .faddr 2 (.t 1), none⟩,
  ⟨some 27, .load false 1 (.t 26), none⟩,
  ⟨some 28, .toInt .u8 (.t 27), none⟩,
  ⟨some 29, .bslice 1 2 ([.s (.int .u8 0)]) [(0, .t 25), (1, .t 28)], none⟩,
  ⟨some 30, .append 1 1 ([.s (.int .u8 0)]) (.t 22) (.t 29), none⟩,
  ⟨some 2, .mv (.t 30), none⟩]
abbrev r38_7 : List CO := [
  ⟨some 32, .bin .eql (.t 12) (.c (.p (.s (.int .i64 2)))), none⟩,
  ⟨some 31, .mv (.t 32), none⟩]
abbrev r38_8 : List CO := [
  ⟨some 33, .mv (.t 3), none⟩,
  ⟨some 34, .faddr 1 (.t 1), none⟩,
  ⟨some 35, .load false 1 (.t 34), none⟩,
  ⟨some 36, .faddr 4 (.t 1), none⟩,
  ⟨some 37, .load false 1 (.t 36), none⟩,
  ⟨some 38, .call (.c (.fn (.func 55) [] [])) [.t 37, .c (.p (.s (.int .i64 2)))], none⟩,
  ⟨some 39, .bin .add (.t 35) (.t 38), none⟩,
  ⟨some 40, .faddr 5 (.t 1), none⟩,
  ⟨some 41, .load false 1 (.t 40), none⟩,
  ⟨some 42, .call (.c (.fn (.func 55) [] [])) [.t 41, .c (.p (.s (.int .i64 4)))], none⟩,
  ⟨some 43, .bin .add (.t 39) (.t 42), none⟩,
  ⟨some 44, .toInt .u8 (.t 43), none⟩,
  ⟨some 45, .faddr 2 (.t 1), none⟩,
  ⟨some 46, .load false 1 (.t 45), none⟩,
  ⟨some 47, .toInt .u8 (.t 46), none⟩,
  ⟨some 48, .bslice 1 2 ([.s (.int .u8 0)]) [(0, .t 44), (1, .t 47)], none⟩,
  ⟨some 49, .append 1 1 ([.s (.int .u8 0)]) (.t 33) (.t 48), none⟩,
  ⟨some 2, .mv (.t 49), none⟩]
abbrev b38_8 : List (List Nat) := [[], [], [1], [], [3], [4], [2, 5], [], [7], [8, 5], [6, 9], [10], [], [12], [13], [11, 14], [0, 15, 9], [16, 16, 0, 1, 2, 3, 4, 5, 6, 7, 8, 9, 10, 11, 12, 13, 14, 15, 16]]
abbrev r38_9 : List CO := [
  ⟨some 51, .bin .eql (.t 12) (.c (.p (.s (.int .i64 3)))), none⟩,
  ⟨some 50, .mv (.t 51), none⟩]
abbrev r38_10 : List CO := [
  ⟨some 52, .mv (.t 3), none⟩,
  ⟨some 53, .faddr 2 (.t 1), none⟩,
  ⟨some 54, .load false 1 (.t 53), none⟩,
  ⟨some 55, .toInt .u8 (.t 54), none⟩,
  ⟨some 56, .bslice 1 1 ([.s (.int .u8 0)]) [(0, .t 55)], none⟩,
  ⟨some 57, .append 1 1 ([.s (.int .u8 0)]) (.t 52) (.t 56), none⟩,
  ⟨some 2, .mv (.t 57), none⟩]
abbrev r38_11 : List CO := [
  ⟨some 59, .bin .eql (.t 12) (.c (.p (.s (.int .i64 4)))), none⟩,
  ⟨some 58, .mv (.t 59), none⟩]
abbrev r38_12 : List CO := [
  ⟨some 60, .faddr 5 (.t 1), none⟩,
  ⟨some 61, .load false 1 (.t 60), none⟩,
  ⟨some 62, .un .not (.t 61), none⟩]
abbrev r38_13 : List CO := [
  ⟨some 63, .mv (.t 3), none⟩,
  ⟨some 64, .bslice 1 1 ([.s (.int .u8 0)]) [(0, .c (.p (.s (.int .u8 0))))], none⟩,
  ⟨some 65, .append 1 1 ([.s (.int .u8 0)]) (.t 63) (.t 64), none⟩,
  ⟨some 2, .mv (.t 65), none⟩]
abbrev r38_14 : List CO := [
  ⟨some 66, .faddr 6 (.t 1), none⟩,
  ⟨some 67, .load true 32 (.t 66), none⟩,
  ⟨some 68, .call (.c (.fn (.func 56) [] [])) [.t 67], none⟩,
  ⟨some 4, .mv (.t 68), none⟩]
abbrev r38_15 : List CO := [
  ⟨some 69, .mv (.t 3), none⟩,
  ⟨some 70, .mv (.t 4), none⟩,
  ⟨some 71, .len (.t 70), none⟩,
  ⟨some 72, .toInt .u8 (.t 71), none⟩,
  ⟨some 73, .bslice 1 2 ([.s (.int .u8 0)]) [(0, .c (.p (.s (.int .u8 1)))), (1, .t 72)], none⟩,
  ⟨some 74, .append 1 1 ([.s (.int .u8 0)]) (.t 69) (.t 73), none⟩,
  ⟨some 75, .mv (.t 4), none⟩,
  ⟨some 76, .append 1 1 ([.s (.int .u8 0)]) (.t 74) (.t 75), none⟩,
  ⟨some 2, .mv (.t 76), none⟩]
abbrev r38_16 : List CO := [
  ⟨some 78, .bin .eql (.t 12) (.c (.p (.s (.int .i64 5)))), none⟩,
  ⟨some 77, .mv (.t 78), none⟩]
abbrev r38_17 : List CO := [
  ⟨some 80, .faddr 38 (.t 1), none⟩,
  ⟨some 81, .load true 6 (.t 80), none⟩,
  ⟨some 82, .bslice 6 1 ([.s (.int .i64 0), .s (.int .i64 0), .s (.bool false), .s (.bool false), .s (.bool false), .s (.int .u8 0)]) [(0, .t 81)], none⟩,
  ⟨some 83, .call (.c (.fn (.func 57) [] [])) [.t 82], none⟩,
  ⟨some 79, .mv (.t 83), none⟩,
  ⟨some 84, .extract 0 (.t 79), none⟩,
  ⟨some 85, .extract 1 (.t 79), none⟩,
  ⟨some 5, .mv (.t 84), none⟩,
  ⟨some 6, .mv (.t 85), none⟩]
abbrev r38_18 : List CO := [
  ⟨some 86, .mv (.t 3), none⟩,
  ⟨some 87, .faddr 1 (.t 1), none⟩,
  ⟨some 88, .load false 1 (.t 87), none⟩,
  ⟨some 89, .toInt .u8 (.t 88), none⟩,
  ⟨some 90, .bslice 1 1 ([.s (.int .u8 0)]) [(0, .t 89)], none⟩,
  ⟨some 91, .append 1 1 ([.s (.int .u8 0)]) (.t 86) (.t 90), none⟩,
  ⟨some 92, .mv (.t 5), none⟩,
  ⟨some 93, .append 1 1 ([.s (.int .u8 0)]) (.t 91) (.t 92), none⟩,
  ⟨some 2, .mv (.t 93), none⟩]
abbrev r38_19 : List CO := [
  ⟨some 95, .bin .eql (.t 12) (.c (.p (.s (.int .i64 6)))), none⟩,
  ⟨some 94, .mv (.t 95), none⟩]
abbrev r38_20 : List CO := [
  ⟨some 96, .mv (.t 3), none⟩,
  ⟨some 97, .faddr 44 (.t 1), none⟩,
  ⟨some 98, .load false 1 (.t 97), none⟩,
  ⟨some 99, .len (.t 98), none⟩,
  ⟨some 100, .toInt .u8 (.t 99), none⟩,
  ⟨some 101, .bslice 1 1 ([.s (.int .u8 0)]) [(0, .t 100)], none⟩,
  ⟨some 102, .append 1 1 ([.s (.int .u8 0)]) (.t 96) (.t 101), none⟩,
  ⟨some 103, .faddr 44 (.t 1), none⟩,
  ⟨some 104, .load false 1 (.t 103), none⟩,
  ⟨some 105, .append 1 1 ([.s (.int .u8 0)]) (.t 102) (.t 104), none⟩,
  ⟨some 2, .mv (.t 105), none⟩]
abbrev b38_20 : List (List Nat) := [[], [], [1], [2], [3], [4], [0, 5], [], [7], [6, 8, 6], [9, 9, 0, 1, 2, 3, 4, 5, 6, 7, 8, 9]]
abbrev k38_0 : CC := .seq (.reg r38_3) (.cond (.t 13) (.seq (.reg r38_4) (.rest [2] (.ret))) (.seq (.reg r38_5) (.cond (.t 20) (.seq (.reg r38_6) (.rest [2] (.ret))) (.seq (.reg r38_7) (.cond (.t 31) (.seq (.regd r38_8 b38_8) (.rest [2] (.ret))) (.seq (.reg r38_9) (.cond (.t 50) (.seq (.reg r38_10) (.rest [2] (.ret))) (.seq (.reg r38_11) (.cond (.t 58) (.seq (.seq (.reg r38_12) (.cond (.t 62) (.seq (.reg r38_13) (.rest [2] (.ret))) (.skip))) (.rest [1, 3] (.seq (.reg r38_14) (.rest [3, 4] (.seq (.reg r38_15) (.rest [2] (.ret))))))) (.seq (.reg r38_16) (.cond (.t 77) (.seq (.reg r38_17) (.rest [1, 3, 5] (.seq (.reg r38_18) (.rest [2] (.ret))))) (.seq (.reg r38_19) (.cond (.t 94) (.seq (.regd r38_20 b38_20) (.rest [2] (.ret))) (.skip))))))))))))))
abbrev r38_21 : List CO := [
  ⟨some 106, .mv (.t 3), none⟩,
  ⟨some 107, .faddr 2 (.t 1), none⟩,
  ⟨some 108, .load false 1 (.t 107), none⟩,
  ⟨some 109, .toInt .u8 (.t 108), none⟩,
  ⟨some 110, .bslice 1 1 ([.s (.int .u8 0)]) [(0, .t 109)], none⟩,
  ⟨some 111, .append 1 1 ([.s (.int .u8 0)]) (.t 106) (.t 110), none⟩,
  ⟨some 112, .faddr 45 (.t 1), none⟩,
  ⟨some 113, .ext (.mslice 1 4 false false) [.t 112], none⟩,
  ⟨some 114, .call (.c (.fn (.func 37) [] [])) [.t 113], none⟩,
  ⟨some 115, .append 1 1 ([.s (.int .u8 0)]) (.t 111) (.t 114), none⟩,
  ⟨some 3, .mv (.t 115), none⟩]
abbrev b38_21 : List (List Nat) := [[], [], [1], [2], [3], [0, 4], [], [6], [7, 5], [5, 8, 8], [9, 9, 0, 1, 2, 3, 4, 5, 6, 7, 8, 9]]
abbrev r38_22 : List CO := [
  ⟨some 116, .mv (.t 3), none⟩,
  ⟨some 117, .faddr 49 (.t 1), none⟩,
  ⟨some 118, .load false 1 (.t 117), none⟩,
  ⟨some 119, .call (.c (.fn (.func 58) [] [])) [.t 118], none⟩,
  ⟨some 120, .append 1 1 ([.s (.int .u8 0)]) (.t 116) (.t 119), none⟩,
  ⟨some 2, .mv (.t 120), none⟩]
abbrev c38 : CC := .seq (.reg r38_0) (.seq (.reg r38_1) (.rest [1, 3] (.seq (.seq (.reg r38_2) (.block 0 k38_0)) (.rest [1, 3] (.seq (.regd r38_21 b38_21) (.rest [1, 3] (.seq (.reg r38_22) (.rest [2] (.ret)))))))))
theorem F38 : Fun Tryd.prog 38 121 c38 [.tmp 2] 1 := ⟨⟨Tryd.f38, _, Tryd.func38, rfl, by kernel_rfl, Tryd.ntmps38, by kernel_rfl, by kernel_rfl⟩, by decide⟩

/-- linnet/linnetref22.long -/
abbrev r39_0 : List CO := [
  ⟨some 2, .mv (.c (.p (.s (.int .i64 0)))), none⟩]
abbrev r39_1 : List CO := [
  ⟨some 4, .build (List.replicate 8 (.s (.int .i64 0))) [(0, 1, .c (.p (.s (.int .i64 2)))), (1, 1, .c (.p (.s (.int .i64 3)))), (2, 1, .c (.p (.s (.int .i64 3)))), (3, 1, .c (.p (.s (.int .i64 2)))), (4, 1, .c (.p (.s (.int .i64 0)))), (5, 1, .c (.p (.s (.int .i64 5)))), (6, 1, .c (.p (.s (.int .i64 0)))), (7, 1, .c (.p (.s (.int .i64 42))))], none⟩,
  ⟨some 3, .alloc (List.replicate 8 (.s (.int .i64 0))), none⟩,
  ⟨none, .store 8 (.t 3) (.t 4), none⟩]
abbrev r39_2 : List CO := [
  ⟨some 5, .mv (.t 0), none⟩,
  ⟨some 6, .len (.t 5), none⟩,
  ⟨some 7, .bin .eql (.t 6) (.c (.p (.s (.int .i64 0)))), none⟩,
  ⟨some 8, .mv (.t 7), none⟩,
  ⟨some 9, .mv (.t 0), some (8, false)⟩,
  ⟨some 10, .iaddrS 1 (.t 9) (.c (.p (.s (.int .i64 0)))), some (8, false)⟩,
  ⟨some 11, .load false 1 (.t 10), some (8, false)⟩,
  ⟨some 12, .bin .gtr (.t 11) (.c (.p (.s (.int .u8 7)))), some (8, false)⟩,
  ⟨some 13, .pick (.t 8) (.c (.p (.s (.bool true)))) (.t 12), none⟩]
abbrev r39_3 : List CO := [
  ⟨some 2, .mv (.c (.p (.s (.int .i64 0)))), none⟩]
abbrev r39_4 : List CO := [
  ⟨some 14, .mv (.t 0), none⟩,
  ⟨some 15, .iaddrS 1 (.t 14) (.c (.p (.s (.int .i64 0)))), none⟩,
  ⟨some 16, .load false 1 (.t 15), none⟩,
  ⟨some 17, .bin .eql (.t 16) (.c (.p (.s (.int .u8 4)))), none⟩,
  ⟨some 18, .mv (.t 17), none⟩,
  ⟨some 19, .mv (.t 0), some (18, true)⟩,
  ⟨some 20, .len (.t 19), some (18, true)⟩,
  ⟨some 21, .bin .gtr (.t 20) (.c (.p (.s (.int .i64 1)))), some (18, true)⟩,
  ⟨some 22, .pick (.t 18) (.t 21) (.c (.p (.s (.bool false)))), none⟩,
  ⟨some 23, .mv (.t 22), none⟩,
  ⟨some 24, .mv (.t 0), some (23, true)⟩,
  ⟨some 25, .iaddrS 1 (.t 24) (.c (.p (.s (.int .i64 1)))), some (23, true)⟩,
  ⟨some 26, .load false 1 (.t 25), some (23, true)⟩,
  ⟨some 27, .bin .eql (.t 26) (.c (.p (.s (.int .u8 0)))), some (23, true)⟩,
  ⟨some 28, .pick (.t 23) (.t 27) (.c (.p (.s (.bool false)))), none⟩]
abbrev r39_5 : List CO := [
  ⟨some 2, .mv (.c (.p (.s (.int .i64 2)))), none⟩]
abbrev r39_6 : List CO := [
  ⟨some 29, .mv (.t 0), none⟩,
  ⟨some 30, .iaddrS 1 (.t 29) (.c (.p (.s (.int .i64 0)))), none⟩,
  ⟨some 31, .load false 1 (.t 30), none⟩,
  ⟨some 32, .bin .eql (.t 31) (.c (.p (.s (.int .u8 4)))), none⟩,
  ⟨some 33, .mv (.t 32), none⟩,
  ⟨some 34, .mv (.t 0), some (33, true)⟩,
  ⟨some 35, .len (.t 34), some (33, true)⟩,
  ⟨some 36, .bin .gtr (.t 35) (.c (.p (.s (.int .i64 2)))), some (33, true)⟩,
  ⟨some 37, .pick (.t 33) (.t 36) (.c (.p (.s (.bool false)))), none⟩,
  ⟨some 38, .mv (.t 37), none⟩,
  ⟨some 39, .mv (.t 0), some (38, true)⟩,
  ⟨some 40, .iaddrS 1 (.t 39) (.c (.p (.s (.int .i64 1)))), some (38, true)⟩,
  ⟨some 41, .load false 1 (.t 40), some (38, true)⟩,
  ⟨some 42, .bin .eql (.t 41) (.c (.p (.s (.int .u8 1)))), some (38, true)⟩,
  ⟨some 43, .pick (.t 38) (.t 42) (.c (.p (.s (.bool false)))), none⟩]
abbrev r39_7 : List CO := [
  ⟨some 44, .mv (.t 0), none⟩,
  ⟨some 45, .iaddrS 1 (.t 44) (.c (.p (.s (.int .i64 2)))), none⟩,
  ⟨some 46, .load false 1 (.t 45), none⟩,
  ⟨some 47, .toInt .i64 (.t 46), none⟩,
  ⟨some 48, .bin .add (.c (.p (.s (.int .i64 3)))) (.t 47), none⟩,
  ⟨some 2, .mv (.t 48), none⟩]
abbrev r39_8 : List CO := [
  ⟨some 49, .mv (.t 0), none⟩,
  ⟨some 50, .iaddrS 1 (.t 49) (.c (.p (.s (.int .i64 0)))), none⟩,
  ⟨some 51, .load false 1 (.t 50), none⟩,
  ⟨some 52, .bin .eql (.t 51) (.c (.p (.s (.int .u8 6)))), none⟩,
  ⟨some 53, .mv (.t 52), none⟩,
  ⟨some 54, .mv (.t 0), some (53, true)⟩,
  ⟨some 55, .len (.t 54), some (53, true)⟩,
  ⟨some 56, .bin .gtr (.t 55) (.c (.p (.s (.int .i64 1)))), some (53, true)⟩,
  ⟨some 57, .pick (.t 53) (.t 56) (.c (.p (.s (.bool false)))), none⟩]
abbrev r39_9 : List CO := [
  ⟨some 58, .mv (.t 0), none⟩,
  ⟨some 59, .iaddrS 1 (.t 58) (.c (.p (.s (.int .i64 1)))), none⟩,
  ⟨some 60, .load false 1 (.t 59), none⟩,
  ⟨some 61, .toInt .i64 (.t 60), none⟩,
  ⟨some 62, .bin .add (.c (.p (.s (.int .i64 2)))) (.t 61), none⟩,
  ⟨some 2, .mv (.t 62), none⟩]
abbrev r39_10 : List CO := [
  ⟨some 63, .mv (.t 0), none⟩,
  ⟨some 64, .iaddrS 1 (.t 63) (.c (.p (.s (.int .i64 0)))), none⟩,
  ⟨some 65, .load false 1 (.t 64), none⟩,
  ⟨some 66, .iaddrA 1 8 (.t 3) (.t 65), none⟩,
  ⟨some 67, .load false 1 (.t 66), none⟩,
  ⟨some 2, .mv (.t 67), none⟩]
abbrev c39 : CC := .seq (.reg r39_0) (.seq (.reg r39_1) (.seq (.seq (.reg r39_2) (.rest [0, 3, 13] (.cond (.t 13) (.seq (.reg r39_3) (.ret)) (.skip)))) (.rest [0, 3] (.seq (.seq (.reg r39_4) (.rest [0, 3, 28] (.cond (.t 28) (.seq (.reg r39_5) (.ret)) (.skip)))) (.rest [0, 3] (.seq (.seq (.reg r39_6) (.rest [0, 3, 43] (.cond (.t 43) (.seq (.reg r39_7) (.rest [2] (.ret))) (.skip)))) (.rest [0, 3] (.seq (.seq (.reg r39_8) (.rest [0, 3, 57] (.cond (.t 57) (.seq (.reg r39_9) (.rest [2] (.ret))) (.skip)))) (.rest [0, 3] (.seq (.reg r39_10) (.rest [2] (.ret))))))))))))
theorem F39 : Fun Tryd.prog 39 68 c39 [.tmp 2] 1 := ⟨⟨Tryd.f39, _, Tryd.func39, rfl, by kernel_rfl, Tryd.ntmps39, by kernel_rfl, by kernel_rfl⟩, by decide⟩

/-- linnet/linnetref22.of -/
abbrev r40_0 : List CO := [
  ⟨some 2, .alloc (tz50), none⟩]
abbrev r40_1 : List CO := [
  ⟨some 10, .mv (.t 0), none⟩,
  ⟨some 11, .iaddrS 1 (.t 10) (.c (.p (.s (.int .i64 0)))), none⟩,
  ⟨some 12, .load false 1 (.t 11), none⟩,
  ⟨some 13, .toInt .i64 (.t 12), none⟩,
  ⟨some 14, .build (tz50) [(0, 1, .t 13)], none⟩,
  ⟨some 3, .alloc (tz50), none⟩,
  ⟨none, .store 50 (.t 3) (.t 14), none⟩]
abbrev r40_2 : List CO := [
  ⟨some 15, .faddr 0 (.t 3), none⟩,
  ⟨some 16, .load false 1 (.t 15), none⟩]
abbrev r40_3 : List CO := [
  ⟨some 18, .bin .eql (.t 16) (.c (.p (.s (.int .i64 0)))), none⟩,
  ⟨some 17, .mv (.t 18), none⟩]
abbrev r40_4 : List CO := [
  ⟨some 19, .mv (.t 0), none⟩,
  ⟨some 20, .iaddrS 1 (.t 19) (.c (.p (.s (.int .i64 1)))), none⟩,
  ⟨some 21, .load false 1 (.t 20), none⟩,
  ⟨some 22, .faddr 3 (.t 3), none⟩,
  ⟨none, .store 1 (.t 22) (.t 21), none⟩]
abbrev r40_5 : List CO := [
  ⟨some 24, .bin .eql (.t 16) (.c (.p (.s (.int .i64 1)))), none⟩,
  ⟨some 23, .mv (.t 24), none⟩]
abbrev r40_6 : List CO := [
  ⟨some 25, .mv (.t 0), none⟩,
  ⟨some 26, .iaddrS 1 (.t 25) (.c (.p (.s (.int .i64 1)))), none⟩,
  ⟨some 27, .load false 1 (.t 26), none⟩,
  ⟨some 28, .toInt .i64 (.t 27), none⟩,
  ⟨some 29, .mv (.t 0), none⟩,
  ⟨some 30, .iaddrS 1 (.t 29) (.c (.p (.s (.int .i64 2)))), none⟩,
  ⟨some 31, .load false 1 (.t 30), none⟩,
  ⟨some 32, .toInt .i64 (.t 31), none⟩,
  ⟨some 33, .faddr 1 (.t 3), none⟩,
  ⟨none, .store 1 (.t 33) (.t 28), none⟩,
  ⟨some 34, .faddr 2 (.t 3), none⟩,
  ⟨none, .store 1 (.t 34) (.t 32), none⟩]
abbrev b40_6 : List (List Nat) := [[], [0], [1], [2], [], [4], [5], [6], [0, 1, 2, 3], [8, 3, 0, 1, 2, 3], [0, 1, 2, 3, 4, 5, 6, 7, 8, 9], [10, 7, 9, 0, 1, 2, 3, 4, 5, 6, 7, 8, 9]]
abbrev r40_7 : List CO := [
  ⟨some 36, .bin .eql (.t 16) (.c (.p (.s (.int .i64 2)))), none⟩,
  ⟨some 35, .mv (.t 36), none⟩]
abbrev r40_8 : List CO := [
  ⟨some 37, .mv (.t 0), none⟩,
  ⟨some 38, .iaddrS 1 (.t 37) (.c (.p (.s (.int .i64 1)))), none⟩,
  ⟨some 39, .load false 1 (.t 38), none⟩,
  ⟨some 40, .toInt .i64 (.t 39), none⟩,
  ⟨some 41, .bin .rem (.t 40) (.c (.p (.s (.int .i64 2)))), none⟩,
  ⟨some 42, .mv (.t 0), none⟩,
  ⟨some 43, .iaddrS 1 (.t 42) (.c (.p (.s (.int .i64 2)))), none⟩,
  ⟨some 44, .load false 1 (.t 43), none⟩,
  ⟨some 45, .toInt .i64 (.t 44), none⟩,
  ⟨some 46, .mv (.t 0), none⟩,
  ⟨some 47, .iaddrS 1 (.t 46) (.c (.p (.s (.int .i64 1)))), none⟩,
  ⟨some 48, .load false 1 (.t 47), none⟩,
  ⟨some 49, .bin .quo (.t 48) (.c (.p (.s (.int .u8 2)))), none⟩,
  ⟨some 50, .bin .rem (.t 49) (.c (.p (.s (.int .u8 2)))), none⟩,
  ⟨some 51, .bin .eql (.t 50) (.c (.p (.s (.int .u8 1)))), none⟩,
  ⟨some 52, .mv (.t 0), none⟩,
  ⟨some 53, .iaddrS 1 (.t 52) (.c (.p (.s (.int .i64 1)))), none⟩,
  ⟨some 54, .load false 1 (.t 53), none⟩,
  ⟨some 55, .bin .quo (.t 54) (.c (.p (.s (.int .u8 4)))), none⟩,
  ⟨some 56, .bin .rem (.t 55) (.c (.p (.s (.int .u8 2)))), none⟩,
  ⟨some 57, .bin .eql (.t 56) (.c (.p (.s (.int .u8 1)))), none⟩,
  ⟨some 58, .faddr 1 (.t 3), none⟩,
  ⟨none, .store 1 (.t 58) (.t 41), none⟩,
  ⟨some 59, .faddr 2 (.t 3), none⟩,
  ⟨none, .store 1 (.t 59) (.t 45), none⟩,
  ⟨some 60, .faddr 4 (.t 3), none⟩,
  ⟨none, .store 1 (.t 60) (.t 51), none⟩,
  ⟨some 61, .faddr 5 (.t 3), none⟩,
  ⟨none, .store 1 (.t 61) (.t 57), none⟩]
abbrev b40_8 : List (List Nat) := [[], [0], [1], [2], [3], [], [5], [6], [7], [], [9], [10], [11], [12], [13], [], [15], [16], [17], [18], [19], [0, 1, 2, 3, 4], [21, 4, 0, 1, 2, 3, 4], [0, 1, 2, 3, 4, 5, 6, 7, 8, 21, 22], [23, 8, 22, 0, 1, 2, 3, 4, 5, 6, 7, 8, 21, 22], [0, 1, 2, 3, 4, 5, 6, 7, 8, 9, 10, 11, 12, 13, 14, 21, 22, 23, 24], [25, 14, 24, 0, 1, 2, 3, 4, 5, 6, 7, 8, 9, 10, 11, 12, 13, 14, 21, 22, 23, 24], [0, 1, 2, 3, 4, 5, 6, 7, 8, 9, 10, 11, 12, 13, 14, 15, 16, 17, 18, 19, 20, 21, 22, 23, 24, 25, 26], [27, 20, 26, 0, 1, 2, 3, 4, 5, 6, 7, 8, 9, 10, 11, 12, 13, 14, 15, 16, 17, 18, 19, 20, 21, 22, 23, 24, 25, 26]]
abbrev r40_9 : List CO := [
  ⟨some 63, .bin .eql (.t 16) (.c (.p (.s (.int .i64 3)))), none⟩,
  ⟨some 62, .mv (.t 63), none⟩]
abbrev r40_10 : List CO := [
  ⟨some 64, .mv (.t 0), none⟩,
  ⟨some 65, .iaddrS 1 (.t 64) (.c (.p (.s (.int .i64 1)))), none⟩,
  ⟨some 66, .load false 1 (.t 65), none⟩,
  ⟨some 67, .toInt .i64 (.t 66), none⟩,
  ⟨some 68, .faddr 2 (.t 3), none⟩,
  ⟨none, .store 1 (.t 68) (.t 67), none⟩]
abbrev r40_11 : List CO := [
  ⟨some 70, .bin .eql (.t 16) (.c (.p (.s (.int .i64 4)))), none⟩,
  ⟨some 69, .mv (.t 70), none⟩]
abbrev r40_12 : List CO := [
  ⟨some 71, .mv (.t 0), none⟩,
  ⟨some 72, .iaddrS 1 (.t 71) (.c (.p (.s (.int .i64 1)))), none⟩,
  ⟨some 73, .load false 1 (.t 72), none⟩,
  ⟨some 74, .bin .eql (.t 73) (.c (.p (.s (.int .u8 1)))), none⟩,
  ⟨some 75, .faddr 5 (.t 3), none⟩,
  ⟨none, .store 1 (.t 75) (.t 74), none⟩]
abbrev r40_13 : List CO := [
  ⟨some 76, .faddr 5 (.t 3), none⟩,
  ⟨some 77, .load false 1 (.t 76), none⟩]
abbrev r40_14 : List CO := [
  ⟨some 79, .mv (.t 0), none⟩,
  ⟨some 80, .slice 1 (.t 79) (some (.c (.p (.s (.int .i64 3))))) none, none⟩,
  ⟨some 81, .call (.c (.fn (.func 59) [] [])) [.t 80], none⟩,
  ⟨some 78, .mv (.t 81), none⟩,
  ⟨some 82, .extract 0 (.t 78), none⟩,
  ⟨some 83, .extract 1 (.t 78), none⟩,
  ⟨some 84, .faddr 6 (.t 3), none⟩,
  ⟨none, .store 32 (.t 84) (.t 82), none⟩]
abbrev r40_15 : List CO := [
  ⟨some 86, .bin .eql (.t 16) (.c (.p (.s (.int .i64 5)))), none⟩,
  ⟨some 85, .mv (.t 86), none⟩]
abbrev r40_16 : List CO := [
  ⟨some 88, .mv (.t 0), none⟩,
  ⟨some 89, .slice 1 (.t 88) (some (.c (.p (.s (.int .i64 2))))) none, none⟩,
  ⟨some 90, .call (.c (.fn (.func 60) [] [])) [.t 89], none⟩,
  ⟨some 87, .mv (.t 90), none⟩,
  ⟨some 91, .extract 0 (.t 87), none⟩,
  ⟨some 92, .extract 1 (.t 87), none⟩,
  ⟨some 4, .mv (.t 91), none⟩,
  ⟨some 5, .mv (.t 92), none⟩]
abbrev r40_17 : List CO := [
  ⟨some 93, .mv (.t 0), none⟩,
  ⟨some 94, .iaddrS 1 (.t 93) (.c (.p (.s (.int .i64 1)))), none⟩,
  ⟨some 95, .load false 1 (.t 94), none⟩,
  ⟨some 96, .toInt .i64 (.t 95), none⟩,
  ⟨some 97, .faddr 1 (.t 3), none⟩,
  ⟨none, .store 1 (.t 97) (.t 96), none⟩]
abbrev r40_18 : List CO := [
  ⟨some 98, .mv (.t 5), none⟩]
abbrev r40_19 : List CO := [
  ⟨some 99, .mv (.t 4), none⟩,
  ⟨some 100, .iaddrS 6 (.t 99) (.c (.p (.s (.int .i64 0)))), none⟩,
  ⟨some 101, .load true 6 (.t 100), none⟩,
  ⟨some 102, .faddr 38 (.t 3), none⟩,
  ⟨none, .store 6 (.t 102) (.t 101), none⟩]
abbrev r40_20 : List CO := [
  ⟨some 104, .bin .eql (.t 16) (.c (.p (.s (.int .i64 6)))), none⟩,
  ⟨some 103, .mv (.t 104), none⟩]
abbrev r40_21 : List CO := [
  ⟨some 105, .mv (.t 0), none⟩,
  ⟨some 106, .slice 1 (.t 105) (some (.c (.p (.s (.int .i64 2))))) none, none⟩,
  ⟨some 107, .faddr 44 (.t 3), none⟩,
  ⟨none, .store 1 (.t 107) (.t 106), none⟩]
abbrev r40_22 : List CO := [
  ⟨some 109, .bin .eql (.t 16) (.c (.p (.s (.int .i64 7)))), none⟩,
  ⟨some 108, .mv (.t 109), none⟩]
abbrev r40_23 : List CO := [
  ⟨some 111, .mv (.t 0), none⟩,
  ⟨some 112, .slice 1 (.t 111) (some (.c (.p (.s (.int .i64 2))))) (some (.c (.p (.s (.int .i64 34))))), none⟩,
  ⟨some 113, .call (.c (.fn (.func 36) [] [])) [.t 112], none⟩,
  ⟨some 110, .mv (.t 113), none⟩,
  ⟨some 114, .extract 0 (.t 110), none⟩,
  ⟨some 115, .extract 1 (.t 110), none⟩,
  ⟨some 6, .mv (.t 114), none⟩,
  ⟨some 7, .mv (.t 115), none⟩]
abbrev r40_24 : List CO := [
  ⟨some 8, .mv (.c (.p (.s (.int .i64 0)))), none⟩]
abbrev r40_25 : List CO := [
  ⟨some 116, .mv (.t 8), none⟩,
  ⟨some 117, .bin .lss (.t 116) (.c (.p (.s (.int .i64 4)))), none⟩]
abbrev r40_27 : List CO := [
  ⟨some 120, .mv (.t 8), none⟩,
  ⟨some 121, .mv (.t 6), none⟩,
  ⟨some 122, .mv (.t 8), none⟩,
  ⟨some 123, .iaddrS 1 (.t 121) (.t 122), none⟩,
  ⟨some 124, .load false 1 (.t 123), none⟩,
  ⟨some 125, .faddr 45 (.t 3), none⟩,
  ⟨some 126, .iaddrA 1 4 (.t 125) (.t 120), none⟩,
  ⟨none, .store 1 (.t 126) (.t 124), none⟩]
abbrev k40_2 : CC := .reg r40_27
abbrev r40_26 : List CO := [
  ⟨some 118, .mv (.t 8), none⟩,
  ⟨some 119, .bin .add (.t 118) (.c (.p (.s (.int .i64 1)))), none⟩,
  ⟨some 8, .mv (.t 119), none⟩]
abbrev l40_31 : CC := .seq (.seq (.reg r40_25) (.cond (.t 117) (.skip) (.exit 1))) (.seq (.block 2 k40_2) (.rest [0, 2, 3, 6, 8] (.reg r40_26)))
abbrev k40_1 : CC := .loop l40_31
abbrev r40_28 : List CO := [
  ⟨some 127, .mv (.t 0), none⟩,
  ⟨some 128, .iaddrS 1 (.t 127) (.c (.p (.s (.int .i64 1)))), none⟩,
  ⟨some 129, .load false 1 (.t 128), none⟩,
  ⟨some 130, .toInt .i64 (.t 129), none⟩,
  ⟨some 131, .faddr 2 (.t 3), none⟩,
  ⟨none, .store 1 (.t 131) (.t 130), none⟩]
abbrev r40_29 : List CO := [
  ⟨some 9, .mv (.c (.p (.s (.int .i64 41)))), none⟩]
abbrev r40_30 : List CO := [
  ⟨some 132, .mv (.t 9), none⟩,
  ⟨some 133, .bin .geq (.t 132) (.c (.p (.s (.int .i64 34)))), none⟩]
abbrev r40_32 : List CO := [
  ⟨some 136, .faddr 49 (.t 3), none⟩,
  ⟨some 137, .load false 1 (.t 136), none⟩,
  ⟨some 138, .bin .mul (.c (.p (.s (.int .u64 256)))) (.t 137), none⟩,
  ⟨some 139, .mv (.t 0), none⟩,
  ⟨some 140, .mv (.t 9), none⟩,
  ⟨some 141, .iaddrS 1 (.t 139) (.t 140), none⟩,
  ⟨some 142, .load false 1 (.t 141), none⟩,
  ⟨some 143, .toInt .u64 (.t 142), none⟩,
  ⟨some 144, .bin .add (.t 138) (.t 143), none⟩,
  ⟨some 145, .faddr 49 (.t 3), none⟩,
  ⟨none, .store 1 (.t 145) (.t 144), none⟩]
abbrev b40_32 : List (List Nat) := [[], [0], [1], [], [], [3, 4], [5], [6], [2, 7], [0, 1, 2, 3, 4, 5, 6, 7, 8], [9, 8, 0, 1, 2, 3, 4, 5, 6, 7, 8]]
abbrev k40_4 : CC := .regd r40_32 b40_32
abbrev r40_31 : List CO := [
  ⟨some 134, .mv (.t 9), none⟩,
  ⟨some 135, .bin .sub (.t 134) (.c (.p (.s (.int .i64 1)))), none⟩,
  ⟨some 9, .mv (.t 135), none⟩]
abbrev l40_40 : CC := .seq (.seq (.reg r40_30) (.cond (.t 133) (.skip) (.exit 3))) (.seq (.block 4 k40_4) (.rest [0, 2, 3, 9] (.reg r40_31)))
abbrev k40_3 : CC := .loop l40_40
abbrev k40_0 : CC := .seq (.reg r40_3) (.cond (.t 17) (.reg r40_4) (.seq (.reg r40_5) (.cond (.t 23) (.regd r40_6 b40_6) (.seq (.reg r40_7) (.cond (.t 35) (.regd r40_8 b40_8) (.seq (.reg r40_9) (.cond (.t 62) (.reg r40_10) (.seq (.reg r40_11) (.cond (.t 69) (.seq (.reg r40_12) (.rest [0, 2, 3] (.seq (.reg r40_13) (.cond (.t 77) (.reg r40_14) (.skip))))) (.seq (.reg r40_15) (.cond (.t 85) (.seq (.reg r40_16) (.rest [0, 2, 3, 4, 5] (.seq (.reg r40_17) (.rest [2, 3, 4, 5] (.seq (.reg r40_18) (.cond (.t 98) (.reg r40_19) (.skip))))))) (.seq (.reg r40_20) (.cond (.t 103) (.reg r40_21) (.seq (.reg r40_22) (.cond (.t 108) (.seq (.reg r40_23) (.rest [0, 2, 3, 6] (.seq (.seq (.reg r40_24) (.block 1 k40_1)) (.rest [0, 2, 3] (.seq (.reg r40_28) (.rest [0, 2, 3] (.seq (.reg r40_29) (.block 3 k40_3)))))))) (.skip))))))))))))))))
abbrev r40_33 : List CO := [
  ⟨some 146, .load true 50 (.t 3), none⟩,
  ⟨none, .store 50 (.t 2) (.t 146), none⟩]
abbrev c40 : CC := .seq (.reg r40_0) (.seq (.reg r40_1) (.rest [0, 2, 3] (.seq (.seq (.reg r40_2) (.block 0 k40_0)) (.rest [2, 3] (.seq (.reg r40_33) (.ret))))))
theorem F40 : Fun Tryd.prog 40 147 c40 [.cell 2 true 50] 1 := ⟨⟨Tryd.f40, _, Tryd.func40, rfl, by kernel_rfl, Tryd.ntmps40, by kernel_rfl, by kernel_rfl⟩, by decide⟩

/-- linnet/script.keys -/
abbrev r41_0 : List CO := [
  ⟨some 0, .alloc ([.s (.nilFunc), .s (.nilFunc)]), none⟩]
abbrev r41_1 : List CO := [
  ⟨some 1, .build ([.s (.nilFunc), .s (.nilFunc)]) [(0, 1, .c (.fn (.func 61) [] [])), (1, 1, .c (.fn (.func 63) [] []))], none⟩,
  ⟨none, .store 2 (.t 0) (.t 1), none⟩]
abbrev c41 : CC := .seq (.reg r41_0) (.seq (.reg r41_1) (.ret))
theorem F41 : Fun Tryd.prog 41 2 c41 [.cell 0 true 2] 0 := ⟨⟨Tryd.f41, _, Tryd.func41, rfl, by kernel_rfl, Tryd.ntmps41, by kernel_rfl, by kernel_rfl⟩, by decide⟩

/-- linnet/script.moves -/
abbrev r42_0 : List CO := [
  ⟨some 0, .alloc ([.s (.nilFunc), .s (.nilFunc)]), none⟩]
abbrev r42_1 : List CO := [
  ⟨some 1, .build ([.s (.nilFunc), .s (.nilFunc)]) [(0, 1, .c (.fn (.func 64) [] [])), (1, 1, .c (.fn (.func 65) [] []))], none⟩,
  ⟨none, .store 2 (.t 0) (.t 1), none⟩]
abbrev c42 : CC := .seq (.reg r42_0) (.seq (.reg r42_1) (.ret))
theorem F42 : Fun Tryd.prog 42 2 c42 [.cell 0 true 2] 0 := ⟨⟨Tryd.f42, _, Tryd.func42, rfl, by kernel_rfl, Tryd.ntmps42, by kernel_rfl, by kernel_rfl⟩, by decide⟩

/-- linnet/script.asks -/
abbrev r43_0 : List CO := [
  ⟨some 0, .alloc ([.s (.nilFunc), .s (.nilFunc)]), none⟩]
abbrev r43_1 : List CO := [
  ⟨some 1, .build ([.s (.nilFunc), .s (.nilFunc)]) [(0, 1, .c (.fn (.func 66) [] [])), (1, 1, .c (.fn (.func 68) [] []))], none⟩,
  ⟨none, .store 2 (.t 0) (.t 1), none⟩]
abbrev c43 : CC := .seq (.reg r43_0) (.seq (.reg r43_1) (.ret))
theorem F43 : Fun Tryd.prog 43 2 c43 [.cell 0 true 2] 0 := ⟨⟨Tryd.f43, _, Tryd.func43, rfl, by kernel_rfl, Tryd.ntmps43, by kernel_rfl, by kernel_rfl⟩, by decide⟩

/-- linnet/script.modes -/
abbrev r44_0 : List CO := [
  ⟨some 0, .alloc ([.s (.nilFunc), .s (.nilFunc)]), none⟩]
abbrev r44_1 : List CO := [
  ⟨some 1, .build ([.s (.nilFunc), .s (.nilFunc)]) [(0, 1, .c (.fn (.func 70) [] [])), (1, 1, .c (.fn (.func 71) [] []))], none⟩,
  ⟨none, .store 2 (.t 0) (.t 1), none⟩]
abbrev c44 : CC := .seq (.reg r44_0) (.seq (.reg r44_1) (.ret))
theorem F44 : Fun Tryd.prog 44 2 c44 [.cell 0 true 2] 0 := ⟨⟨Tryd.f44, _, Tryd.func44, rfl, by kernel_rfl, Tryd.ntmps44, by kernel_rfl, by kernel_rfl⟩, by decide⟩

/-- linnet/script.masks -/
abbrev r45_0 : List CO := [
  ⟨some 0, .alloc ([.s (.nilFunc), .s (.nilFunc)]), none⟩]
abbrev r45_1 : List CO := [
  ⟨some 1, .build ([.s (.nilFunc), .s (.nilFunc)]) [(0, 1, .c (.fn (.func 72) [] [])), (1, 1, .c (.fn (.func 75) [] []))], none⟩,
  ⟨none, .store 2 (.t 0) (.t 1), none⟩]
abbrev c45 : CC := .seq (.reg r45_0) (.seq (.reg r45_1) (.ret))
theorem F45 : Fun Tryd.prog 45 2 c45 [.cell 0 true 2] 0 := ⟨⟨Tryd.f45, _, Tryd.func45, rfl, by kernel_rfl, Tryd.ntmps45, by kernel_rfl, by kernel_rfl⟩, by decide⟩

/-- linnet/script.triples -/
abbrev r46_0 : List CO := [
  ⟨some 0, .alloc ([.s (.nilFunc), .s (.nilFunc)]), none⟩]
abbrev r46_1 : List CO := [
  ⟨some 1, .build ([.s (.nilFunc), .s (.nilFunc)]) [(0, 1, .c (.fn (.func 78) [] [])), (1, 1, .c (.fn (.func 80) [] []))], none⟩,
  ⟨none, .store 2 (.t 0) (.t 1), none⟩]
abbrev c46 : CC := .seq (.reg r46_0) (.seq (.reg r46_1) (.ret))
theorem F46 : Fun Tryd.prog 46 2 c46 [.cell 0 true 2] 0 := ⟨⟨Tryd.f46, _, Tryd.func46, rfl, by kernel_rfl, Tryd.ntmps46, by kernel_rfl, by kernel_rfl⟩, by decide⟩

/-- linnet/script.texts -/
abbrev r47_0 : List CO := [
  ⟨some 0, .alloc ([.s (.nilFunc), .s (.nilFunc)]), none⟩]
abbrev r47_1 : List CO := [
  ⟨some 1, .build ([.s (.nilFunc), .s (.nilFunc)]) [(0, 1, .c (.fn (.func 82) [] [])), (1, 1, .c (.fn (.func 83) [] []))], none⟩,
  ⟨none, .store 2 (.t 0) (.t 1), none⟩]
abbrev c47 : CC := .seq (.reg r47_0) (.seq (.reg r47_1) (.ret))
theorem F47 : Fun Tryd.prog 47 2 c47 [.cell 0 true 2] 0 := ⟨⟨Tryd.f47, _, Tryd.func47, rfl, by kernel_rfl, Tryd.ntmps47, by kernel_rfl, by kernel_rfl⟩, by decide⟩

/-- linnet/script.turns -/
abbrev r48_0 : List CO := [
  ⟨some 0, .alloc ([.s (.nilFunc), .s (.nilFunc)]), none⟩]
abbrev r48_1 : List CO := [
  ⟨some 1, .build ([.s (.nilFunc), .s (.nilFunc)]) [(0, 1, .c (.fn (.func 84) [] [])), (1, 1, .c (.fn (.func 85) [] []))], none⟩,
  ⟨none, .store 2 (.t 0) (.t 1), none⟩]
abbrev c48 : CC := .seq (.reg r48_0) (.seq (.reg r48_1) (.ret))
theorem F48 : Fun Tryd.prog 48 2 c48 [.cell 0 true 2] 0 := ⟨⟨Tryd.f48, _, Tryd.func48, rfl, by kernel_rfl, Tryd.ntmps48, by kernel_rfl, by kernel_rfl⟩, by decide⟩

/-- linnet/script.lays (defers) -/
abbrev r49_0 : List CO := [
  ⟨some 2, .box (.t 0), none⟩,
  ⟨some 3, .box (.t 1), none⟩,
  ⟨some 4, .alloc ([.s (.slice none 0 0)]), none⟩,
  ⟨some 5, .alloc ([.s (.bool false)]), none⟩]
abbrev q49 : List CO := [
  ⟨some 7, .mkfn (.func 86) [] [.t 4, .t 5], none⟩]
abbrev r49_2 : List CO := [
  ⟨some 8, .faddr 0 (.t 3), none⟩,
  ⟨some 9, .load false 1 (.t 8), none⟩,
  ⟨some 10, .bin .geq (.t 9) (.c (.p (.s (.int .i64 0)))), none⟩,
  ⟨some 11, .mv (.t 10), none⟩,
  ⟨some 12, .faddr 0 (.t 3), some (11, true)⟩,
  ⟨some 13, .load false 1 (.t 12), some (11, true)⟩,
  ⟨some 14, .bin .lss (.t 13) (.c (.p (.s (.int .i64 8)))), some (11, true)⟩,
  ⟨some 15, .pick (.t 11) (.t 14) (.c (.p (.s (.bool false)))), none⟩,
  ⟨some 16, .mv (.t 15), none⟩,
  ⟨some 17, .faddr 44 (.t 3), some (16, true)⟩,
  ⟨some 18, .load false 1 (.t 17), some (16, true)⟩,
  ⟨some 19, .len (.t 18), some (16, true)⟩,
  ⟨some 20, .bin .leq (.t 19) (.c (.p (.s (.int .i64 255)))), some (16, true)⟩,
  ⟨some 21, .pick (.t 16) (.t 20) (.c (.p (.s (.bool false)))), none⟩,
  ⟨some 22, .call (.c (.fn (.func 52) [] [])) [.t 21], none⟩]
abbrev r49_3 : List CO := [
  ⟨some 23, .build ([.s (.slice none 0 0)]) [], none⟩,
  ⟨some 24, .box (.t 23), none⟩,
  ⟨some 6, .mv (.t 24), none⟩]
abbrev r49_4 : List CO := [
  ⟨some 25, .mv (.t 6), none⟩,
  ⟨some 26, .faddr 0 (.t 3), none⟩,
  ⟨some 27, .load false 1 (.t 26), none⟩,
  ⟨some 28, .toInt .u8 (.t 27), none⟩,
  ⟨some 29, .bslice 1 1 ([.s (.int .u8 0)]) [(0, .t 28)], none⟩,
  ⟨some 30, .call (.c (.fn (.func 62) [] [])) [.t 25, .t 29], none⟩]
abbrev r49_5 : List CO := [
  ⟨some 31, .faddr 0 (.t 3), none⟩,
  ⟨some 32, .load false 1 (.t 31), none⟩,
  ⟨some 33, .iaddrA 2 8 (.t 2) (.t 32), none⟩,
  ⟨some 34, .faddr 0 (.t 33), none⟩,
  ⟨some 35, .load false 1 (.t 34), none⟩,
  ⟨some 36, .mv (.t 6), none⟩,
  ⟨some 37, .load true 50 (.t 3), none⟩,
  ⟨some 38, .call (.t 35) [.t 36, .t 37], none⟩]
abbrev b49_5 : List (List Nat) := [[], [0], [1], [2], [3], [], [], [4, 5, 6]]
abbrev r49_6 : List CO := [
  ⟨some 39, .mv (.t 6), none⟩,
  ⟨some 40, .nilchk (.t 39), none⟩,
  ⟨some 41, .faddr 0 (.t 40), none⟩,
  ⟨some 42, .load false 1 (.t 41), none⟩,
  ⟨none, .store 1 (.t 4) (.t 42), none⟩,
  ⟨none, .store 1 (.t 5) (.c (.p (.s (.bool true)))), none⟩]
abbrev ca49 : CC := .reg r49_0
abbrev cb49 : CC := .seq (.reg r49_2) (.rest [2, 3, 4, 5] (.seq (.reg r49_3) (.seq (.reg r49_4) (.rest [2, 3, 4, 5, 6] (.seq (.vld (.regd r49_5 b49_5)) (.rest [4, 5, 6] (.seq (.reg r49_6) (.rest [4, 5] (.ret)))))))))
theorem G49 : GFun Tryd.prog 49 43 ca49 q49 7 cb49 [.cell 4 false 1, .cell 5 false 1] 2 := ⟨⟨Tryd.f49, _, _, _, _, [_], _, Tryd.func49, rfl, by kernel_rfl, Tryd.ntmps49, by kernel_rfl, rfl, by kernel_rfl, rfl, rfl, rfl, by kernel_rfl, by kernel_rfl⟩, by decide, by decide⟩

/-- linnet/script.reads$1 (recovers) -/
abbrev q50 : List CO := [
  ⟨some 8, .ext (.tassert 86 ([])) [.t 7], none⟩,
  ⟨some 6, .mv (.t 8), none⟩,
  ⟨some 9, .extract 0 (.t 6), none⟩,
  ⟨some 10, .extract 1 (.t 6), none⟩,
  ⟨some 4, .alloc ([]), none⟩,
  ⟨none, .store 0 (.t 4) (.t 9), none⟩,
  ⟨some 5, .mv (.t 10), none⟩]
abbrev r50_1 : List CO := [
  ⟨some 11, .mv (.t 5), none⟩]
abbrev r50_2 : List CO := [
  ⟨some 12, .build (tz50) [], none⟩,
  ⟨some 13, .load false 1 (.t 0), none⟩,
  ⟨none, .store 50 (.t 1) (.t 12), none⟩,
  ⟨none, .store 1 (.t 2) (.t 13), none⟩,
  ⟨none, .store 1 (.t 3) (.c (.p (.s (.bool false)))), none⟩]
abbrev cb50 : CC := .seq (.reg r50_1) (.cond (.t 11) (.reg r50_2) (.skip))
theorem D50 : DFun Tryd.prog 50 14 7 q50 cb50 := ⟨Tryd.f50, _, _, _, _, _, Tryd.func50, rfl, by kernel_rfl, Tryd.ntmps50, rfl, rfl, rfl, rfl, rfl, by kernel_rfl, by kernel_rfl⟩

/-- (*linnet/script.eye).one -/
abbrev r51_0 : List CO := [
  ⟨some 2, .mv (.c (.p (.s (.int .i64 0)))), none⟩]
abbrev r51_1 : List CO := [
  ⟨some 3, .mv (.t 0), none⟩,
  ⟨some 4, .call (.c (.fn (.func 76) [] [])) [.t 3, .c (.p (.s (.int .i64 1)))], none⟩,
  ⟨some 5, .iaddrS 1 (.t 4) (.c (.p (.s (.int .i64 0)))), none⟩,
  ⟨some 6, .load false 1 (.t 5), none⟩,
  ⟨some 7, .toInt .i64 (.t 6), none⟩,
  ⟨some 2, .mv (.t 7), none⟩]
abbrev c51 : CC := .seq (.reg r51_0) (.seq (.reg r51_1) (.rest [2] (.ret)))
theorem F51 : Fun Tryd.prog 51 8 c51 [.tmp 2] 1 := ⟨⟨Tryd.f51, _, Tryd.func51, rfl, by kernel_rfl, Tryd.ntmps51, by kernel_rfl, by kernel_rfl⟩, by decide⟩

/-- linnet/script.must -/
abbrev r52_0 : List CO := [
  ⟨some 2, .mv (.t 0), none⟩,
  ⟨some 3, .un .not (.t 2), none⟩]
abbrev r52_1 : List CO := [
  ⟨some 4, .build ([]) [], none⟩,
  ⟨some 5, .mkif 86 (.t 4), none⟩,
  ⟨none, .panic (.t 5), none⟩]
abbrev c52 : CC := .seq (.reg r52_0) (.cond (.t 3) (.reg r52_1) (.skip))
theorem F52 : Fun Tryd.prog 52 6 c52 [] 1 := ⟨⟨Tryd.f52, _, Tryd.func52, rfl, by kernel_rfl, Tryd.ntmps52, by kernel_rfl, by kernel_rfl⟩, by decide⟩

/-- bytes.Equal -/
abbrev r53_0 : List CO := [
  ⟨some 4, .mv (.c (.p (.s (.bool false)))), none⟩]
abbrev r53_1 : List CO := [
  ⟨some 5, .mv (.t 0), none⟩,
  ⟨some 6, .toStr (.t 5), none⟩,
  ⟨some 7, .mv (.t 1), none⟩,
  ⟨some 8, .toStr (.t 7), none⟩,
  ⟨some 9, .bin .eql (.t 6) (.t 8), none⟩,
  ⟨some 4, .mv (.t 9), none⟩]
abbrev c53 : CC := .seq (.reg r53_0) (.seq (.reg r53_1) (.rest [4] (.ret)))
theorem F53 : Fun Tryd.prog 53 10 c53 [.tmp 4] 2 := ⟨⟨Tryd.f53, _, Tryd.func53, rfl, by kernel_rfl, Tryd.ntmps53, by kernel_rfl, by kernel_rfl⟩, by decide⟩

/-- linnet/linnetref22.yes -/
abbrev r55_0 : List CO := [
  ⟨some 4, .mv (.c (.p (.s (.int .i64 0)))), none⟩]
abbrev r55_1 : List CO := [
  ⟨some 5, .mv (.t 0), none⟩]
abbrev r55_2 : List CO := [
  ⟨some 6, .mv (.t 1), none⟩,
  ⟨some 4, .mv (.t 6), none⟩]
abbrev r55_3 : List CO := [
  ⟨some 4, .mv (.c (.p (.s (.int .i64 0)))), none⟩]
abbrev c55 : CC := .seq (.reg r55_0) (.seq (.seq (.reg r55_1) (.cond (.t 5) (.seq (.reg r55_2) (.ret)) (.skip))) (.seq (.reg r55_3) (.ret)))
theorem F55 : Fun Tryd.prog 55 7 c55 [.tmp 4] 2 := ⟨⟨Tryd.f55, _, Tryd.func55, rfl, by kernel_rfl, Tryd.ntmps55, by kernel_rfl, by kernel_rfl⟩, by decide⟩

/-- linnet/linnetref10.Put -/
abbrev r56_0 : List CO := [
  ⟨some 1, .box (.t 0), none⟩,
  ⟨some 2, .mv (.c (.p (.s (.slice none 0 0)))), none⟩]
abbrev r56_1 : List CO := [
  ⟨some 3, .mv (.c (.p (.s (.int .i64 32)))), none⟩]
abbrev r56_2 : List CO := [
  ⟨some 4, .mv (.t 3), none⟩,
  ⟨some 5, .bin .gtr (.t 4) (.c (.p (.s (.int .i64 0)))), none⟩,
  ⟨some 6, .mv (.t 5), none⟩,
  ⟨some 7, .mv (.t 3), some (6, true)⟩,
  ⟨some 8, .bin .sub (.t 7) (.c (.p (.s (.int .i64 1)))), some (6, true)⟩,
  ⟨some 9, .iaddrA 1 32 (.t 1) (.t 8), some (6, true)⟩,
  ⟨some 10, .load false 1 (.t 9), some (6, true)⟩,
  ⟨some 11, .bin .eql (.t 10) (.c (.p (.s (.int .u8 0)))), some (6, true)⟩,
  ⟨some 12, .pick (.t 6) (.t 11) (.c (.p (.s (.bool false)))), none⟩]
abbrev r56_3 : List CO := [
  ⟨some 13, .mv (.t 3), none⟩,
  ⟨some 14, .bin .sub (.t 13) (.c (.p (.s (.int .i64 1)))), none⟩,
  ⟨some 3, .mv (.t 14), none⟩]
abbrev k56_1 : CC := .reg r56_3
abbrev l56_5 : CC := .seq (.seq (.reg r56_2) (.rest [1, 3, 12] (.cond (.t 12) (.skip) (.exit 0)))) (.rest [1, 3] (.block 1 k56_1))
abbrev k56_0 : CC := .loop l56_5
abbrev r56_4 : List CO := [
  ⟨some 15, .bslice 1 0 ([.s (.int .u8 0)]) [], none⟩,
  ⟨some 16, .mv (.t 3), none⟩,
  ⟨some 17, .aslice 1 32 (.t 1) none (some (.t 16)), none⟩,
  ⟨some 18, .append 1 1 ([.s (.int .u8 0)]) (.t 15) (.t 17), none⟩,
  ⟨some 2, .mv (.t 18), none⟩]
abbrev c56 : CC := .seq (.reg r56_0) (.seq (.reg r56_1) (.seq (.block 0 k56_0) (.rest [1, 3] (.seq (.reg r56_4) (.rest [2] (.ret))))))
theorem F56 : Fun Tryd.prog 56 19 c56 [.tmp 2] 1 := ⟨⟨Tryd.f56, _, Tryd.func56, rfl, by kernel_rfl, Tryd.ntmps56, by kernel_rfl, by kernel_rfl⟩, by decide⟩

/-- linnet/linnetref07.Put -/
abbrev r57_0 : List CO := [
  ⟨some 2, .mv (.c (.p (.s (.slice none 0 0)))), none⟩,
  ⟨some 3, .mv (.c (.p (.s (.bool false)))), none⟩]
abbrev r57_1 : List CO := [
  ⟨some 4, .mv (.c (.p (.s (.slice none 0 0)))), none⟩]
abbrev r57_2 : List CO := [
  ⟨some 5, .mv (.c (.p (.s (.int .i64 0)))), none⟩]
abbrev r57_3 : List CO := [
  ⟨some 8, .mv (.t 5), none⟩,
  ⟨some 9, .mv (.t 0), none⟩,
  ⟨some 10, .len (.t 9), none⟩,
  ⟨some 11, .bin .lss (.t 8) (.t 10), none⟩]
abbrev r57_5 : List CO := [
  ⟨some 14, .mv (.t 0), none⟩,
  ⟨some 15, .mv (.t 5), none⟩,
  ⟨some 16, .iaddrS 6 (.t 14) (.t 15), none⟩,
  ⟨some 17, .load true 6 (.t 16), none⟩,
  ⟨some 6, .alloc ([.s (.int .i64 0), .s (.int .i64 0), .s (.bool false), .s (.bool false), .s (.bool false), .s (.int .u8 0)]), none⟩,
  ⟨none, .store 6 (.t 6) (.t 17), none⟩]
abbrev r57_6 : List CO := [
  ⟨some 18, .load true 6 (.t 6), none⟩,
  ⟨some 19, .call (.c (.fn (.func 35) [] [])) [.t 18], none⟩,
  ⟨some 20, .un .not (.t 19), none⟩]
abbrev r57_7 : List CO := [
  ⟨some 2, .mv (.c (.p (.s (.slice none 0 0)))), none⟩,
  ⟨some 3, .mv (.c (.p (.s (.bool false)))), none⟩]
abbrev r57_8 : List CO := [
  ⟨some 21, .faddr 1 (.t 6), none⟩,
  ⟨some 22, .load false 1 (.t 21), none⟩,
  ⟨some 7, .mv (.t 22), none⟩]
abbrev r57_9 : List CO := [
  ⟨some 23, .faddr 2 (.t 6), none⟩,
  ⟨some 24, .load false 1 (.t 23), none⟩]
abbrev r57_10 : List CO := [
  ⟨some 25, .mv (.t 7), none⟩,
  ⟨some 26, .bin .add (.t 25) (.c (.p (.s (.int .i64 128)))), none⟩,
  ⟨some 7, .mv (.t 26), none⟩]
abbrev r57_11 : List CO := [
  ⟨some 27, .faddr 3 (.t 6), none⟩,
  ⟨some 28, .load false 1 (.t 27), none⟩]
abbrev r57_12 : List CO := [
  ⟨some 29, .mv (.t 7), none⟩,
  ⟨some 30, .bin .add (.t 29) (.c (.p (.s (.int .i64 64)))), none⟩,
  ⟨some 7, .mv (.t 30), none⟩]
abbrev r57_13 : List CO := [
  ⟨some 31, .faddr 4 (.t 6), none⟩,
  ⟨some 32, .load false 1 (.t 31), none⟩]
abbrev r57_14 : List CO := [
  ⟨some 33, .mv (.t 7), none⟩,
  ⟨some 34, .bin .add (.t 33) (.c (.p (.s (.int .i64 32)))), none⟩,
  ⟨some 7, .mv (.t 34), none⟩]
abbrev r57_15 : List CO := [
  ⟨some 35, .mv (.t 4), none⟩,
  ⟨some 36, .faddr 0 (.t 6), none⟩,
  ⟨some 37, .load false 1 (.t 36), none⟩,
  ⟨some 38, .toInt .u8 (.t 37), none⟩,
  ⟨some 39, .mv (.t 7), none⟩,
  ⟨some 40, .toInt .u8 (.t 39), none⟩,
  ⟨some 41, .faddr 5 (.t 6), none⟩,
  ⟨some 42, .load false 1 (.t 41), none⟩,
  ⟨some 43, .bslice 1 3 ([.s (.int .u8 0)]) [(0, .t 38), (1, .t 40), (2, .t 42)], none⟩,
  ⟨some 44, .append 1 1 ([.s (.int .u8 0)]) (.t 35) (.t 43), none⟩,
  ⟨some 4, .mv (.t 44), none⟩]
abbrev k57_1 : CC := .seq (.reg r57_5) (.rest [0, 4, 5, 6] (.seq (.seq (.reg r57_6) (.cond (.t 20) (.seq (.reg r57_7) (.ret)) (.skip))) (.rest [0, 4, 5, 6] (.seq (.reg r57_8) (.seq (.seq (.reg r57_9) (.cond (.t 24) (.reg r57_10) (.skip))) (.rest [0, 4, 5, 6, 7] (.seq (.seq (.reg r57_11) (.cond (.t 28) (.reg r57_12) (.skip))) (.rest [0, 4, 5, 6, 7] (.seq (.seq (.reg r57_13) (.cond (.t 32) (.reg r57_14) (.skip))) (.rest [0, 4, 5, 6, 7] (.reg r57_15)))))))))))
abbrev r57_4 : List CO := [
  ⟨some 12, .mv (.t 5), none⟩,
  ⟨some 13, .bin .add (.t 12) (.c (.p (.s (.int .i64 1)))), none⟩,
  ⟨some 5, .mv (.t 13), none⟩]
abbrev l57_17 : CC := .seq (.seq (.reg r57_3) (.rest [0, 4, 5, 11] (.cond (.t 11) (.skip) (.exit 0)))) (.rest [0, 4, 5] (.seq (.block 1 k57_1) (.rest [0, 4, 5] (.reg r57_4))))
abbrev k57_0 : CC := .loop l57_17
abbrev r57_16 : List CO := [
  ⟨some 45, .mv (.t 4), none⟩,
  ⟨some 2, .mv (.t 45), none⟩,
  ⟨some 3, .mv (.c (.p (.s (.bool true)))), none⟩]
abbrev c57 : CC := .seq (.reg r57_0) (.seq (.reg r57_1) (.seq (.seq (.reg r57_2) (.block 0 k57_0)) (.rest [4] (.seq (.reg r57_16) (.ret)))))
theorem F57 : Fun Tryd.prog 57 46 c57 [.tmp 2, .tmp 3] 1 := ⟨⟨Tryd.f57, _, Tryd.func57, rfl, by kernel_rfl, Tryd.ntmps57, by kernel_rfl, by kernel_rfl⟩, by decide⟩

/-- linnet/linnetref22.number -/
abbrev r58_0 : List CO := [
  ⟨some 2, .mv (.c (.p (.s (.slice none 0 0)))), none⟩]
abbrev r58_1 : List CO := [
  ⟨some 3, .mv (.c (.p (.s (.slice none 0 0)))), none⟩]
abbrev r58_2 : List CO := [
  ⟨some 4, .mv (.c (.p (.s (.int .i64 0)))), none⟩]
abbrev r58_3 : List CO := [
  ⟨some 5, .mv (.t 4), none⟩,
  ⟨some 6, .bin .lss (.t 5) (.c (.p (.s (.int .i64 8)))), none⟩]
abbrev r58_5 : List CO := [
  ⟨some 9, .mv (.t 3), none⟩,
  ⟨some 10, .mv (.t 0), none⟩,
  ⟨some 11, .bin .rem (.t 10) (.c (.p (.s (.int .u64 256)))), none⟩,
  ⟨some 12, .toInt .u8 (.t 11), none⟩,
  ⟨some 13, .bslice 1 1 ([.s (.int .u8 0)]) [(0, .t 12)], none⟩,
  ⟨some 14, .append 1 1 ([.s (.int .u8 0)]) (.t 9) (.t 13), none⟩,
  ⟨some 3, .mv (.t 14), none⟩]
abbrev r58_6 : List CO := [
  ⟨some 15, .mv (.t 0), none⟩,
  ⟨some 16, .bin .quo (.t 15) (.c (.p (.s (.int .u64 256)))), none⟩,
  ⟨some 0, .mv (.t 16), none⟩]
abbrev k58_1 : CC := .seq (.reg r58_5) (.rest [0, 3, 4] (.reg r58_6))
abbrev r58_4 : List CO := [
  ⟨some 7, .mv (.t 4), none⟩,
  ⟨some 8, .bin .add (.t 7) (.c (.p (.s (.int .i64 1)))), none⟩,
  ⟨some 4, .mv (.t 8), none⟩]
abbrev l58_8 : CC := .seq (.seq (.reg r58_3) (.cond (.t 6) (.skip) (.exit 0))) (.seq (.block 1 k58_1) (.rest [0, 3, 4] (.reg r58_4)))
abbrev k58_0 : CC := .loop l58_8
abbrev r58_7 : List CO := [
  ⟨some 17, .mv (.t 3), none⟩,
  ⟨some 2, .mv (.t 17), none⟩]
abbrev c58 : CC := .seq (.reg r58_0) (.seq (.reg r58_1) (.seq (.seq (.reg r58_2) (.block 0 k58_0)) (.rest [3] (.seq (.reg r58_7) (.ret)))))
theorem F58 : Fun Tryd.prog 58 18 c58 [.tmp 2] 1 := ⟨⟨Tryd.f58, _, Tryd.func58, rfl, by kernel_rfl, Tryd.ntmps58, by kernel_rfl, by kernel_rfl⟩, by decide⟩

/-- linnet/linnetref10.Get -/
abbrev r59_0 : List CO := [
  ⟨some 2, .alloc (List.replicate 32 (.s (.int .u8 0))), none⟩,
  ⟨some 3, .mv (.c (.p (.s (.bool false)))), none⟩]
abbrev r59_1 : List CO := [
  ⟨some 6, .build (List.replicate 32 (.s (.int .u8 0))) [], none⟩,
  ⟨some 4, .alloc (List.replicate 32 (.s (.int .u8 0))), none⟩,
  ⟨none, .store 32 (.t 4) (.t 6), none⟩]
abbrev r59_2 : List CO := [
  ⟨some 7, .mv (.t 0), none⟩,
  ⟨some 8, .len (.t 7), none⟩,
  ⟨some 9, .bin .gtr (.t 8) (.c (.p (.s (.int .i64 32)))), none⟩]
abbrev r59_3 : List CO := [
  ⟨some 10, .load true 32 (.t 4), none⟩,
  ⟨none, .store 32 (.t 2) (.t 10), none⟩,
  ⟨some 3, .mv (.c (.p (.s (.bool false)))), none⟩]
abbrev r59_4 : List CO := [
  ⟨some 5, .mv (.c (.p (.s (.int .i64 0)))), none⟩]
abbrev r59_5 : List CO := [
  ⟨some 11, .mv (.t 5), none⟩,
  ⟨some 12, .mv (.t 0), none⟩,
  ⟨some 13, .len (.t 12), none⟩,
  ⟨some 14, .bin .lss (.t 11) (.t 13), none⟩]
abbrev r59_7 : List CO := [
  ⟨some 17, .mv (.t 5), none⟩,
  ⟨some 18, .mv (.t 0), none⟩,
  ⟨some 19, .mv (.t 5), none⟩,
  ⟨some 20, .iaddrS 1 (.t 18) (.t 19), none⟩,
  ⟨some 21, .load false 1 (.t 20), none⟩,
  ⟨some 22, .iaddrA 1 32 (.t 4) (.t 17), none⟩,
  ⟨none, .store 1 (.t 22) (.t 21), none⟩]
abbrev k59_1 : CC := .reg r59_7
abbrev r59_6 : List CO := [
  ⟨some 15, .mv (.t 5), none⟩,
  ⟨some 16, .bin .add (.t 15) (.c (.p (.s (.int .i64 1)))), none⟩,
  ⟨some 5, .mv (.t 16), none⟩]
abbrev l59_9 : CC := .seq (.seq (.reg r59_5) (.rest [0, 2, 4, 5, 14] (.cond (.t 14) (.skip) (.exit 0)))) (.rest [0, 2, 4, 5] (.seq (.block 1 k59_1) (.rest [0, 2, 4, 5] (.reg r59_6))))
abbrev k59_0 : CC := .loop l59_9
abbrev r59_8 : List CO := [
  ⟨some 23, .load true 32 (.t 4), none⟩,
  ⟨none, .store 32 (.t 2) (.t 23), none⟩,
  ⟨some 3, .mv (.c (.p (.s (.bool true)))), none⟩]
abbrev c59 : CC := .seq (.reg r59_0) (.seq (.reg r59_1) (.seq (.seq (.reg r59_2) (.cond (.t 9) (.seq (.reg r59_3) (.ret)) (.skip))) (.rest [0, 2, 4] (.seq (.seq (.reg r59_4) (.block 0 k59_0)) (.rest [2, 4] (.seq (.reg r59_8) (.ret)))))))
theorem F59 : Fun Tryd.prog 59 24 c59 [.cell 2 true 32, .tmp 3] 1 := ⟨⟨Tryd.f59, _, Tryd.func59, rfl, by kernel_rfl, Tryd.ntmps59, by kernel_rfl, by kernel_rfl⟩, by decide⟩

/-- linnet/linnetref07.Get -/
abbrev r60_0 : List CO := [
  ⟨some 2, .mv (.c (.p (.s (.slice none 0 0)))), none⟩,
  ⟨some 3, .mv (.c (.p (.s (.bool false)))), none⟩]
abbrev r60_1 : List CO := [
  ⟨some 4, .mv (.c (.p (.s (.slice none 0 0)))), none⟩]
abbrev r60_2 : List CO := [
  ⟨some 5, .mv (.c (.p (.s (.int .i64 0)))), none⟩]
abbrev r60_3 : List CO := [
  ⟨some 7, .mv (.t 5), none⟩,
  ⟨some 8, .mv (.t 0), none⟩,
  ⟨some 9, .len (.t 8), none⟩,
  ⟨some 10, .bin .lss (.t 7) (.t 9), none⟩]
abbrev r60_5 : List CO := [
  ⟨some 13, .mv (.t 5), none⟩,
  ⟨some 14, .bin .add (.t 13) (.c (.p (.s (.int .i64 3)))), none⟩,
  ⟨some 15, .mv (.t 0), none⟩,
  ⟨some 16, .len (.t 15), none⟩,
  ⟨some 17, .bin .gtr (.t 14) (.t 16), none⟩]
abbrev r60_6 : List CO := [
  ⟨some 2, .mv (.c (.p (.s (.slice none 0 0)))), none⟩,
  ⟨some 3, .mv (.c (.p (.s (.bool false)))), none⟩]
abbrev r60_7 : List CO := [
  ⟨some 18, .mv (.t 0), none⟩,
  ⟨some 19, .mv (.t 5), none⟩,
  ⟨some 20, .bin .add (.t 19) (.c (.p (.s (.int .i64 1)))), none⟩,
  ⟨some 21, .iaddrS 1 (.t 18) (.t 20), none⟩,
  ⟨some 22, .load false 1 (.t 21), none⟩,
  ⟨some 23, .toInt .i64 (.t 22), none⟩,
  ⟨some 6, .mv (.t 23), none⟩]
abbrev r60_8 : List CO := [
  ⟨some 24, .mv (.t 6), none⟩,
  ⟨some 25, .bin .quo (.t 24) (.c (.p (.s (.int .i64 4)))), none⟩,
  ⟨some 26, .bin .rem (.t 25) (.c (.p (.s (.int .i64 8)))), none⟩,
  ⟨some 27, .bin .neq (.t 26) (.c (.p (.s (.int .i64 0)))), none⟩]
abbrev r60_9 : List CO := [
  ⟨some 2, .mv (.c (.p (.s (.slice none 0 0)))), none⟩,
  ⟨some 3, .mv (.c (.p (.s (.bool false)))), none⟩]
abbrev r60_10 : List CO := [
  ⟨some 28, .mv (.t 4), none⟩,
  ⟨some 29, .mv (.t 0), none⟩,
  ⟨some 30, .mv (.t 5), none⟩,
  ⟨some 31, .iaddrS 1 (.t 29) (.t 30), none⟩,
  ⟨some 32, .load false 1 (.t 31), none⟩,
  ⟨some 33, .toInt .i64 (.t 32), none⟩,
  ⟨some 34, .mv (.t 6), none⟩,
  ⟨some 35, .bin .rem (.t 34) (.c (.p (.s (.int .i64 4)))), none⟩,
  ⟨some 36, .mv (.t 6), none⟩,
  ⟨some 37, .bin .quo (.t 36) (.c (.p (.s (.int .i64 128)))), none⟩,
  ⟨some 38, .bin .eql (.t 37) (.c (.p (.s (.int .i64 1)))), none⟩,
  ⟨some 39, .mv (.t 6), none⟩,
  ⟨some 40, .bin .quo (.t 39) (.c (.p (.s (.int .i64 64)))), none⟩,
  ⟨some 41, .bin .rem (.t 40) (.c (.p (.s (.int .i64 2)))), none⟩,
  ⟨some 42, .bin .eql (.t 41) (.c (.p (.s (.int .i64 1)))), none⟩,
  ⟨some 43, .mv (.t 6), none⟩,
  ⟨some 44, .bin .quo (.t 43) (.c (.p (.s (.int .i64 32)))), none⟩,
  ⟨some 45, .bin .rem (.t 44) (.c (.p (.s (.int .i64 2)))), none⟩,
  ⟨some 46, .bin .eql (.t 45) (.c (.p (.s (.int .i64 1)))), none⟩,
  ⟨some 47, .mv (.t 0), none⟩,
  ⟨some 48, .mv (.t 5), none⟩,
  ⟨some 49, .bin .add (.t 48) (.c (.p (.s (.int .i64 2)))), none⟩,
  ⟨some 50, .iaddrS 1 (.t 47) (.t 49), none⟩,
  ⟨some 51, .load false 1 (.t 50), none⟩,
  ⟨some 52, .build ([.s (.int .i64 0), .s (.int .i64 0), .s (.bool false), .s (.bool false), .s (.bool false), .s (.int .u8 0)]) [(0, 1, .t 33), (1, 1, .t 35), (2, 1, .t 38), (3, 1, .t 42), (4, 1, .t 46), (5, 1, .t 51)], none⟩,
  ⟨some 53, .bslice 6 1 ([.s (.int .i64 0), .s (.int .i64 0), .s (.bool false), .s (.bool false), .s (.bool false), .s (.int .u8 0)]) [(0, .t 52)], none⟩,
  ⟨some 54, .append 6 24 ([.s (.int .i64 0), .s (.int .i64 0), .s (.bool false), .s (.bool false), .s (.bool false), .s (.int .u8 0)]) (.t 28) (.t 53), none⟩,
  ⟨some 4, .mv (.t 54), none⟩]
abbrev b60_10 : List (List Nat) := [[], [], [], [1, 2], [3], [4], [], [6], [], [8], [9], [], [11], [12], [13], [], [15], [16], [17], [], [], [20], [19, 21], [22], [5, 7, 10, 14, 18, 23], [24], [0, 25], [26, 26, 0, 1, 2, 3, 4, 5, 6, 7, 8, 9, 10, 11, 12, 13, 14, 15, 16, 17, 18, 19, 20, 21, 22, 23, 24, 25, 26]]
abbrev k60_1 : CC := .seq (.seq (.reg r60_5) (.rest [0, 4, 5, 17] (.cond (.t 17) (.seq (.reg r60_6) (.ret)) (.skip)))) (.rest [0, 4, 5] (.seq (.reg r60_7) (.rest [0, 4, 5, 6] (.seq (.seq (.reg r60_8) (.rest [0, 4, 5, 6, 27] (.cond (.t 27) (.seq (.reg r60_9) (.ret)) (.skip)))) (.rest [0, 4, 5, 6] (.regd r60_10 b60_10))))))
abbrev r60_4 : List CO := [
  ⟨some 11, .mv (.t 5), none⟩,
  ⟨some 12, .bin .add (.t 11) (.c (.p (.s (.int .i64 3)))), none⟩,
  ⟨some 5, .mv (.t 12), none⟩]
abbrev l60_13 : CC := .seq (.seq (.reg r60_3) (.rest [0, 4, 5, 10] (.cond (.t 10) (.skip) (.exit 0)))) (.rest [0, 4, 5] (.seq (.block 1 k60_1) (.rest [0, 4, 5] (.reg r60_4))))
abbrev k60_0 : CC := .loop l60_13
abbrev r60_11 : List CO := [
  ⟨some 55, .mv (.t 4), none⟩,
  ⟨some 2, .mv (.t 55), none⟩,
  ⟨some 3, .mv (.c (.p (.s (.bool true)))), none⟩]
abbrev c60 : CC := .seq (.reg r60_0) (.seq (.reg r60_1) (.seq (.seq (.reg r60_2) (.block 0 k60_0)) (.rest [4] (.seq (.reg r60_11) (.ret)))))
theorem F60 : Fun Tryd.prog 60 56 c60 [.tmp 2, .tmp 3] 1 := ⟨⟨Tryd.f60, _, Tryd.func60, rfl, by kernel_rfl, Tryd.ntmps60, by kernel_rfl, by kernel_rfl⟩, by decide⟩

/-- linnet/script.keys$1 -/
abbrev r61_0 : List CO := [
  ⟨some 3, .box (.t 1), none⟩]
abbrev r61_1 : List CO := [
  ⟨some 4, .mv (.t 0), none⟩,
  ⟨some 5, .faddr 3 (.t 3), none⟩,
  ⟨some 6, .load false 1 (.t 5), none⟩,
  ⟨some 7, .bslice 1 1 ([.s (.int .u8 0)]) [(0, .t 6)], none⟩,
  ⟨some 8, .call (.c (.fn (.func 62) [] [])) [.t 4, .t 7], none⟩]
abbrev c61 : CC := .seq (.reg r61_0) (.reg r61_1)
theorem F61 : Fun Tryd.prog 61 9 c61 [] 2 := ⟨⟨Tryd.f61, _, Tryd.func61, rfl, by kernel_rfl, Tryd.ntmps61, by kernel_rfl, by kernel_rfl⟩, by decide⟩

/-- (*linnet/script.pen).put -/
abbrev r62_0 : List CO := [
  ⟨some 4, .mv (.t 0), none⟩,
  ⟨some 5, .mv (.t 0), none⟩,
  ⟨some 6, .nilchk (.t 5), none⟩,
  ⟨some 7, .faddr 0 (.t 6), none⟩,
  ⟨some 8, .load false 1 (.t 7), none⟩,
  ⟨some 9, .mv (.t 1), none⟩,
  ⟨some 10, .append 1 1 ([.s (.int .u8 0)]) (.t 8) (.t 9), none⟩,
  ⟨some 11, .nilchk (.t 4), none⟩,
  ⟨some 12, .faddr 0 (.t 11), none⟩,
  ⟨none, .store 1 (.t 12) (.t 10), none⟩]
abbrev c62 : CC := .reg r62_0
theorem F62 : Fun Tryd.prog 62 13 c62 [] 2 := ⟨⟨Tryd.f62, _, Tryd.func62, rfl, by kernel_rfl, Tryd.ntmps62, by kernel_rfl, by kernel_rfl⟩, by decide⟩

/-- linnet/script.keys$2 -/
abbrev r63_0 : List CO := [
  ⟨some 4, .mv (.t 1), none⟩,
  ⟨some 5, .mv (.t 0), none⟩,
  ⟨some 6, .call (.c (.fn (.func 51) [] [])) [.t 5], none⟩,
  ⟨some 7, .toInt .u8 (.t 6), none⟩,
  ⟨some 8, .nilchk (.t 4), none⟩,
  ⟨some 9, .faddr 3 (.t 8), none⟩,
  ⟨none, .store 1 (.t 9) (.t 7), none⟩]
abbrev c63 : CC := .reg r63_0
theorem F63 : Fun Tryd.prog 63 10 c63 [] 2 := ⟨⟨Tryd.f63, _, Tryd.func63, rfl, by kernel_rfl, Tryd.ntmps63, by kernel_rfl, by kernel_rfl⟩, by decide⟩

/-- linnet/script.moves$1 -/
abbrev r64_0 : List CO := [
  ⟨some 3, .box (.t 1), none⟩]
abbrev r64_1 : List CO := [
  ⟨some 4, .mv (.t 0), none⟩,
  ⟨some 5, .faddr 1 (.t 3), none⟩,
  ⟨some 6, .load false 1 (.t 5), none⟩,
  ⟨some 7, .toInt .u8 (.t 6), none⟩,
  ⟨some 8, .faddr 2 (.t 3), none⟩,
  ⟨some 9, .load false 1 (.t 8), none⟩,
  ⟨some 10, .toInt .u8 (.t 9), none⟩,
  ⟨some 11, .bslice 1 2 ([.s (.int .u8 0)]) [(0, .t 7), (1, .t 10)], none⟩,
  ⟨some 12, .call (.c (.fn (.func 62) [] [])) [.t 4, .t 11], none⟩]
abbrev c64 : CC := .seq (.reg r64_0) (.reg r64_1)
theorem F64 : Fun Tryd.prog 64 13 c64 [] 2 := ⟨⟨Tryd.f64, _, Tryd.func64, rfl, by kernel_rfl, Tryd.ntmps64, by kernel_rfl, by kernel_rfl⟩, by decide⟩

/-- linnet/script.moves$2 -/
abbrev r65_0 : List CO := [
  ⟨some 4, .mv (.t 1), none⟩,
  ⟨some 5, .mv (.t 0), none⟩,
  ⟨some 6, .call (.c (.fn (.func 51) [] [])) [.t 5], none⟩,
  ⟨some 7, .nilchk (.t 4), none⟩,
  ⟨some 8, .faddr 1 (.t 7), none⟩,
  ⟨none, .store 1 (.t 8) (.t 6), none⟩]
abbrev r65_1 : List CO := [
  ⟨some 9, .mv (.t 1), none⟩,
  ⟨some 10, .mv (.t 0), none⟩,
  ⟨some 11, .call (.c (.fn (.func 51) [] [])) [.t 10], none⟩,
  ⟨some 12, .nilchk (.t 9), none⟩,
  ⟨some 13, .faddr 2 (.t 12), none⟩,
  ⟨none, .store 1 (.t 13) (.t 11), none⟩]
abbrev r65_2 : List CO := [
  ⟨some 14, .mv (.t 1), none⟩,
  ⟨some 15, .nilchk (.t 14), none⟩,
  ⟨some 16, .faddr 1 (.t 15), none⟩,
  ⟨some 17, .load false 1 (.t 16), none⟩,
  ⟨some 18, .bin .lss (.t 17) (.c (.p (.s (.int .i64 4)))), none⟩,
  ⟨some 19, .call (.c (.fn (.func 52) [] [])) [.t 18], none⟩]
abbrev c65 : CC := .seq (.reg r65_0) (.rest [0, 1] (.seq (.reg r65_1) (.rest [1] (.reg r65_2))))
theorem F65 : Fun Tryd.prog 65 20 c65 [] 2 := ⟨⟨Tryd.f65, _, Tryd.func65, rfl, by kernel_rfl, Tryd.ntmps65, by kernel_rfl, by kernel_rfl⟩, by decide⟩

/-- linnet/script.asks$1 -/
abbrev r66_0 : List CO := [
  ⟨some 3, .box (.t 1), none⟩]
abbrev r66_1 : List CO := [
  ⟨some 4, .mv (.t 0), none⟩,
  ⟨some 5, .faddr 1 (.t 3), none⟩,
  ⟨some 6, .load false 1 (.t 5), none⟩,
  ⟨some 7, .faddr 4 (.t 3), none⟩,
  ⟨some 8, .load false 1 (.t 7), none⟩,
  ⟨some 9, .call (.c (.fn (.func 67) [] [])) [.t 8, .c (.p (.s (.int .i64 1)))], none⟩,
  ⟨some 10, .bin .or (.t 6) (.t 9), none⟩,
  ⟨some 11, .faddr 5 (.t 3), none⟩,
  ⟨some 12, .load false 1 (.t 11), none⟩,
  ⟨some 13, .call (.c (.fn (.func 67) [] [])) [.t 12, .c (.p (.s (.int .i64 2)))], none⟩,
  ⟨some 14, .bin .or (.t 10) (.t 13), none⟩,
  ⟨some 15, .toInt .u8 (.t 14), none⟩,
  ⟨some 16, .faddr 2 (.t 3), none⟩,
  ⟨some 17, .load false 1 (.t 16), none⟩,
  ⟨some 18, .toInt .u8 (.t 17), none⟩,
  ⟨some 19, .bslice 1 2 ([.s (.int .u8 0)]) [(0, .t 15), (1, .t 18)], none⟩,
  ⟨some 20, .call (.c (.fn (.func 62) [] [])) [.t 4, .t 19], none⟩]
abbrev b66_1 : List (List Nat) := [[], [], [1], [], [3], [4], [2, 5], [], [7], [8, 5], [6, 9], [10], [], [12], [13], [11, 14], [0, 15, 9]]
abbrev c66 : CC := .seq (.reg r66_0) (.regd r66_1 b66_1)
theorem F66 : Fun Tryd.prog 66 21 c66 [] 2 := ⟨⟨Tryd.f66, _, Tryd.func66, rfl, by kernel_rfl, Tryd.ntmps66, by kernel_rfl, by kernel_rfl⟩, by decide⟩

/-- linnet/script.num -/
abbrev r67_0 : List CO := [
  ⟨some 4, .mv (.c (.p (.s (.int .i64 0)))), none⟩]
abbrev r67_1 : List CO := [
  ⟨some 5, .mv (.t 0), none⟩]
abbrev r67_2 : List CO := [
  ⟨some 6, .mv (.t 1), none⟩,
  ⟨some 7, .bin .shl (.c (.p (.s (.int .i64 1)))) (.t 6), none⟩,
  ⟨some 4, .mv (.t 7), none⟩]
abbrev r67_3 : List CO := [
  ⟨some 4, .mv (.c (.p (.s (.int .i64 0)))), none⟩]
abbrev c67 : CC := .seq (.reg r67_0) (.seq (.seq (.reg r67_1) (.cond (.t 5) (.seq (.reg r67_2) (.ret)) (.skip))) (.rest [] (.seq (.reg r67_3) (.ret))))
theorem F67 : Fun Tryd.prog 67 8 c67 [.tmp 4] 2 := ⟨⟨Tryd.f67, _, Tryd.func67, rfl, by kernel_rfl, Tryd.ntmps67, by kernel_rfl, by kernel_rfl⟩, by decide⟩

/-- linnet/script.asks$2 -/
abbrev r68_0 : List CO := [
  ⟨some 5, .mv (.t 0), none⟩,
  ⟨some 6, .call (.c (.fn (.func 51) [] [])) [.t 5], none⟩,
  ⟨some 4, .mv (.t 6), none⟩]
abbrev r68_1 : List CO := [
  ⟨some 7, .mv (.t 1), none⟩,
  ⟨some 8, .mv (.t 0), none⟩,
  ⟨some 9, .call (.c (.fn (.func 51) [] [])) [.t 8], none⟩,
  ⟨some 10, .nilchk (.t 7), none⟩,
  ⟨some 11, .faddr 2 (.t 10), none⟩,
  ⟨none, .store 1 (.t 11) (.t 9), none⟩]
abbrev r68_2 : List CO := [
  ⟨some 12, .mv (.t 4), none⟩,
  ⟨some 13, .bin .lss (.t 12) (.c (.p (.s (.int .i64 8)))), none⟩,
  ⟨some 14, .mv (.t 13), none⟩,
  ⟨some 15, .mv (.t 1), some (14, true)⟩,
  ⟨some 16, .nilchk (.t 15), some (14, true)⟩,
  ⟨some 17, .faddr 2 (.t 16), some (14, true)⟩,
  ⟨some 18, .load false 1 (.t 17), some (14, true)⟩,
  ⟨some 19, .bin .lss (.t 18) (.c (.p (.s (.int .i64 4)))), some (14, true)⟩,
  ⟨some 20, .pick (.t 14) (.t 19) (.c (.p (.s (.bool false)))), none⟩,
  ⟨some 21, .call (.c (.fn (.func 52) [] [])) [.t 20], none⟩]
abbrev r68_3 : List CO := [
  ⟨some 22, .mv (.t 1), none⟩,
  ⟨some 23, .mv (.t 1), none⟩,
  ⟨some 24, .mv (.t 1), none⟩,
  ⟨some 25, .mv (.t 4), none⟩,
  ⟨some 26, .bin .and (.t 25) (.c (.p (.s (.int .i64 1)))), none⟩,
  ⟨some 27, .mv (.t 4), none⟩,
  ⟨some 28, .call (.c (.fn (.func 69) [] [])) [.t 27, .c (.p (.s (.int .i64 1)))], none⟩,
  ⟨some 29, .mv (.t 4), none⟩,
  ⟨some 30, .call (.c (.fn (.func 69) [] [])) [.t 29, .c (.p (.s (.int .i64 2)))], none⟩,
  ⟨some 31, .nilchk (.t 22), none⟩,
  ⟨some 32, .faddr 1 (.t 31), none⟩,
  ⟨none, .store 1 (.t 32) (.t 26), none⟩,
  ⟨some 33, .nilchk (.t 23), none⟩,
  ⟨some 34, .faddr 4 (.t 33), none⟩,
  ⟨none, .store 1 (.t 34) (.t 28), none⟩,
  ⟨some 35, .nilchk (.t 24), none⟩,
  ⟨some 36, .faddr 5 (.t 35), none⟩,
  ⟨none, .store 1 (.t 36) (.t 30), none⟩]
abbrev c68 : CC := .seq (.reg r68_0) (.seq (.reg r68_1) (.rest [1, 4] (.seq (.reg r68_2) (.rest [1, 4] (.reg r68_3)))))
theorem F68 : Fun Tryd.prog 68 37 c68 [] 2 := ⟨⟨Tryd.f68, _, Tryd.func68, rfl, by kernel_rfl, Tryd.ntmps68, by kernel_rfl, by kernel_rfl⟩, by decide⟩

/-- linnet/script.bit -/
abbrev r69_0 : List CO := [
  ⟨some 4, .mv (.c (.p (.s (.bool false)))), none⟩]
abbrev r69_1 : List CO := [
  ⟨some 5, .mv (.t 0), none⟩,
  ⟨some 6, .mv (.t 1), none⟩,
  ⟨some 7, .bin .shr (.t 5) (.t 6), none⟩,
  ⟨some 8, .bin .and (.t 7) (.c (.p (.s (.int .i64 1)))), none⟩,
  ⟨some 9, .bin .eql (.t 8) (.c (.p (.s (.int .i64 1)))), none⟩,
  ⟨some 4, .mv (.t 9), none⟩]
abbrev c69 : CC := .seq (.reg r69_0) (.seq (.reg r69_1) (.rest [4] (.ret)))
theorem F69 : Fun Tryd.prog 69 10 c69 [.tmp 4] 2 := ⟨⟨Tryd.f69, _, Tryd.func69, rfl, by kernel_rfl, Tryd.ntmps69, by kernel_rfl, by kernel_rfl⟩, by decide⟩

/-- linnet/script.modes$1 -/
abbrev r70_0 : List CO := [
  ⟨some 3, .box (.t 1), none⟩]
abbrev r70_1 : List CO := [
  ⟨some 4, .mv (.t 0), none⟩,
  ⟨some 5, .faddr 2 (.t 3), none⟩,
  ⟨some 6, .load false 1 (.t 5), none⟩,
  ⟨some 7, .toInt .u8 (.t 6), none⟩,
  ⟨some 8, .bslice 1 1 ([.s (.int .u8 0)]) [(0, .t 7)], none⟩,
  ⟨some 9, .call (.c (.fn (.func 62) [] [])) [.t 4, .t 8], none⟩]
abbrev c70 : CC := .seq (.reg r70_0) (.reg r70_1)
theorem F70 : Fun Tryd.prog 70 10 c70 [] 2 := ⟨⟨Tryd.f70, _, Tryd.func70, rfl, by kernel_rfl, Tryd.ntmps70, by kernel_rfl, by kernel_rfl⟩, by decide⟩

/-- linnet/script.modes$2 -/
abbrev r71_0 : List CO := [
  ⟨some 4, .mv (.t 1), none⟩,
  ⟨some 5, .mv (.t 0), none⟩,
  ⟨some 6, .call (.c (.fn (.func 51) [] [])) [.t 5], none⟩,
  ⟨some 7, .nilchk (.t 4), none⟩,
  ⟨some 8, .faddr 2 (.t 7), none⟩,
  ⟨none, .store 1 (.t 8) (.t 6), none⟩]
abbrev c71 : CC := .reg r71_0
theorem F71 : Fun Tryd.prog 71 9 c71 [] 2 := ⟨⟨Tryd.f71, _, Tryd.func71, rfl, by kernel_rfl, Tryd.ntmps71, by kernel_rfl, by kernel_rfl⟩, by decide⟩

/-- linnet/script.masks$1 -/
abbrev r72_0 : List CO := [
  ⟨some 3, .box (.t 1), none⟩]
abbrev r72_1 : List CO := [
  ⟨some 4, .mv (.t 0), none⟩,
  ⟨some 5, .faddr 5 (.t 3), none⟩,
  ⟨some 6, .load false 1 (.t 5), none⟩,
  ⟨some 7, .call (.c (.fn (.func 67) [] [])) [.t 6, .c (.p (.s (.int .i64 0)))], none⟩,
  ⟨some 8, .toInt .u8 (.t 7), none⟩,
  ⟨some 9, .bslice 1 1 ([.s (.int .u8 0)]) [(0, .t 8)], none⟩,
  ⟨some 10, .call (.c (.fn (.func 62) [] [])) [.t 4, .t 9], none⟩]
abbrev r72_2 : List CO := [
  ⟨some 11, .faddr 5 (.t 3), none⟩,
  ⟨some 12, .load false 1 (.t 11), none⟩]
abbrev r72_3 : List CO := [
  ⟨some 13, .mv (.t 0), none⟩,
  ⟨some 14, .faddr 6 (.t 3), none⟩,
  ⟨some 15, .load true 32 (.t 14), none⟩,
  ⟨some 16, .call (.c (.fn (.func 74) [] [])) [.t 15], none⟩,
  ⟨some 17, .call (.c (.fn (.func 73) [] [])) [.t 13, .t 16], none⟩]
abbrev c72 : CC := .seq (.reg r72_0) (.seq (.reg r72_1) (.rest [0, 3] (.seq (.reg r72_2) (.cond (.t 12) (.reg r72_3) (.skip)))))
theorem F72 : Fun Tryd.prog 72 18 c72 [] 2 := ⟨⟨Tryd.f72, _, Tryd.func72, rfl, by kernel_rfl, Tryd.ntmps72, by kernel_rfl, by kernel_rfl⟩, by decide⟩

/-- (*linnet/script.pen).list -/
abbrev r73_0 : List CO := [
  ⟨some 4, .mv (.t 0), none⟩,
  ⟨some 5, .mv (.t 1), none⟩,
  ⟨some 6, .len (.t 5), none⟩,
  ⟨some 7, .toInt .u8 (.t 6), none⟩,
  ⟨some 8, .bslice 1 1 ([.s (.int .u8 0)]) [(0, .t 7)], none⟩,
  ⟨some 9, .mv (.t 1), none⟩,
  ⟨some 10, .append 1 1 ([.s (.int .u8 0)]) (.t 8) (.t 9), none⟩,
  ⟨some 11, .call (.c (.fn (.func 62) [] [])) [.t 4, .t 10], none⟩]
abbrev c73 : CC := .reg r73_0
theorem F73 : Fun Tryd.prog 73 12 c73 [] 2 := ⟨⟨Tryd.f73, _, Tryd.func73, rfl, by kernel_rfl, Tryd.ntmps73, by kernel_rfl, by kernel_rfl⟩, by decide⟩

/-- linnet/mask.Put -/
abbrev r74_0 : List CO := [
  ⟨some 1, .box (.t 0), none⟩,
  ⟨some 2, .mv (.c (.p (.s (.slice none 0 0)))), none⟩]
abbrev r74_1 : List CO := [
  ⟨some 3, .aslice 1 32 (.t 1) none none, none⟩,
  ⟨some 4, .call (.c (.fn (.func 88) [] [])) [.t 3], none⟩,
  ⟨some 5, .call (.c (.fn (.func 87) [] [])) [.t 4, .c (.p (.s (.string { data := #[0] })))], none⟩,
  ⟨some 2, .mv (.t 5), none⟩]
abbrev c74 : CC := .seq (.reg r74_0) (.seq (.reg r74_1) (.rest [2] (.ret)))
theorem F74 : Fun Tryd.prog 74 6 c74 [.tmp 2] 1 := ⟨⟨Tryd.f74, _, Tryd.func74, rfl, by kernel_rfl, Tryd.ntmps74, by kernel_rfl, by kernel_rfl⟩, by decide⟩

/-- linnet/script.masks$2 -/
abbrev r75_0 : List CO := [
  ⟨some 8, .mv (.t 0), none⟩,
  ⟨some 9, .call (.c (.fn (.func 51) [] [])) [.t 8], none⟩,
  ⟨some 4, .mv (.t 9), none⟩]
abbrev r75_1 : List CO := [
  ⟨some 10, .mv (.t 4), none⟩,
  ⟨some 11, .bin .lss (.t 10) (.c (.p (.s (.int .i64 2)))), none⟩,
  ⟨some 12, .call (.c (.fn (.func 52) [] [])) [.t 11], none⟩]
abbrev r75_2 : List CO := [
  ⟨some 13, .mv (.t 1), none⟩,
  ⟨some 14, .mv (.t 4), none⟩,
  ⟨some 15, .bin .eql (.t 14) (.c (.p (.s (.int .i64 1)))), none⟩,
  ⟨some 16, .nilchk (.t 13), none⟩,
  ⟨some 17, .faddr 5 (.t 16), none⟩,
  ⟨none, .store 1 (.t 17) (.t 15), none⟩]
abbrev r75_3 : List CO := [
  ⟨some 18, .mv (.t 1), none⟩,
  ⟨some 19, .nilchk (.t 18), none⟩,
  ⟨some 20, .faddr 5 (.t 19), none⟩,
  ⟨some 21, .load false 1 (.t 20), none⟩]
abbrev r75_4 : List CO := [
  ⟨some 22, .mv (.t 0), none⟩,
  ⟨some 23, .mv (.t 0), none⟩,
  ⟨some 24, .call (.c (.fn (.func 51) [] [])) [.t 23], none⟩,
  ⟨some 25, .call (.c (.fn (.func 76) [] [])) [.t 22, .t 24], none⟩,
  ⟨some 5, .mv (.t 25), none⟩]
abbrev r75_5 : List CO := [
  ⟨some 27, .mv (.t 5), none⟩,
  ⟨some 28, .call (.c (.fn (.func 77) [] [])) [.t 27], none⟩,
  ⟨some 26, .mv (.t 28), none⟩,
  ⟨some 29, .extract 0 (.t 26), none⟩,
  ⟨some 30, .extract 1 (.t 26), none⟩,
  ⟨some 6, .alloc (List.replicate 32 (.s (.int .u8 0))), none⟩,
  ⟨none, .store 32 (.t 6) (.t 29), none⟩,
  ⟨some 7, .mv (.t 30), none⟩]
abbrev r75_6 : List CO := [
  ⟨some 31, .mv (.t 7), none⟩,
  ⟨some 32, .bin .eql (.t 31) (.c (.p (.s (.int .i64 0)))), none⟩,
  ⟨some 33, .mv (.t 32), none⟩,
  ⟨some 34, .load true 32 (.t 6), some (33, true)⟩,
  ⟨some 35, .call (.c (.fn (.func 74) [] [])) [.t 34], some (33, true)⟩,
  ⟨some 36, .mv (.t 5), some (33, true)⟩,
  ⟨some 37, .call (.c (.fn (.func 53) [] [])) [.t 35, .t 36], some (33, true)⟩,
  ⟨some 38, .pick (.t 33) (.t 37) (.c (.p (.s (.bool false)))), none⟩,
  ⟨some 39, .call (.c (.fn (.func 52) [] [])) [.t 38], none⟩]
abbrev r75_7 : List CO := [
  ⟨some 40, .mv (.t 1), none⟩,
  ⟨some 41, .load true 32 (.t 6), none⟩,
  ⟨some 42, .nilchk (.t 40), none⟩,
  ⟨some 43, .faddr 6 (.t 42), none⟩,
  ⟨none, .store 32 (.t 43) (.t 41), none⟩]
abbrev c75 : CC := .seq (.reg r75_0) (.seq (.reg r75_1) (.seq (.reg r75_2) (.rest [0, 1] (.seq (.reg r75_3) (.rest [0, 1, 21] (.cond (.t 21) (.seq (.reg r75_4) (.rest [1, 5] (.seq (.reg r75_5) (.rest [1, 5, 6, 7] (.seq (.reg r75_6) (.rest [1, 6] (.reg r75_7))))))) (.skip)))))))
theorem F75 : Fun Tryd.prog 75 44 c75 [] 2 := ⟨⟨Tryd.f75, _, Tryd.func75, rfl, by kernel_rfl, Tryd.ntmps75, by kernel_rfl, by kernel_rfl⟩, by decide⟩

/-- (*linnet/script.eye).take -/
abbrev r76_0 : List CO := [
  ⟨some 4, .mv (.c (.p (.s (.slice none 0 0)))), none⟩]
abbrev r76_1 : List CO := [
  ⟨some 6, .mv (.t 1), none⟩,
  ⟨some 7, .mv (.t 0), none⟩,
  ⟨some 8, .nilchk (.t 7), none⟩,
  ⟨some 9, .faddr 0 (.t 8), none⟩,
  ⟨some 10, .load false 1 (.t 9), none⟩,
  ⟨some 11, .len (.t 10), none⟩,
  ⟨some 12, .bin .leq (.t 6) (.t 11), none⟩,
  ⟨some 13, .call (.c (.fn (.func 52) [] [])) [.t 12], none⟩]
abbrev r76_2 : List CO := [
  ⟨some 14, .mv (.t 0), none⟩,
  ⟨some 15, .nilchk (.t 14), none⟩,
  ⟨some 16, .faddr 0 (.t 15), none⟩,
  ⟨some 17, .load false 1 (.t 16), none⟩,
  ⟨some 18, .mv (.t 1), none⟩,
  ⟨some 19, .slice 1 (.t 17) none (some (.t 18)), none⟩,
  ⟨some 20, .call (.c (.fn (.func 88) [] [])) [.t 19], none⟩,
  ⟨some 5, .mv (.t 20), none⟩]
abbrev r76_3 : List CO := [
  ⟨some 21, .mv (.t 0), none⟩,
  ⟨some 22, .mv (.t 0), none⟩,
  ⟨some 23, .nilchk (.t 22), none⟩,
  ⟨some 24, .faddr 0 (.t 23), none⟩,
  ⟨some 25, .load false 1 (.t 24), none⟩,
  ⟨some 26, .mv (.t 1), none⟩,
  ⟨some 27, .slice 1 (.t 25) (some (.t 26)) none, none⟩,
  ⟨some 28, .nilchk (.t 21), none⟩,
  ⟨some 29, .faddr 0 (.t 28), none⟩,
  ⟨none, .store 1 (.t 29) (.t 27), none⟩]
abbrev r76_4 : List CO := [
  ⟨some 30, .mv (.t 5), none⟩,
  ⟨some 4, .mv (.t 30), none⟩]
abbrev c76 : CC := .seq (.reg r76_0) (.seq (.reg r76_1) (.rest [0, 1] (.seq (.reg r76_2) (.rest [0, 1, 5] (.seq (.reg r76_3) (.rest [5] (.seq (.reg r76_4) (.ret))))))))
theorem F76 : Fun Tryd.prog 76 31 c76 [.tmp 4] 2 := ⟨⟨Tryd.f76, _, Tryd.func76, rfl, by kernel_rfl, Tryd.ntmps76, by kernel_rfl, by kernel_rfl⟩, by decide⟩

/-- linnet/mask.Get -/
abbrev r77_0 : List CO := [
  ⟨some 2, .alloc (List.replicate 32 (.s (.int .u8 0))), none⟩,
  ⟨some 3, .mv (.c (.p (.s (.int .i64 0)))), none⟩]
abbrev r77_1 : List CO := [
  ⟨some 4, .alloc (List.replicate 32 (.s (.int .u8 0))), none⟩]
abbrev r77_2 : List CO := [
  ⟨some 5, .mv (.t 0), none⟩,
  ⟨some 6, .len (.t 5), none⟩,
  ⟨some 7, .bin .gtr (.t 6) (.c (.p (.s (.int .i64 32)))), none⟩]
abbrev r77_3 : List CO := [
  ⟨some 8, .load true 32 (.t 4), none⟩,
  ⟨none, .store 32 (.t 2) (.t 8), none⟩,
  ⟨some 3, .mv (.c (.p (.s (.int .i64 3)))), none⟩]
abbrev r77_4 : List CO := [
  ⟨some 9, .ext (.mslice 1 32 false false) [.t 4], none⟩,
  ⟨some 10, .mv (.t 0), none⟩,
  ⟨some 11, .ext (.copy 1) [.t 9, .t 10], none⟩]
abbrev r77_5 : List CO := [
  ⟨some 12, .load true 32 (.t 4), none⟩,
  ⟨none, .store 32 (.t 2) (.t 12), none⟩,
  ⟨some 3, .mv (.c (.p (.s (.int .i64 0)))), none⟩]
abbrev c77 : CC := .seq (.reg r77_0) (.seq (.reg r77_1) (.seq (.seq (.reg r77_2) (.cond (.t 7) (.seq (.reg r77_3) (.ret)) (.skip))) (.rest [0, 2, 4] (.seq (.reg r77_4) (.seq (.reg r77_5) (.ret))))))
theorem F77 : Fun Tryd.prog 77 13 c77 [.cell 2 true 32, .tmp 3] 1 := ⟨⟨Tryd.f77, _, Tryd.func77, rfl, by kernel_rfl, Tryd.ntmps77, by kernel_rfl, by kernel_rfl⟩, by decide⟩

/-- linnet/script.triples$1 -/
abbrev r78_0 : List CO := [
  ⟨some 3, .box (.t 1), none⟩]
abbrev r78_1 : List CO := [
  ⟨some 7, .faddr 38 (.t 3), none⟩,
  ⟨some 8, .load true 6 (.t 7), none⟩,
  ⟨some 9, .bslice 6 1 ([.s (.int .i64 0), .s (.int .i64 0), .s (.bool false), .s (.bool false), .s (.bool false), .s (.int .u8 0)]) [(0, .t 8)], none⟩,
  ⟨some 10, .call (.c (.fn (.func 79) [] [])) [.t 9], none⟩,
  ⟨some 6, .mv (.t 10), none⟩,
  ⟨some 11, .extract 0 (.t 6), none⟩,
  ⟨some 12, .extract 1 (.t 6), none⟩,
  ⟨some 4, .mv (.t 11), none⟩,
  ⟨some 5, .mv (.t 12), none⟩]
abbrev r78_2 : List CO := [
  ⟨some 13, .mv (.t 5), none⟩,
  ⟨some 14, .bin .eql (.t 13) (.c (.p (.s (.int .i64 0)))), none⟩,
  ⟨some 15, .call (.c (.fn (.func 52) [] [])) [.t 14], none⟩]
abbrev r78_3 : List CO := [
  ⟨some 16, .mv (.t 0), none⟩,
  ⟨some 17, .faddr 1 (.t 3), none⟩,
  ⟨some 18, .load false 1 (.t 17), none⟩,
  ⟨some 19, .toInt .u8 (.t 18), none⟩,
  ⟨some 20, .bslice 1 1 ([.s (.int .u8 0)]) [(0, .t 19)], none⟩,
  ⟨some 21, .call (.c (.fn (.func 62) [] [])) [.t 16, .t 20], none⟩]
abbrev r78_4 : List CO := [
  ⟨some 22, .mv (.t 0), none⟩,
  ⟨some 23, .mv (.t 4), none⟩,
  ⟨some 24, .call (.c (.fn (.func 62) [] [])) [.t 22, .t 23], none⟩]
abbrev c78 : CC := .seq (.reg r78_0) (.seq (.reg r78_1) (.rest [0, 3, 4, 5] (.seq (.reg r78_2) (.seq (.reg r78_3) (.rest [0, 4] (.reg r78_4))))))
theorem F78 : Fun Tryd.prog 78 25 c78 [] 2 := ⟨⟨Tryd.f78, _, Tryd.func78, rfl, by kernel_rfl, Tryd.ntmps78, by kernel_rfl, by kernel_rfl⟩, by decide⟩

/-- linnet/slc.Put -/
abbrev r79_0 : List CO := [
  ⟨some 2, .mv (.c (.p (.s (.slice none 0 0)))), none⟩,
  ⟨some 3, .mv (.c (.p (.s (.int .i64 0)))), none⟩]
abbrev r79_1 : List CO := [
  ⟨some 4, .mv (.c (.p (.s (.slice none 0 0)))), none⟩]
abbrev r79_2 : List CO := [
  ⟨some 8, .mv (.t 0), none⟩,
  ⟨some 9, .len (.t 8), none⟩,
  ⟨some 10, .mv (.c (.p (.s (.int .i64 0)))), none⟩]
abbrev r79_3 : List CO := [
  ⟨some 11, .bin .lss (.t 10) (.t 9), none⟩]
abbrev r79_4 : List CO := [
  ⟨some 12, .iaddrS 6 (.t 8) (.t 10), none⟩,
  ⟨some 13, .load true 6 (.t 12), none⟩,
  ⟨some 6, .alloc ([.s (.int .i64 0), .s (.int .i64 0), .s (.bool false), .s (.bool false), .s (.bool false), .s (.int .u8 0)]), none⟩,
  ⟨none, .store 6 (.t 6) (.t 13), none⟩]
abbrev r79_5 : List CO := [
  ⟨some 14, .load true 6 (.t 6), none⟩,
  ⟨some 15, .call (.c (.fn (.func 89) [] [])) [.t 14], none⟩,
  ⟨some 7, .mv (.t 15), none⟩]
abbrev r79_6 : List CO := [
  ⟨some 16, .mv (.t 7), none⟩,
  ⟨some 17, .bin .neq (.t 16) (.c (.p (.s (.int .i64 0)))), none⟩]
abbrev r79_7 : List CO := [
  ⟨some 18, .mv (.t 7), none⟩,
  ⟨some 2, .mv (.c (.p (.s (.slice none 0 0)))), none⟩,
  ⟨some 3, .mv (.t 18), none⟩]
abbrev r79_8 : List CO := [
  ⟨some 19, .mv (.t 4), none⟩,
  ⟨some 20, .faddr 0 (.t 6), none⟩,
  ⟨some 21, .load false 1 (.t 20), none⟩,
  ⟨some 22, .toInt .u8 (.t 21), none⟩,
  ⟨some 23, .faddr 1 (.t 6), none⟩,
  ⟨some 24, .load false 1 (.t 23), none⟩,
  ⟨some 25, .toInt .u8 (.t 24), none⟩,
  ⟨some 26, .faddr 2 (.t 6), none⟩,
  ⟨some 27, .load false 1 (.t 26), none⟩,
  ⟨some 28, .call (.c (.fn (.func 90) [] [])) [.t 27, .c (.p (.s (.int .u8 128)))], none⟩,
  ⟨some 29, .bin .or (.t 25) (.t 28), none⟩,
  ⟨some 30, .faddr 3 (.t 6), none⟩,
  ⟨some 31, .load false 1 (.t 30), none⟩,
  ⟨some 32, .call (.c (.fn (.func 90) [] [])) [.t 31, .c (.p (.s (.int .u8 64)))], none⟩,
  ⟨some 33, .bin .or (.t 29) (.t 32), none⟩,
  ⟨some 34, .faddr 4 (.t 6), none⟩,
  ⟨some 35, .load false 1 (.t 34), none⟩,
  ⟨some 36, .call (.c (.fn (.func 90) [] [])) [.t 35, .c (.p (.s (.int .u8 32)))], none⟩,
  ⟨some 37, .bin .or (.t 33) (.t 36), none⟩,
  ⟨some 38, .faddr 5 (.t 6), none⟩,
  ⟨some 39, .load false 1 (.t 38), none⟩,
  ⟨some 40, .bslice 1 3 ([.s (.int .u8 0)]) [(0, .t 22), (1, .t 37), (2, .t 39)], none⟩,
  ⟨some 41, .append 1 1 ([.s (.int .u8 0)]) (.t 19) (.t 40), none⟩,
  ⟨some 4, .mv (.t 41), none⟩]
abbrev b79_8 : List (List Nat) := [[], [], [1], [2], [], [4], [5], [], [7], [8], [6, 9], [], [11], [12, 9], [10, 13], [], [15], [16, 13], [14, 17], [], [19], [3, 18, 20], [0, 21, 17], [22, 22, 0, 1, 2, 3, 4, 5, 6, 7, 8, 9, 10, 11, 12, 13, 14, 15, 16, 17, 18, 19, 20, 21, 22]]
abbrev k79_1 : CC := .seq (.reg r79_4) (.rest [4, 6, 8, 9, 10] (.seq (.seq (.reg r79_5) (.seq (.reg r79_6) (.cond (.t 17) (.seq (.reg r79_7) (.ret)) (.skip)))) (.rest [4, 6, 8, 9, 10] (.regd r79_8 b79_8))))
abbrev r79_9 : List CO := [
  ⟨some 42, .bin .add (.t 10) (.c (.p (.s (.int .i64 1)))), none⟩,
  ⟨some 10, .mv (.t 42), none⟩]
abbrev l79_12 : CC := .seq (.reg r79_3) (.seq (.cond (.t 11) (.skip) (.exit 0)) (.seq (.block 1 k79_1) (.rest [4, 8, 9, 10] (.reg r79_9))))
abbrev k79_0 : CC := .loop l79_12
abbrev r79_10 : List CO := [
  ⟨some 43, .mv (.t 4), none⟩,
  ⟨some 2, .mv (.t 43), none⟩,
  ⟨some 3, .mv (.c (.p (.s (.int .i64 0)))), none⟩]
abbrev c79 : CC := .seq (.reg r79_0) (.seq (.reg r79_1) (.seq (.seq (.reg r79_2) (.block 0 k79_0)) (.rest [4] (.seq (.reg r79_10) (.ret)))))
theorem F79 : Fun Tryd.prog 79 44 c79 [.tmp 2, .tmp 3] 1 := ⟨⟨Tryd.f79, _, Tryd.func79, rfl, by kernel_rfl, Tryd.ntmps79, by kernel_rfl, by kernel_rfl⟩, by decide⟩

/-- linnet/script.triples$2 -/
abbrev r80_0 : List CO := [
  ⟨some 6, .mv (.t 1), none⟩,
  ⟨some 7, .mv (.t 0), none⟩,
  ⟨some 8, .call (.c (.fn (.func 51) [] [])) [.t 7], none⟩,
  ⟨some 9, .nilchk (.t 6), none⟩,
  ⟨some 10, .faddr 1 (.t 9), none⟩,
  ⟨none, .store 1 (.t 10) (.t 8), none⟩]
abbrev r80_1 : List CO := [
  ⟨some 12, .mv (.t 0), none⟩,
  ⟨some 13, .call (.c (.fn (.func 76) [] [])) [.t 12, .c (.p (.s (.int .i64 3)))], none⟩,
  ⟨some 14, .call (.c (.fn (.func 81) [] [])) [.t 13], none⟩,
  ⟨some 11, .mv (.t 14), none⟩,
  ⟨some 15, .extract 0 (.t 11), none⟩,
  ⟨some 16, .extract 1 (.t 11), none⟩,
  ⟨some 4, .mv (.t 15), none⟩,
  ⟨some 5, .mv (.t 16), none⟩]
abbrev r80_2 : List CO := [
  ⟨some 17, .mv (.t 1), none⟩,
  ⟨some 18, .nilchk (.t 17), none⟩,
  ⟨some 19, .faddr 1 (.t 18), none⟩,
  ⟨some 20, .load false 1 (.t 19), none⟩,
  ⟨some 21, .bin .lss (.t 20) (.c (.p (.s (.int .i64 2)))), none⟩,
  ⟨some 22, .mv (.t 21), none⟩,
  ⟨some 23, .mv (.t 5), some (22, true)⟩,
  ⟨some 24, .bin .eql (.t 23) (.c (.p (.s (.int .i64 0)))), some (22, true)⟩,
  ⟨some 25, .pick (.t 22) (.t 24) (.c (.p (.s (.bool false)))), none⟩,
  ⟨some 26, .call (.c (.fn (.func 52) [] [])) [.t 25], none⟩]
abbrev r80_3 : List CO := [
  ⟨some 27, .mv (.t 1), none⟩,
  ⟨some 28, .mv (.t 4), none⟩,
  ⟨some 29, .iaddrS 6 (.t 28) (.c (.p (.s (.int .i64 0)))), none⟩,
  ⟨some 30, .load true 6 (.t 29), none⟩,
  ⟨some 31, .nilchk (.t 27), none⟩,
  ⟨some 32, .faddr 38 (.t 31), none⟩,
  ⟨none, .store 6 (.t 32) (.t 30), none⟩]
abbrev c80 : CC := .seq (.reg r80_0) (.rest [0, 1] (.seq (.reg r80_1) (.rest [1, 4, 5] (.seq (.reg r80_2) (.rest [1, 4] (.reg r80_3))))))
theorem F80 : Fun Tryd.prog 80 33 c80 [] 2 := ⟨⟨Tryd.f80, _, Tryd.func80, rfl, by kernel_rfl, Tryd.ntmps80, by kernel_rfl, by kernel_rfl⟩, by decide⟩

/-- linnet/slc.Get -/
abbrev r81_0 : List CO := [
  ⟨some 2, .mv (.c (.p (.s (.slice none 0 0)))), none⟩,
  ⟨some 3, .mv (.c (.p (.s (.int .i64 0)))), none⟩]
abbrev r81_1 : List CO := [
  ⟨some 6, .mv (.t 0), none⟩,
  ⟨some 7, .len (.t 6), none⟩,
  ⟨some 8, .bin .rem (.t 7) (.c (.p (.s (.int .i64 3)))), none⟩,
  ⟨some 9, .bin .neq (.t 8) (.c (.p (.s (.int .i64 0)))), none⟩]
abbrev r81_2 : List CO := [
  ⟨some 2, .mv (.c (.p (.s (.slice none 0 0)))), none⟩,
  ⟨some 3, .mv (.c (.p (.s (.int .i64 2)))), none⟩]
abbrev r81_3 : List CO := [
  ⟨some 4, .mv (.c (.p (.s (.slice none 0 0)))), none⟩]
abbrev r81_4 : List CO := [
  ⟨some 10, .mv (.t 0), none⟩,
  ⟨some 11, .len (.t 10), none⟩,
  ⟨some 12, .bin .gtr (.t 11) (.c (.p (.s (.int .i64 0)))), none⟩]
abbrev r81_6 : List CO := [
  ⟨some 15, .mv (.t 0), none⟩,
  ⟨some 16, .iaddrS 1 (.t 15) (.c (.p (.s (.int .i64 1)))), none⟩,
  ⟨some 17, .load false 1 (.t 16), none⟩,
  ⟨some 5, .mv (.t 17), none⟩]
abbrev r81_7 : List CO := [
  ⟨some 18, .mv (.t 5), none⟩,
  ⟨some 19, .bin .and (.t 18) (.c (.p (.s (.int .u8 28)))), none⟩,
  ⟨some 20, .bin .neq (.t 19) (.c (.p (.s (.int .u8 0)))), none⟩]
abbrev r81_8 : List CO := [
  ⟨some 2, .mv (.c (.p (.s (.slice none 0 0)))), none⟩,
  ⟨some 3, .mv (.c (.p (.s (.int .i64 2)))), none⟩]
abbrev r81_9 : List CO := [
  ⟨some 21, .mv (.t 4), none⟩,
  ⟨some 22, .mv (.t 0), none⟩,
  ⟨some 23, .iaddrS 1 (.t 22) (.c (.p (.s (.int .i64 0)))), none⟩,
  ⟨some 24, .load false 1 (.t 23), none⟩,
  ⟨some 25, .toInt .i64 (.t 24), none⟩,
  ⟨some 26, .mv (.t 5), none⟩,
  ⟨some 27, .bin .and (.t 26) (.c (.p (.s (.int .u8 3)))), none⟩,
  ⟨some 28, .toInt .i64 (.t 27), none⟩,
  ⟨some 29, .mv (.t 5), none⟩,
  ⟨some 30, .bin .and (.t 29) (.c (.p (.s (.int .u8 128)))), none⟩,
  ⟨some 31, .bin .neq (.t 30) (.c (.p (.s (.int .u8 0)))), none⟩,
  ⟨some 32, .mv (.t 5), none⟩,
  ⟨some 33, .bin .and (.t 32) (.c (.p (.s (.int .u8 64)))), none⟩,
  ⟨some 34, .bin .neq (.t 33) (.c (.p (.s (.int .u8 0)))), none⟩,
  ⟨some 35, .mv (.t 5), none⟩,
  ⟨some 36, .bin .and (.t 35) (.c (.p (.s (.int .u8 32)))), none⟩,
  ⟨some 37, .bin .neq (.t 36) (.c (.p (.s (.int .u8 0)))), none⟩,
  ⟨some 38, .mv (.t 0), none⟩,
  ⟨some 39, .iaddrS 1 (.t 38) (.c (.p (.s (.int .i64 2)))), none⟩,
  ⟨some 40, .load false 1 (.t 39), none⟩,
  ⟨some 41, .build ([.s (.int .i64 0), .s (.int .i64 0), .s (.bool false), .s (.bool false), .s (.bool false), .s (.int .u8 0)]) [(0, 1, .t 25), (1, 1, .t 28), (2, 1, .t 31), (3, 1, .t 34), (4, 1, .t 37), (5, 1, .t 40)], none⟩,
  ⟨some 42, .bslice 6 1 ([.s (.int .i64 0), .s (.int .i64 0), .s (.bool false), .s (.bool false), .s (.bool false), .s (.int .u8 0)]) [(0, .t 41)], none⟩,
  ⟨some 43, .append 6 24 ([.s (.int .i64 0), .s (.int .i64 0), .s (.bool false), .s (.bool false), .s (.bool false), .s (.int .u8 0)]) (.t 21) (.t 42), none⟩,
  ⟨some 4, .mv (.t 43), none⟩]
abbrev b81_9 : List (List Nat) := [[], [], [1], [2], [3], [], [5], [6], [], [8], [9], [], [11], [12], [], [14], [15], [], [17], [18], [4, 7, 10, 13, 16, 19], [20], [0, 21], [22, 22, 0, 1, 2, 3, 4, 5, 6, 7, 8, 9, 10, 11, 12, 13, 14, 15, 16, 17, 18, 19, 20, 21, 22]]
abbrev k81_1 : CC := .seq (.reg r81_6) (.rest [0, 4, 5] (.seq (.seq (.reg r81_7) (.cond (.t 20) (.seq (.reg r81_8) (.ret)) (.skip))) (.rest [0, 4, 5] (.regd r81_9 b81_9))))
abbrev r81_5 : List CO := [
  ⟨some 13, .mv (.t 0), none⟩,
  ⟨some 14, .slice 1 (.t 13) (some (.c (.p (.s (.int .i64 3))))) none, none⟩,
  ⟨some 0, .mv (.t 14), none⟩]
abbrev l81_12 : CC := .seq (.seq (.reg r81_4) (.cond (.t 12) (.skip) (.exit 0))) (.seq (.block 1 k81_1) (.rest [0, 4] (.reg r81_5)))
abbrev k81_0 : CC := .loop l81_12
abbrev r81_10 : List CO := [
  ⟨some 44, .mv (.t 4), none⟩,
  ⟨some 2, .mv (.t 44), none⟩,
  ⟨some 3, .mv (.c (.p (.s (.int .i64 0)))), none⟩]
abbrev c81 : CC := .seq (.reg r81_0) (.seq (.seq (.reg r81_1) (.rest [0, 9] (.cond (.t 9) (.seq (.reg r81_2) (.ret)) (.skip)))) (.rest [0] (.seq (.reg r81_3) (.seq (.block 0 k81_0) (.rest [4] (.seq (.reg r81_10) (.ret)))))))
theorem F81 : Fun Tryd.prog 81 45 c81 [.tmp 2, .tmp 3] 1 := ⟨⟨Tryd.f81, _, Tryd.func81, rfl, by kernel_rfl, Tryd.ntmps81, by kernel_rfl, by kernel_rfl⟩, by decide⟩

/-- linnet/script.texts$1 -/
abbrev r82_0 : List CO := [
  ⟨some 3, .box (.t 1), none⟩]
abbrev r82_1 : List CO := [
  ⟨some 4, .mv (.t 0), none⟩,
  ⟨some 5, .faddr 44 (.t 3), none⟩,
  ⟨some 6, .load false 1 (.t 5), none⟩,
  ⟨some 7, .call (.c (.fn (.func 73) [] [])) [.t 4, .t 6], none⟩]
abbrev c82 : CC := .seq (.reg r82_0) (.reg r82_1)
theorem F82 : Fun Tryd.prog 82 8 c82 [] 2 := ⟨⟨Tryd.f82, _, Tryd.func82, rfl, by kernel_rfl, Tryd.ntmps82, by kernel_rfl, by kernel_rfl⟩, by decide⟩

/-- linnet/script.texts$2 -/
abbrev r83_0 : List CO := [
  ⟨some 4, .mv (.t 1), none⟩,
  ⟨some 5, .mv (.t 0), none⟩,
  ⟨some 6, .mv (.t 0), none⟩,
  ⟨some 7, .call (.c (.fn (.func 51) [] [])) [.t 6], none⟩,
  ⟨some 8, .call (.c (.fn (.func 76) [] [])) [.t 5, .t 7], none⟩,
  ⟨some 9, .nilchk (.t 4), none⟩,
  ⟨some 10, .faddr 44 (.t 9), none⟩,
  ⟨none, .store 1 (.t 10) (.t 8), none⟩]
abbrev c83 : CC := .reg r83_0
theorem F83 : Fun Tryd.prog 83 11 c83 [] 2 := ⟨⟨Tryd.f83, _, Tryd.func83, rfl, by kernel_rfl, Tryd.ntmps83, by kernel_rfl, by kernel_rfl⟩, by decide⟩

/-- linnet/script.turns$1 -/
abbrev r84_0 : List CO := [
  ⟨some 3, .box (.t 1), none⟩]
abbrev r84_1 : List CO := [
  ⟨some 5, .mv (.t 0), none⟩,
  ⟨some 6, .faddr 2 (.t 3), none⟩,
  ⟨some 7, .load false 1 (.t 6), none⟩,
  ⟨some 8, .toInt .u8 (.t 7), none⟩,
  ⟨some 9, .bslice 1 1 ([.s (.int .u8 0)]) [(0, .t 8)], none⟩,
  ⟨some 10, .call (.c (.fn (.func 62) [] [])) [.t 5, .t 9], none⟩]
abbrev r84_2 : List CO := [
  ⟨some 11, .mv (.t 0), none⟩,
  ⟨some 12, .faddr 45 (.t 3), none⟩,
  ⟨some 13, .aslice 1 4 (.t 12) none none, none⟩,
  ⟨some 14, .call (.c (.fn (.func 16) [] [])) [.t 13], none⟩,
  ⟨some 15, .call (.c (.fn (.func 62) [] [])) [.t 11, .t 14], none⟩]
abbrev r84_3 : List CO := [
  ⟨some 16, .mv (.c (.p (.s (.int .i64 0)))), none⟩]
abbrev r84_4 : List CO := [
  ⟨some 17, .bin .lss (.t 16) (.c (.p (.s (.int .i64 8)))), none⟩]
abbrev r84_5 : List CO := [
  ⟨some 18, .mv (.t 16), none⟩,
  ⟨some 4, .mv (.t 18), none⟩]
abbrev r84_6 : List CO := [
  ⟨some 19, .mv (.t 0), none⟩,
  ⟨some 20, .faddr 49 (.t 3), none⟩,
  ⟨some 21, .load false 1 (.t 20), none⟩,
  ⟨some 22, .mv (.t 4), none⟩,
  ⟨some 23, .bin .mul (.c (.p (.s (.int .i64 8)))) (.t 22), none⟩,
  ⟨some 24, .bin .shr (.t 21) (.t 23), none⟩,
  ⟨some 25, .toInt .u8 (.t 24), none⟩,
  ⟨some 26, .bslice 1 1 ([.s (.int .u8 0)]) [(0, .t 25)], none⟩,
  ⟨some 27, .call (.c (.fn (.func 62) [] [])) [.t 19, .t 26], none⟩]
abbrev k84_1 : CC := .seq (.reg r84_5) (.reg r84_6)
abbrev r84_7 : List CO := [
  ⟨some 28, .bin .add (.t 16) (.c (.p (.s (.int .i64 1)))), none⟩,
  ⟨some 16, .mv (.t 28), none⟩]
abbrev l84_9 : CC := .seq (.reg r84_4) (.seq (.cond (.t 17) (.skip) (.exit 0)) (.seq (.block 1 k84_1) (.rest [0, 3, 16] (.reg r84_7))))
abbrev k84_0 : CC := .loop l84_9
abbrev c84 : CC := .seq (.reg r84_0) (.seq (.reg r84_1) (.rest [0, 3] (.seq (.reg r84_2) (.rest [0, 3] (.seq (.reg r84_3) (.block 0 k84_0))))))
theorem F84 : Fun Tryd.prog 84 29 c84 [] 2 := ⟨⟨Tryd.f84, _, Tryd.func84, rfl, by kernel_rfl, Tryd.ntmps84, by kernel_rfl, by kernel_rfl⟩, by decide⟩

/-- linnet/script.turns$2 -/
abbrev r85_0 : List CO := [
  ⟨some 9, .mv (.t 1), none⟩,
  ⟨some 10, .mv (.t 0), none⟩,
  ⟨some 11, .call (.c (.fn (.func 51) [] [])) [.t 10], none⟩,
  ⟨some 12, .nilchk (.t 9), none⟩,
  ⟨some 13, .faddr 2 (.t 12), none⟩,
  ⟨none, .store 1 (.t 13) (.t 11), none⟩]
abbrev r85_1 : List CO := [
  ⟨some 14, .mv (.t 0), none⟩,
  ⟨some 15, .call (.c (.fn (.func 76) [] [])) [.t 14, .c (.p (.s (.int .i64 32)))], none⟩,
  ⟨some 4, .mv (.t 15), none⟩]
abbrev r85_2 : List CO := [
  ⟨some 17, .mv (.t 4), none⟩,
  ⟨some 18, .call (.c (.fn (.func 17) [] [])) [.t 17], none⟩,
  ⟨some 16, .mv (.t 18), none⟩,
  ⟨some 19, .extract 0 (.t 16), none⟩,
  ⟨some 20, .extract 1 (.t 16), none⟩,
  ⟨some 5, .mv (.t 19), none⟩,
  ⟨some 6, .mv (.t 20), none⟩]
abbrev r85_3 : List CO := [
  ⟨some 21, .mv (.t 6), none⟩,
  ⟨some 22, .bin .eql (.t 21) (.c (.p (.s (.int .i64 0)))), none⟩,
  ⟨some 23, .mv (.t 22), none⟩,
  ⟨some 24, .mv (.t 5), some (23, true)⟩,
  ⟨some 25, .call (.c (.fn (.func 16) [] [])) [.t 24], some (23, true)⟩,
  ⟨some 26, .mv (.t 4), some (23, true)⟩,
  ⟨some 27, .call (.c (.fn (.func 53) [] [])) [.t 25, .t 26], some (23, true)⟩,
  ⟨some 28, .pick (.t 23) (.t 27) (.c (.p (.s (.bool false)))), none⟩,
  ⟨some 29, .call (.c (.fn (.func 52) [] [])) [.t 28], none⟩]
abbrev r85_4 : List CO := [
  ⟨some 30, .mv (.t 1), none⟩,
  ⟨some 31, .mv (.t 5), none⟩,
  ⟨some 32, .arrptr 4 (.t 31), none⟩,
  ⟨some 33, .load true 4 (.t 32), none⟩,
  ⟨some 34, .nilchk (.t 30), none⟩,
  ⟨some 35, .faddr 45 (.t 34), none⟩,
  ⟨none, .store 4 (.t 35) (.t 33), none⟩]
abbrev r85_5 : List CO := [
  ⟨some 36, .mv (.t 0), none⟩,
  ⟨some 37, .call (.c (.fn (.func 76) [] [])) [.t 36, .c (.p (.s (.int .i64 8)))], none⟩,
  ⟨some 38, .len (.t 37), none⟩,
  ⟨some 39, .mv (.c (.p (.s (.int .i64 0)))), none⟩]
abbrev r85_6 : List CO := [
  ⟨some 40, .bin .lss (.t 39) (.t 38), none⟩]
abbrev r85_7 : List CO := [
  ⟨some 41, .mv (.t 39), none⟩,
  ⟨some 42, .iaddrS 1 (.t 37) (.t 39), none⟩,
  ⟨some 43, .load false 1 (.t 42), none⟩,
  ⟨some 7, .mv (.t 41), none⟩,
  ⟨some 8, .mv (.t 43), none⟩]
abbrev r85_8 : List CO := [
  ⟨some 44, .mv (.t 1), none⟩,
  ⟨some 45, .nilchk (.t 44), none⟩,
  ⟨some 46, .faddr 49 (.t 45), none⟩,
  ⟨some 47, .load false 1 (.t 46), none⟩,
  ⟨some 48, .mv (.t 8), none⟩,
  ⟨some 49, .toInt .u64 (.t 48), none⟩,
  ⟨some 50, .mv (.t 7), none⟩,
  ⟨some 51, .bin .mul (.c (.p (.s (.int .i64 8)))) (.t 50), none⟩,
  ⟨some 52, .bin .shl (.t 49) (.t 51), none⟩,
  ⟨some 53, .bin .or (.t 47) (.t 52), none⟩,
  ⟨some 54, .nilchk (.t 44), none⟩,
  ⟨some 55, .faddr 49 (.t 54), none⟩,
  ⟨none, .store 1 (.t 55) (.t 53), none⟩]
abbrev b85_8 : List (List Nat) := [[], [0], [1], [2], [], [4], [], [6], [5, 7], [3, 8], [0, 0, 1, 2, 3, 4, 5, 6, 7, 8, 9], [10, 0, 1, 2, 3, 4, 5, 6, 7, 8, 9], [11, 9, 0, 1, 2, 3, 4, 5, 6, 7, 8, 9]]
abbrev k85_1 : CC := .seq (.reg r85_7) (.rest [1, 7, 8, 37, 38, 39] (.regd r85_8 b85_8))
abbrev r85_9 : List CO := [
  ⟨some 56, .bin .add (.t 39) (.c (.p (.s (.int .i64 1)))), none⟩,
  ⟨some 39, .mv (.t 56), none⟩]
abbrev l85_12 : CC := .seq (.reg r85_6) (.seq (.cond (.t 40) (.skip) (.exit 0)) (.seq (.block 1 k85_1) (.rest [1, 37, 38, 39] (.reg r85_9))))
abbrev k85_0 : CC := .loop l85_12
abbrev c85 : CC := .seq (.reg r85_0) (.rest [0, 1] (.seq (.reg r85_1) (.seq (.reg r85_2) (.rest [0, 1, 4, 5, 6] (.seq (.reg r85_3) (.rest [0, 1, 5] (.seq (.reg r85_4) (.rest [0, 1] (.seq (.reg r85_5) (.rest [1, 37, 38, 39] (.block 0 k85_0)))))))))))
theorem F85 : Fun Tryd.prog 85 57 c85 [] 2 := ⟨⟨Tryd.f85, _, Tryd.func85, rfl, by kernel_rfl, Tryd.ntmps85, by kernel_rfl, by kernel_rfl⟩, by decide⟩

/-- linnet/script.lays$1 (recovers) -/
abbrev q86 : List CO := [
  ⟨some 6, .ext (.tassert 86 ([])) [.t 5], none⟩,
  ⟨some 4, .mv (.t 6), none⟩,
  ⟨some 7, .extract 0 (.t 4), none⟩,
  ⟨some 8, .extract 1 (.t 4), none⟩,
  ⟨some 2, .alloc ([]), none⟩,
  ⟨none, .store 0 (.t 2) (.t 7), none⟩,
  ⟨some 3, .mv (.t 8), none⟩]
abbrev r86_1 : List CO := [
  ⟨some 9, .mv (.t 3), none⟩]
abbrev r86_2 : List CO := [
  ⟨none, .store 1 (.t 0) (.c (.p (.s (.slice none 0 0)))), none⟩,
  ⟨none, .store 1 (.t 1) (.c (.p (.s (.bool false)))), none⟩]
abbrev cb86 : CC := .seq (.reg r86_1) (.cond (.t 9) (.reg r86_2) (.skip))
theorem D86 : DFun Tryd.prog 86 10 5 q86 cb86 := ⟨Tryd.f86, _, _, _, _, _, Tryd.func86, rfl, by kernel_rfl, Tryd.ntmps86, rfl, rfl, rfl, rfl, rfl, by kernel_rfl, by kernel_rfl⟩

/-- bytes.TrimRight -/
abbrev r87_0 : List CO := [
  ⟨some 4, .mv (.c (.p (.s (.slice none 0 0)))), none⟩]
abbrev r87_1 : List CO := [
  ⟨some 7, .mv (.t 0), none⟩,
  ⟨some 8, .len (.t 7), none⟩,
  ⟨some 9, .bin .eql (.t 8) (.c (.p (.s (.int .i64 0)))), none⟩,
  ⟨some 10, .mv (.t 9), none⟩,
  ⟨some 11, .mv (.t 1), some (10, false)⟩,
  ⟨some 12, .bin .eql (.t 11) (.c (.p (.s (.string { data := #[] })))), some (10, false)⟩,
  ⟨some 13, .pick (.t 10) (.c (.p (.s (.bool true)))) (.t 12), none⟩]
abbrev r87_2 : List CO := [
  ⟨some 14, .mv (.t 0), none⟩,
  ⟨some 4, .mv (.t 14), none⟩]
abbrev r87_3 : List CO := [
  ⟨some 15, .mv (.t 1), none⟩,
  ⟨some 16, .slen (.t 15), none⟩,
  ⟨some 17, .bin .eql (.t 16) (.c (.p (.s (.int .i64 1)))), none⟩,
  ⟨some 18, .mv (.t 17), none⟩,
  ⟨some 19, .mv (.t 1), some (18, true)⟩,
  ⟨some 20, .sindex (.t 19) (.c (.p (.s (.int .i64 0)))), some (18, true)⟩,
  ⟨some 21, .bin .lss (.t 20) (.c (.p (.s (.int .u8 128)))), some (18, true)⟩,
  ⟨some 22, .pick (.t 18) (.t 21) (.c (.p (.s (.bool false)))), none⟩]
abbrev r87_4 : List CO := [
  ⟨some 23, .mv (.t 0), none⟩,
  ⟨some 24, .mv (.t 1), none⟩,
  ⟨some 25, .sindex (.t 24) (.c (.p (.s (.int .i64 0)))), none⟩,
  ⟨some 26, .call (.c (.fn (.func 91) [] [])) [.t 23, .t 25], none⟩,
  ⟨some 4, .mv (.t 26), none⟩]
abbrev r87_5 : List CO := [
  ⟨some 28, .mv (.t 1), none⟩,
  ⟨some 29, .call (.c (.fn (.func 92) [] [])) [.t 28], none⟩,
  ⟨some 27, .mv (.t 29), none⟩,
  ⟨some 30, .extract 0 (.t 27), none⟩,
  ⟨some 31, .extract 1 (.t 27), none⟩,
  ⟨some 5, .alloc (List.replicate 256 (.s (.bool false))), none⟩,
  ⟨none, .store 256 (.t 5) (.t 30), none⟩,
  ⟨some 6, .mv (.t 31), none⟩]
abbrev r87_6 : List CO := [
  ⟨some 32, .mv (.t 6), none⟩]
abbrev r87_7 : List CO := [
  ⟨some 33, .mv (.t 0), none⟩,
  ⟨some 34, .call (.c (.fn (.func 93) [] [])) [.t 33, .t 5], none⟩,
  ⟨some 4, .mv (.t 34), none⟩]
abbrev r87_8 : List CO := [
  ⟨some 35, .mv (.t 0), none⟩,
  ⟨some 36, .mv (.t 1), none⟩,
  ⟨some 37, .call (.c (.fn (.func 94) [] [])) [.t 35, .t 36], none⟩,
  ⟨some 4, .mv (.t 37), none⟩]
abbrev c87 : CC := .seq (.reg r87_0) (.seq (.seq (.reg r87_1) (.rest [0, 1, 13] (.cond (.t 13) (.seq (.reg r87_2) (.ret)) (.skip)))) (.rest [0, 1] (.seq (.seq (.reg r87_3) (.rest [0, 1, 22] (.cond (.t 22) (.seq (.reg r87_4) (.rest [4] (.ret))) (.skip)))) (.rest [0, 1] (.seq (.seq (.reg r87_5) (.rest [0, 1, 5, 6] (.seq (.reg r87_6) (.cond (.t 32) (.seq (.reg r87_7) (.ret)) (.skip))))) (.rest [0, 1] (.seq (.reg r87_8) (.rest [4] (.ret)))))))))
theorem F87 : Fun Tryd.prog 87 38 c87 [.tmp 4] 2 := ⟨⟨Tryd.f87, _, Tryd.func87, rfl, by kernel_rfl, Tryd.ntmps87, by kernel_rfl, by kernel_rfl⟩, by decide⟩

/-- bytes.Clone -/
abbrev r88_0 : List CO := [
  ⟨some 2, .mv (.c (.p (.s (.slice none 0 0)))), none⟩]
abbrev r88_1 : List CO := [
  ⟨some 3, .mv (.t 0), none⟩,
  ⟨some 4, .isnil false (.t 3), none⟩]
abbrev r88_2 : List CO := [
  ⟨some 2, .mv (.c (.p (.s (.slice none 0 0)))), none⟩]
abbrev r88_3 : List CO := [
  ⟨some 5, .bslice 1 0 ([.s (.int .u8 0)]) [], none⟩,
  ⟨some 6, .mv (.t 0), none⟩,
  ⟨some 7, .append 1 1 ([.s (.int .u8 0)]) (.t 5) (.t 6), none⟩,
  ⟨some 2, .mv (.t 7), none⟩]
abbrev c88 : CC := .seq (.reg r88_0) (.seq (.seq (.reg r88_1) (.cond (.t 4) (.seq (.reg r88_2) (.ret)) (.skip))) (.seq (.reg r88_3) (.rest [2] (.ret))))
theorem F88 : Fun Tryd.prog 88 8 c88 [.tmp 2] 1 := ⟨⟨Tryd.f88, _, Tryd.func88, rfl, by kernel_rfl, Tryd.ntmps88, by kernel_rfl, by kernel_rfl⟩, by decide⟩

/-- linnet/slc.Check -/
abbrev r89_0 : List CO := [
  ⟨some 1, .box (.t 0), none⟩,
  ⟨some 2, .mv (.c (.p (.s (.int .i64 0)))), none⟩]
abbrev r89_1 : List CO := [
  ⟨some 3, .faddr 0 (.t 1), none⟩,
  ⟨some 4, .load false 1 (.t 3), none⟩,
  ⟨some 5, .bin .lss (.t 4) (.c (.p (.s (.int .i64 0)))), none⟩,
  ⟨some 6, .mv (.t 5), none⟩,
  ⟨some 7, .faddr 0 (.t 1), some (6, false)⟩,
  ⟨some 8, .load false 1 (.t 7), some (6, false)⟩,
  ⟨some 9, .bin .gtr (.t 8) (.c (.p (.s (.int .i64 255)))), some (6, false)⟩,
  ⟨some 10, .pick (.t 6) (.c (.p (.s (.bool true)))) (.t 9), none⟩,
  ⟨some 11, .mv (.t 10), none⟩,
  ⟨some 12, .faddr 1 (.t 1), some (11, false)⟩,
  ⟨some 13, .load false 1 (.t 12), some (11, false)⟩,
  ⟨some 14, .bin .lss (.t 13) (.c (.p (.s (.int .i64 0)))), some (11, false)⟩,
  ⟨some 15, .pick (.t 11) (.c (.p (.s (.bool true)))) (.t 14), none⟩,
  ⟨some 16, .mv (.t 15), none⟩,
  ⟨some 17, .faddr 1 (.t 1), some (16, false)⟩,
  ⟨some 18, .load false 1 (.t 17), some (16, false)⟩,
  ⟨some 19, .bin .gtr (.t 18) (.c (.p (.s (.int .i64 3)))), some (16, false)⟩,
  ⟨some 20, .pick (.t 16) (.c (.p (.s (.bool true)))) (.t 19), none⟩]
abbrev r89_2 : List CO := [
  ⟨some 2, .mv (.c (.p (.s (.int .i64 1)))), none⟩]
abbrev r89_3 : List CO := [
  ⟨some 2, .mv (.c (.p (.s (.int .i64 0)))), none⟩]
abbrev c89 : CC := .seq (.reg r89_0) (.seq (.seq (.reg r89_1) (.rest [20] (.cond (.t 20) (.seq (.reg r89_2) (.ret)) (.skip)))) (.rest [] (.seq (.reg r89_3) (.ret))))
theorem F89 : Fun Tryd.prog 89 21 c89 [.tmp 2] 1 := ⟨⟨Tryd.f89, _, Tryd.func89, rfl, by kernel_rfl, Tryd.ntmps89, by kernel_rfl, by kernel_rfl⟩, by decide⟩

/-- linnet/slc.mark -/
abbrev r90_0 : List CO := [
  ⟨some 4, .mv (.c (.p (.s (.int .u8 0)))), none⟩]
abbrev r90_1 : List CO := [
  ⟨some 5, .mv (.t 0), none⟩]
abbrev r90_2 : List CO := [
  ⟨some 6, .mv (.t 1), none⟩,
  ⟨some 4, .mv (.t 6), none⟩]
abbrev r90_3 : List CO := [
  ⟨some 4, .mv (.c (.p (.s (.int .u8 0)))), none⟩]
abbrev c90 : CC := .seq (.reg r90_0) (.seq (.seq (.reg r90_1) (.cond (.t 5) (.seq (.reg r90_2) (.ret)) (.skip))) (.seq (.reg r90_3) (.ret)))
theorem F90 : Fun Tryd.prog 90 7 c90 [.tmp 4] 2 := ⟨⟨Tryd.f90, _, Tryd.func90, rfl, by kernel_rfl, Tryd.ntmps90, by kernel_rfl, by kernel_rfl⟩, by decide⟩

/-- bytes.trimRightByte -/
abbrev r91_0 : List CO := [
  ⟨some 4, .mv (.c (.p (.s (.slice none 0 0)))), none⟩]
abbrev r91_1 : List CO := [
  ⟨some 5, .mv (.t 0), none⟩,
  ⟨some 6, .len (.t 5), none⟩,
  ⟨some 7, .bin .gtr (.t 6) (.c (.p (.s (.int .i64 0)))), none⟩,
  ⟨some 8, .mv (.t 7), none⟩,
  ⟨some 9, .mv (.t 0), some (8, true)⟩,
  ⟨some 10, .mv (.t 0), some (8, true)⟩,
  ⟨some 11, .len (.t 10), some (8, true)⟩,
  ⟨some 12, .bin .sub (.t 11) (.c (.p (.s (.int .i64 1)))), some (8, true)⟩,
  ⟨some 13, .iaddrS 1 (.t 9) (.t 12), some (8, true)⟩,
  ⟨some 14, .load false 1 (.t 13), some (8, true)⟩,
  ⟨some 15, .mv (.t 1), some (8, true)⟩,
  ⟨some 16, .bin .eql (.t 14) (.t 15), some (8, true)⟩,
  ⟨some 17, .pick (.t 8) (.t 16) (.c (.p (.s (.bool false)))), none⟩]
abbrev r91_2 : List CO := [
  ⟨some 18, .mv (.t 0), none⟩,
  ⟨some 19, .mv (.t 0), none⟩,
  ⟨some 20, .len (.t 19), none⟩,
  ⟨some 21, .bin .sub (.t 20) (.c (.p (.s (.int .i64 1)))), none⟩,
  ⟨some 22, .slice 1 (.t 18) none (some (.t 21)), none⟩,
  ⟨some 0, .mv (.t 22), none⟩]
abbrev k91_1 : CC := .reg r91_2
abbrev l91_4 : CC := .seq (.seq (.reg r91_1) (.rest [0, 1, 17] (.cond (.t 17) (.skip) (.exit 0)))) (.rest [0, 1] (.block 1 k91_1))
abbrev k91_0 : CC := .loop l91_4
abbrev r91_3 : List CO := [
  ⟨some 23, .mv (.t 0), none⟩,
  ⟨some 4, .mv (.t 23), none⟩]
abbrev c91 : CC := .seq (.reg r91_0) (.seq (.block 0 k91_0) (.rest [0] (.seq (.reg r91_3) (.ret))))
theorem F91 : Fun Tryd.prog 91 24 c91 [.tmp 4] 2 := ⟨⟨Tryd.f91, _, Tryd.func91, rfl, by kernel_rfl, Tryd.ntmps91, by kernel_rfl, by kernel_rfl⟩, by decide⟩

end Go.Proofs.YtlijecknkpcgfaaDoor
