/- Part D of a proof: merged by program. -/
import Derived.Test.YtgmefkhincnajaaProg
import Derived.WalkKit
import Derived.Laws.Externs
import Derived.Lib.Bytealg
import Derived.Deep.Slices
import Derived.Test.YtgmefkhincnajaaPkC
import Derived.KernelRfl
namespace Go.Abs
open Go
def ingotref13_Leaf_r0 : List AOper := [
  ⟨some 2, .mov, [.c (.bool false)], none⟩]
def ingotref13_Leaf_r1 : List AOper := [
  ⟨some 3, .mov, [.t 0], none⟩,
  ⟨some 4, (.bin .neq), [.t 3, .c (.int .i64 10)], none⟩,
  ⟨some 5, .mov, [.t 4], none⟩,
  ⟨some 6, .mov, [.t 0], some (5, true)⟩,
  ⟨some 7, (.bin .neq), [.t 6, .c (.int .i64 11)], some (5, true)⟩,
  ⟨some 8, .pick, [.t 5, .t 7, .c (.bool false)], none⟩,
  ⟨some 9, .mov, [.t 8], none⟩,
  ⟨some 10, .mov, [.t 0], some (9, true)⟩,
  ⟨some 11, (.bin .neq), [.t 10, .c (.int .i64 12)], some (9, true)⟩,
  ⟨some 12, .pick, [.t 9, .t 11, .c (.bool false)], none⟩,
  ⟨some 13, .mov, [.t 12], none⟩,
  ⟨some 14, .mov, [.t 0], some (13, true)⟩,
  ⟨some 15, (.bin .neq), [.t 14, .c (.int .i64 13)], some (13, true)⟩,
  ⟨some 16, .pick, [.t 13, .t 15, .c (.bool false)], none⟩,
  ⟨some 2, .mov, [.t 16], none⟩]
def ingotref13_Leaf : AFunc := ⟨17, (.seq (.region ingotref13_Leaf_r0 [0, 6, 7, 10, 11, 14, 15]) (.seq (.region ingotref13_Leaf_r1 [2]) .ret)), [.t 2]⟩
def ingotref14_Check_r0 : List AOper := [
  ⟨some 2, (.box 6), [.t 0], none⟩,
  ⟨some 3, (.box 5), [.t 1], none⟩,
  ⟨some 4, .mov, [.c (.int .i64 0)], none⟩]
def ingotref14_Check_r1 : List AOper := [
  ⟨some 8, (.fad 0), [.t 3], none⟩,
  ⟨some 9, (.load false 1), [.t 8], none⟩]
def ingotref14_Check_r2 : List AOper := [
  ⟨some 10, (.fad 1), [.t 3], none⟩,
  ⟨some 11, (.load false 1), [.t 10], none⟩,
  ⟨some 12, (.bin .neq), [.t 11, .c (.int .i64 0)], none⟩,
  ⟨some 13, .mov, [.t 12], none⟩,
  ⟨some 14, (.fad 2), [.t 3], some (13, false)⟩,
  ⟨some 15, (.load false 1), [.t 14], some (13, false)⟩,
  ⟨some 16, (.bin .neq), [.t 15, .c (.int .i64 0)], some (13, false)⟩,
  ⟨some 17, .pick, [.t 13, .c (.bool true), .t 16], none⟩,
  ⟨some 18, .mov, [.t 17], none⟩,
  ⟨some 19, (.fad 3), [.t 3], some (18, false)⟩,
  ⟨some 20, (.load false 1), [.t 19], some (18, false)⟩,
  ⟨some 21, .lens, [.t 20], some (18, false)⟩,
  ⟨some 22, (.bin .gtr), [.t 21, .c (.int .i64 0)], some (18, false)⟩,
  ⟨some 23, .pick, [.t 18, .c (.bool true), .t 22], none⟩,
  ⟨some 24, .mov, [.t 23], none⟩,
  ⟨some 25, (.fad 4), [.t 3], some (24, false)⟩,
  ⟨some 26, (.load false 1), [.t 25], some (24, false)⟩,
  ⟨some 27, .lens, [.t 26], some (24, false)⟩,
  ⟨some 28, (.bin .gtr), [.t 27, .c (.int .i64 0)], some (24, false)⟩,
  ⟨some 29, .pick, [.t 24, .c (.bool true), .t 28], none⟩]
def ingotref14_Check_r3 : List AOper := [
  ⟨some 4, .mov, [.c (.int .i64 1)], none⟩]
def ingotref14_Check_r4 : List AOper := [
  ⟨some 4, .mov, [.c (.int .i64 0)], none⟩]
def ingotref14_Check_r5 : List AOper := [
  ⟨some 30, (.load true 6), [.t 2], none⟩,
  ⟨some 31, (.fad 1), [.t 3], none⟩,
  ⟨some 32, (.load false 1), [.t 31], none⟩,
  ⟨some 33, (.fad 2), [.t 3], none⟩,
  ⟨some 34, (.load false 1), [.t 33], none⟩,
  ⟨some 35, (.call f_ingotref14_Numbers), [.t 30, .t 32, .t 34], none⟩,
  ⟨some 36, .unot, [.t 35], none⟩,
  ⟨some 37, .mov, [.t 36], none⟩,
  ⟨some 38, (.fad 3), [.t 3], some (37, false)⟩,
  ⟨some 39, (.load false 1), [.t 38], some (37, false)⟩,
  ⟨some 40, .lens, [.t 39], some (37, false)⟩,
  ⟨some 41, (.bin .gtr), [.t 40, .c (.int .i64 0)], some (37, false)⟩,
  ⟨some 42, .mov, [.t 41], some (37, false)⟩,
  ⟨some 43, (.fad 0), [.t 2], some (42, true)⟩,
  ⟨some 44, (.load false 1), [.t 43], some (42, true)⟩,
  ⟨some 45, (.call f_ingotref14_Texts), [.t 44], some (42, true)⟩,
  ⟨some 46, .unot, [.t 45], some (42, true)⟩,
  ⟨some 47, .pick, [.t 42, .t 46, .c (.bool false)], some (37, false)⟩,
  ⟨some 48, .pick, [.t 37, .c (.bool true), .t 47], none⟩,
  ⟨some 49, .mov, [.t 48], none⟩,
  ⟨some 50, (.fad 4), [.t 3], some (49, false)⟩,
  ⟨some 51, (.load false 1), [.t 50], some (49, false)⟩,
  ⟨some 52, .lens, [.t 51], some (49, false)⟩,
  ⟨some 53, (.bin .gtr), [.t 52, .c (.int .i64 0)], some (49, false)⟩,
  ⟨some 54, .mov, [.t 53], some (49, false)⟩,
  ⟨some 55, (.fad 0), [.t 2], some (54, true)⟩,
  ⟨some 56, (.load false 1), [.t 55], some (54, true)⟩,
  ⟨some 57, (.call f_ingotref13_Leaf), [.t 56], some (54, true)⟩,
  ⟨some 58, .pick, [.t 54, .t 57, .c (.bool false)], some (49, false)⟩,
  ⟨some 59, .pick, [.t 49, .c (.bool true), .t 58], none⟩]
def ingotref14_Check_r6 : List AOper := [
  ⟨some 4, .mov, [.c (.int .i64 1)], none⟩]
def ingotref14_Check_r7 : List AOper := [
  ⟨some 60, (.fad 3), [.t 3], none⟩,
  ⟨some 61, (.load false 1), [.t 60], none⟩,
  ⟨some 62, .lens, [.t 61], none⟩,
  ⟨some 63, (.bin .gtr), [.t 62, .c (.int .i64 4096)], none⟩,
  ⟨some 64, .mov, [.t 63], none⟩,
  ⟨some 65, (.fad 0), [.t 2], some (64, false)⟩,
  ⟨some 66, (.load false 1), [.t 65], some (64, false)⟩,
  ⟨some 67, (.bin .eql), [.t 66, .c (.int .i64 16)], some (64, false)⟩,
  ⟨some 68, .mov, [.t 67], some (64, false)⟩,
  ⟨some 69, (.fad 0), [.t 2], some (68, false)⟩,
  ⟨some 70, (.load false 1), [.t 69], some (68, false)⟩,
  ⟨some 71, (.bin .eql), [.t 70, .c (.int .i64 17)], some (68, false)⟩,
  ⟨some 72, .pick, [.t 68, .c (.bool true), .t 71], some (64, false)⟩,
  ⟨some 73, .mov, [.t 72], some (64, false)⟩,
  ⟨some 74, (.fad 3), [.t 3], some (73, true)⟩,
  ⟨some 75, (.load false 1), [.t 74], some (73, true)⟩,
  ⟨some 76, (.callp f_ingotref14_Signs), [.t 75], some (73, true)⟩,
  ⟨some 77, (.fad 3), [.t 2], some (73, true)⟩,
  ⟨some 78, (.load false 1), [.t 77], some (73, true)⟩,
  ⟨some 79, (.bin .gtr), [.t 76, .t 78], some (73, true)⟩,
  ⟨some 80, .pick, [.t 73, .t 79, .c (.bool false)], some (64, false)⟩,
  ⟨some 81, .pick, [.t 64, .c (.bool true), .t 80], none⟩]
def ingotref14_Check_r8 : List AOper := [
  ⟨some 4, .mov, [.c (.int .i64 4)], none⟩]
def ingotref14_Check_r9 : List AOper := [
  ⟨some 82, (.fad 4), [.t 3], none⟩,
  ⟨some 83, (.load false 1), [.t 82], none⟩,
  ⟨some 84, .lens, [.t 83], none⟩,
  ⟨some 5, .mov, [.t 84], none⟩]
def ingotref14_Check_r10 : List AOper := [
  ⟨some 85, (.fad 0), [.t 2], none⟩,
  ⟨some 86, (.load false 1), [.t 85], none⟩]
def ingotref14_Check_r11 : List AOper := [
  ⟨some 88, (.bin .eql), [.t 86, .c (.int .i64 10)], none⟩,
  ⟨some 87, .mov, [.t 88], none⟩]
def ingotref14_Check_r12 : List AOper := [
  ⟨some 89, .mov, [.t 5], none⟩,
  ⟨some 90, (.bin .gtr), [.t 89, .c (.int .i64 16384)], none⟩]
def ingotref14_Check_r13 : List AOper := [
  ⟨some 4, .mov, [.c (.int .i64 4)], none⟩]
def ingotref14_Check_r14 : List AOper := [
  ⟨some 92, (.bin .eql), [.t 86, .c (.int .i64 11)], none⟩,
  ⟨some 91, .mov, [.t 92], none⟩]
def ingotref14_Check_r15 : List AOper := [
  ⟨some 93, .mov, [.t 5], none⟩,
  ⟨some 94, (.bin .rem), [.t 93, .c (.int .i64 2)], none⟩,
  ⟨some 95, (.bin .neq), [.t 94, .c (.int .i64 0)], none⟩]
def ingotref14_Check_r16 : List AOper := [
  ⟨some 4, .mov, [.c (.int .i64 1)], none⟩]
def ingotref14_Check_r17 : List AOper := [
  ⟨some 96, .mov, [.t 5], none⟩,
  ⟨some 97, (.bin .gtr), [.t 96, .c (.int .i64 32768)], none⟩]
def ingotref14_Check_r18 : List AOper := [
  ⟨some 4, .mov, [.c (.int .i64 4)], none⟩]
def ingotref14_Check_r19 : List AOper := [
  ⟨some 99, (.bin .eql), [.t 86, .c (.int .i64 12)], none⟩,
  ⟨some 98, .mov, [.t 99], none⟩]
def ingotref14_Check_r20 : List AOper := [
  ⟨some 100, .mov, [.t 5], none⟩,
  ⟨some 101, (.fad 2), [.t 2], none⟩,
  ⟨some 102, (.load false 1), [.t 101], none⟩,
  ⟨some 103, .lens, [.t 102], none⟩,
  ⟨some 104, (.bin .neq), [.t 100, .t 103], none⟩]
def ingotref14_Check_r21 : List AOper := [
  ⟨some 4, .mov, [.c (.int .i64 1)], none⟩]
def ingotref14_Check_r22 : List AOper := [
  ⟨some 106, (.bin .eql), [.t 86, .c (.int .i64 13)], none⟩,
  ⟨some 105, .mov, [.t 106], none⟩]
def ingotref14_Check_r23 : List AOper := [
  ⟨some 107, .mov, [.t 5], none⟩,
  ⟨some 108, (.bin .neq), [.t 107, .c (.int .i64 1)], none⟩]
def ingotref14_Check_r24 : List AOper := [
  ⟨some 4, .mov, [.c (.int .i64 1)], none⟩]
def ingotref14_Check_r25 : List AOper := [
  ⟨some 6, .mov, [.c (.int .i64 0)], none⟩]
def ingotref14_Check_r26 : List AOper := [
  ⟨some 109, .mov, [.t 6], none⟩,
  ⟨some 110, .mov, [.t 5], none⟩,
  ⟨some 111, (.bin .lss), [.t 109, .t 110], none⟩]
def ingotref14_Check_r27 : List AOper := [
  ⟨some 114, (.fad 0), [.t 2], none⟩,
  ⟨some 115, (.load false 1), [.t 114], none⟩,
  ⟨some 116, (.bin .eql), [.t 115, .c (.int .i64 11)], none⟩,
  ⟨some 117, .mov, [.t 116], none⟩,
  ⟨some 118, .mov, [.t 6], some (117, true)⟩,
  ⟨some 119, (.bin .rem), [.t 118, .c (.int .i64 2)], some (117, true)⟩,
  ⟨some 120, (.bin .eql), [.t 119, .c (.int .i64 0)], some (117, true)⟩,
  ⟨some 121, .pick, [.t 117, .t 120, .c (.bool false)], none⟩,
  ⟨some 122, .mov, [.t 121], none⟩,
  ⟨some 123, (.fad 4), [.t 3], some (122, true)⟩,
  ⟨some 124, (.load false 1), [.t 123], some (122, true)⟩,
  ⟨some 125, .mov, [.t 6], some (122, true)⟩,
  ⟨some 126, (.iad 5), [.t 124, .t 125], some (122, true)⟩,
  ⟨some 127, (.fad 0), [.t 126], some (122, true)⟩,
  ⟨some 128, (.load false 1), [.t 127], some (122, true)⟩,
  ⟨some 129, .pick, [.t 122, .t 128, .c (.bool false)], none⟩]
def ingotref14_Check_r28 : List AOper := [
  ⟨some 4, .mov, [.c (.int .i64 1)], none⟩]
def ingotref14_Check_r29 : List AOper := [
  ⟨some 130, (.load true 6), [.t 2], none⟩,
  ⟨some 131, (.load true 5), [.t 3], none⟩,
  ⟨some 132, .mov, [.t 6], none⟩,
  ⟨some 133, (.callp f_ingotref14_Kid), [.t 130, .t 131, .t 132], none⟩,
  ⟨some 134, (.fad 4), [.t 3], none⟩,
  ⟨some 135, (.load false 1), [.t 134], none⟩,
  ⟨some 136, .mov, [.t 6], none⟩,
  ⟨some 137, (.iad 5), [.t 135, .t 136], none⟩,
  ⟨some 138, (.load true 5), [.t 137], none⟩,
  ⟨some 139, (.call f_ingotref14_Check), [.t 133, .t 138], none⟩,
  ⟨some 7, .mov, [.t 139], none⟩]
def ingotref14_Check_r30 : List AOper := [
  ⟨some 140, .mov, [.t 7], none⟩,
  ⟨some 141, (.bin .neq), [.t 140, .c (.int .i64 0)], none⟩]
def ingotref14_Check_r31 : List AOper := [
  ⟨some 142, .mov, [.t 7], none⟩,
  ⟨some 4, .mov, [.t 142], none⟩]
def ingotref14_Check_r32 : List AOper := [
  ⟨some 112, .mov, [.t 6], none⟩,
  ⟨some 113, (.bin .add), [.t 112, .c (.int .i64 1)], none⟩,
  ⟨some 6, .mov, [.t 113], none⟩]
def ingotref14_Check_l0 : ACode := (.seq (.seq (.region ingotref14_Check_r26 [2, 3, 5, 6, 111, 118, 119, 120, 123, 124, 125, 126, 127, 128]) (.cond (.t 111) .skip (.exit 1))) (.seq (.block 2 (.seq (.seq (.region ingotref14_Check_r27 [2, 3, 5, 6, 118, 119, 120, 123, 124, 125, 126, 127, 128, 129]) (.cond (.t 129) (.seq (.region ingotref14_Check_r28 [4]) .ret) .skip)) (.seq (.region ingotref14_Check_r29 [2, 3, 5, 6, 7, 118, 119, 120, 123, 124, 125, 126, 127, 128]) (.seq (.region ingotref14_Check_r30 [2, 3, 5, 6, 7, 118, 119, 120, 123, 124, 125, 126, 127, 128, 141]) (.cond (.t 141) (.seq (.region ingotref14_Check_r31 [4]) .ret) .skip))))) (.region ingotref14_Check_r32 [2, 3, 5, 6, 118, 119, 120, 123, 124, 125, 126, 127, 128])))
def ingotref14_Check_r33 : List AOper := [
  ⟨some 4, .mov, [.c (.int .i64 0)], none⟩]
def ingotref14_Check : AFunc := ⟨143, (.seq (.region ingotref14_Check_r0 [2, 3, 14, 15, 16, 19, 20, 21, 22, 25, 26, 27, 28, 38, 39, 40, 41, 42, 43, 44, 45, 46, 47, 50, 51, 52, 53, 54, 55, 56, 57, 58, 65, 66, 67, 68, 69, 70, 71, 72, 73, 74, 75, 76, 77, 78, 79, 80, 118, 119, 120, 123, 124, 125, 126, 127, 128]) (.seq (.seq (.region ingotref14_Check_r1 [2, 3, 9, 14, 15, 16, 19, 20, 21, 22, 25, 26, 27, 28, 38, 39, 40, 41, 42, 43, 44, 45, 46, 47, 50, 51, 52, 53, 54, 55, 56, 57, 58, 65, 66, 67, 68, 69, 70, 71, 72, 73, 74, 75, 76, 77, 78, 79, 80, 118, 119, 120, 123, 124, 125, 126, 127, 128]) (.cond (.t 9) (.seq (.seq (.region ingotref14_Check_r2 [29]) (.cond (.t 29) (.seq (.region ingotref14_Check_r3 [4]) .ret) .skip)) (.seq (.region ingotref14_Check_r4 [4]) .ret)) .skip)) (.seq (.seq (.region ingotref14_Check_r5 [2, 3, 59, 65, 66, 67, 68, 69, 70, 71, 72, 73, 74, 75, 76, 77, 78, 79, 80, 118, 119, 120, 123, 124, 125, 126, 127, 128]) (.cond (.t 59) (.seq (.region ingotref14_Check_r6 [4]) .ret) .skip)) (.seq (.seq (.region ingotref14_Check_r7 [2, 3, 81, 118, 119, 120, 123, 124, 125, 126, 127, 128]) (.cond (.t 81) (.seq (.region ingotref14_Check_r8 [4]) .ret) .skip)) (.seq (.region ingotref14_Check_r9 [2, 3, 5, 118, 119, 120, 123, 124, 125, 126, 127, 128]) (.seq (.seq (.region ingotref14_Check_r10 [2, 3, 5, 86, 118, 119, 120, 123, 124, 125, 126, 127, 128]) (.block 0 (.seq (.region ingotref14_Check_r11 [2, 3, 5, 86, 87, 118, 119, 120, 123, 124, 125, 126, 127, 128]) (.cond (.t 87) (.seq (.region ingotref14_Check_r12 [2, 3, 5, 90, 118, 119, 120, 123, 124, 125, 126, 127, 128]) (.cond (.t 90) (.seq (.region ingotref14_Check_r13 [4]) .ret) .skip)) (.seq (.region ingotref14_Check_r14 [2, 3, 5, 86, 91, 118, 119, 120, 123, 124, 125, 126, 127, 128]) (.cond (.t 91) (.seq (.seq (.region ingotref14_Check_r15 [2, 3, 5, 95, 118, 119, 120, 123, 124, 125, 126, 127, 128]) (.cond (.t 95) (.seq (.region ingotref14_Check_r16 [4]) .ret) .skip)) (.seq (.region ingotref14_Check_r17 [2, 3, 5, 97, 118, 119, 120, 123, 124, 125, 126, 127, 128]) (.cond (.t 97) (.seq (.region ingotref14_Check_r18 [4]) .ret) .skip))) (.seq (.region ingotref14_Check_r19 [2, 3, 5, 86, 98, 118, 119, 120, 123, 124, 125, 126, 127, 128]) (.cond (.t 98) (.seq (.region ingotref14_Check_r20 [2, 3, 5, 104, 118, 119, 120, 123, 124, 125, 126, 127, 128]) (.cond (.t 104) (.seq (.region ingotref14_Check_r21 [4]) .ret) .skip)) (.seq (.region ingotref14_Check_r22 [2, 3, 5, 105, 118, 119, 120, 123, 124, 125, 126, 127, 128]) (.cond (.t 105) (.seq (.region ingotref14_Check_r23 [2, 3, 5, 108, 118, 119, 120, 123, 124, 125, 126, 127, 128]) (.cond (.t 108) (.seq (.region ingotref14_Check_r24 [4]) .ret) .skip)) .skip)))))))))) (.seq (.seq (.region ingotref14_Check_r25 [2, 3, 5, 6, 118, 119, 120, 123, 124, 125, 126, 127, 128]) (.block 1 (.loop ingotref14_Check_l0))) (.seq (.region ingotref14_Check_r33 [4]) .ret)))))))), [.t 4]⟩
def ingotref14_Texts_r0 : List AOper := [
  ⟨some 2, .mov, [.c (.bool false)], none⟩]
def ingotref14_Texts_r1 : List AOper := [
  ⟨some 3, .mov, [.t 0], none⟩,
  ⟨some 4, (.bin .eql), [.t 3, .c (.int .i64 7)], none⟩,
  ⟨some 5, .mov, [.t 4], none⟩,
  ⟨some 6, .mov, [.t 0], some (5, false)⟩,
  ⟨some 7, (.bin .eql), [.t 6, .c (.int .i64 16)], some (5, false)⟩,
  ⟨some 8, .pick, [.t 5, .c (.bool true), .t 7], none⟩,
  ⟨some 9, .mov, [.t 8], none⟩,
  ⟨some 10, .mov, [.t 0], some (9, false)⟩,
  ⟨some 11, (.bin .eql), [.t 10, .c (.int .i64 17)], some (9, false)⟩,
  ⟨some 12, .pick, [.t 9, .c (.bool true), .t 11], none⟩,
  ⟨some 13, .mov, [.t 12], none⟩,
  ⟨some 14, .mov, [.t 0], some (13, false)⟩,
  ⟨some 15, (.bin .eql), [.t 14, .c (.int .i64 8)], some (13, false)⟩,
  ⟨some 16, .pick, [.t 13, .c (.bool true), .t 15], none⟩,
  ⟨some 2, .mov, [.t 16], none⟩]
def ingotref14_Texts : AFunc := ⟨17, (.seq (.region ingotref14_Texts_r0 [0, 6, 7, 10, 11, 14, 15]) (.seq (.region ingotref14_Texts_r1 [2]) .ret)), [.t 2]⟩
def value_Compare_r0 : List AOper := [
  ⟨some 3, (.box 6), [.t 0], none⟩,
  ⟨some 4, (.box 5), [.t 1], none⟩,
  ⟨some 5, (.box 5), [.t 2], none⟩,
  ⟨some 6, .mov, [.c (.int .i64 0)], none⟩,
  ⟨some 7, .mov, [.c (.bool false)], none⟩]
def value_Compare_r1 : List AOper := [
  ⟨some 9, (.fad 0), [.t 3], none⟩,
  ⟨some 10, (.load false 1), [.t 9], none⟩,
  ⟨some 11, (.call f_types_Leaf), [.t 10], none⟩,
  ⟨some 12, .unot, [.t 11], none⟩,
  ⟨some 13, .mov, [.t 12], none⟩,
  ⟨some 14, (.fad 0), [.t 4], some (13, false)⟩,
  ⟨some 15, (.load false 1), [.t 14], some (13, false)⟩,
  ⟨some 16, .pick, [.t 13, .c (.bool true), .t 15], none⟩,
  ⟨some 17, .mov, [.t 16], none⟩,
  ⟨some 18, (.fad 0), [.t 5], some (17, false)⟩,
  ⟨some 19, (.load false 1), [.t 18], some (17, false)⟩,
  ⟨some 20, .pick, [.t 17, .c (.bool true), .t 19], none⟩,
  ⟨some 8, .mov, [.t 20], none⟩]
def value_Compare_r2 : List AOper := [
  ⟨some 6, .mov, [.c (.int .i64 0)], none⟩,
  ⟨some 7, .mov, [.c (.bool false)], none⟩]
def value_Compare_r3 : List AOper := [
  ⟨some 22, (.fad 0), [.t 3], none⟩,
  ⟨some 23, (.load false 1), [.t 22], none⟩,
  ⟨some 24, (.call f_value_text), [.t 23], none⟩,
  ⟨some 21, .mov, [.t 24], none⟩]
def value_Compare_r4 : List AOper := [
  ⟨some 25, (.fad 3), [.t 4], none⟩,
  ⟨some 26, (.load false 1), [.t 25], none⟩,
  ⟨some 27, (.fad 3), [.t 5], none⟩,
  ⟨some 28, (.load false 1), [.t 27], none⟩,
  ⟨some 29, (.call f_bytes_Compare), [.t 26, .t 28], none⟩,
  ⟨some 6, .mov, [.t 29], none⟩,
  ⟨some 7, .mov, [.c (.bool true)], none⟩]
def value_Compare_r5 : List AOper := [
  ⟨some 30, (.fad 1), [.t 4], none⟩,
  ⟨some 31, (.load false 1), [.t 30], none⟩,
  ⟨some 32, (.fad 1), [.t 5], none⟩,
  ⟨some 33, (.load false 1), [.t 32], none⟩,
  ⟨some 34, (.callp f_cmp_Compare_int64), [.t 31, .t 33], none⟩,
  ⟨some 35, (.fad 2), [.t 4], none⟩,
  ⟨some 36, (.load false 1), [.t 35], none⟩,
  ⟨some 37, (.fad 2), [.t 5], none⟩,
  ⟨some 38, (.load false 1), [.t 37], none⟩,
  ⟨some 39, (.call f_cmp_Compare_int), [.t 36, .t 38], none⟩,
  ⟨some 40, (.bsl 1), [.t 34, .t 39], none⟩,
  ⟨some 41, (.call f_cmp_Or_int), [.t 40], none⟩,
  ⟨some 6, .mov, [.t 41], none⟩,
  ⟨some 7, .mov, [.c (.bool true)], none⟩]
def value_Compare : AFunc := ⟨42, (.seq (.region value_Compare_r0 [3, 4, 5, 14, 15, 18, 19]) (.seq (.block 0 (.seq (.region value_Compare_r1 [3, 4, 5, 8]) (.cond (.t 8) (.seq (.region value_Compare_r2 [6, 7]) .ret) (.seq (.region value_Compare_r3 [4, 5, 21]) (.cond (.t 21) (.seq (.region value_Compare_r4 [6, 7]) .ret) .skip))))) (.seq (.region value_Compare_r5 [6, 7]) .ret))), [.t 6, .t 7]⟩
def ingotref14_Numbers_r0 : List AOper := [
  ⟨some 3, (.box 6), [.t 0], none⟩,
  ⟨some 6, .mov, [.c (.bool false)], none⟩]
def ingotref14_Numbers_r1 : List AOper := [
  ⟨some 7, .mov, [.t 2], none⟩,
  ⟨some 8, (.bin .neq), [.t 7, .c (.int .i64 0)], none⟩,
  ⟨some 9, .mov, [.t 8], none⟩,
  ⟨some 10, (.fad 0), [.t 3], some (9, true)⟩,
  ⟨some 11, (.load false 1), [.t 10], some (9, true)⟩,
  ⟨some 12, (.bin .neq), [.t 11, .c (.int .i64 9)], some (9, true)⟩,
  ⟨some 13, .pick, [.t 9, .t 12, .c (.bool false)], none⟩]
def ingotref14_Numbers_r2 : List AOper := [
  ⟨some 6, .mov, [.c (.bool false)], none⟩]
def ingotref14_Numbers_r3 : List AOper := [
  ⟨some 14, (.fad 0), [.t 3], none⟩,
  ⟨some 15, (.load false 1), [.t 14], none⟩]
def ingotref14_Numbers_r4 : List AOper := [
  ⟨some 17, (.bin .eql), [.t 15, .c (.int .i64 0)], none⟩,
  ⟨some 16, .mov, [.t 17], none⟩]
def ingotref14_Numbers_r5 : List AOper := [
  ⟨some 18, .mov, [.t 1], none⟩,
  ⟨some 19, (.bin .eql), [.t 18, .c (.int .i64 0)], none⟩,
  ⟨some 20, .mov, [.t 19], none⟩,
  ⟨some 21, .mov, [.t 1], some (20, false)⟩,
  ⟨some 22, (.bin .eql), [.t 21, .c (.int .i64 1)], some (20, false)⟩,
  ⟨some 23, .pick, [.t 20, .c (.bool true), .t 22], none⟩,
  ⟨some 6, .mov, [.t 23], none⟩]
def ingotref14_Numbers_r6 : List AOper := [
  ⟨some 25, (.bin .eql), [.t 15, .c (.int .i64 1)], none⟩,
  ⟨some 24, .mov, [.t 25], none⟩]
def ingotref14_Numbers_r7 : List AOper := [
  ⟨some 26, .mov, [.t 1], none⟩,
  ⟨some 27, (.bin .geq), [.t 26, .c (.int .i64 (-128))], none⟩,
  ⟨some 28, .mov, [.t 27], none⟩,
  ⟨some 29, .mov, [.t 1], some (28, true)⟩,
  ⟨some 30, (.bin .leq), [.t 29, .c (.int .i64 127)], some (28, true)⟩,
  ⟨some 31, .pick, [.t 28, .t 30, .c (.bool false)], none⟩,
  ⟨some 6, .mov, [.t 31], none⟩]
def ingotref14_Numbers_r8 : List AOper := [
  ⟨some 33, (.bin .eql), [.t 15, .c (.int .i64 2)], none⟩,
  ⟨some 32, .mov, [.t 33], none⟩]
def ingotref14_Numbers_r9 : List AOper := [
  ⟨some 34, .mov, [.t 1], none⟩,
  ⟨some 35, (.bin .geq), [.t 34, .c (.int .i64 (-32768))], none⟩,
  ⟨some 36, .mov, [.t 35], none⟩,
  ⟨some 37, .mov, [.t 1], some (36, true)⟩,
  ⟨some 38, (.bin .leq), [.t 37, .c (.int .i64 32767)], some (36, true)⟩,
  ⟨some 39, .pick, [.t 36, .t 38, .c (.bool false)], none⟩,
  ⟨some 6, .mov, [.t 39], none⟩]
def ingotref14_Numbers_r10 : List AOper := [
  ⟨some 41, (.bin .eql), [.t 15, .c (.int .i64 3)], none⟩,
  ⟨some 40, .mov, [.t 41], none⟩]
def ingotref14_Numbers_r11 : List AOper := [
  ⟨some 42, (.bin .eql), [.t 15, .c (.int .i64 15)], none⟩,
  ⟨some 40, .mov, [.t 42], none⟩]
def ingotref14_Numbers_r12 : List AOper := [
  ⟨some 43, .mov, [.t 1], none⟩,
  ⟨some 44, (.bin .geq), [.t 43, .c (.int .i64 (-2147483648))], none⟩,
  ⟨some 45, .mov, [.t 44], none⟩,
  ⟨some 46, .mov, [.t 1], some (45, true)⟩,
  ⟨some 47, (.bin .leq), [.t 46, .c (.int .i64 2147483647)], some (45, true)⟩,
  ⟨some 48, .pick, [.t 45, .t 47, .c (.bool false)], none⟩,
  ⟨some 6, .mov, [.t 48], none⟩]
def ingotref14_Numbers_r13 : List AOper := [
  ⟨some 50, (.bin .eql), [.t 15, .c (.int .i64 4)], none⟩,
  ⟨some 49, .mov, [.t 50], none⟩]
def ingotref14_Numbers_r14 : List AOper := [
  ⟨some 6, .mov, [.c (.bool true)], none⟩]
def ingotref14_Numbers_r15 : List AOper := [
  ⟨some 52, (.bin .eql), [.t 15, .c (.int .i64 14)], none⟩,
  ⟨some 51, .mov, [.t 52], none⟩]
def ingotref14_Numbers_r16 : List AOper := [
  ⟨some 53, .mov, [.t 1], none⟩,
  ⟨some 54, (.callp f_ingotref11_Digits), [.t 53], none⟩,
  ⟨some 55, (.fad 4), [.t 3], none⟩,
  ⟨some 56, (.load false 1), [.t 55], none⟩,
  ⟨some 57, (.bin .leq), [.t 54, .t 56], none⟩,
  ⟨some 6, .mov, [.t 57], none⟩]
def ingotref14_Numbers_r17 : List AOper := [
  ⟨some 59, (.bin .eql), [.t 15, .c (.int .i64 9)], none⟩,
  ⟨some 58, .mov, [.t 59], none⟩]
def ingotref14_Numbers_r18 : List AOper := [
  ⟨some 60, .mov, [.t 1], none⟩,
  ⟨some 61, .mov, [.t 2], none⟩,
  ⟨some 62, (.call f_ingotref12_Check), [.t 60, .t 61], none⟩,
  ⟨some 6, .mov, [.t 62], none⟩]
def ingotref14_Numbers_r19 : List AOper := [
  ⟨some 64, (.bin .eql), [.t 15, .c (.int .i64 13)], none⟩,
  ⟨some 63, .mov, [.t 64], none⟩]
def ingotref14_Numbers_r20 : List AOper := [
  ⟨some 65, .mov, [.t 1], none⟩,
  ⟨some 66, (.bin .geq), [.t 65, .c (.int .i64 0)], none⟩,
  ⟨some 67, .mov, [.t 66], none⟩,
  ⟨some 68, .mov, [.t 1], some (67, true)⟩,
  ⟨some 69, (.fad 2), [.t 3], some (67, true)⟩,
  ⟨some 70, (.load false 1), [.t 69], some (67, true)⟩,
  ⟨some 71, .lens, [.t 70], some (67, true)⟩,
  ⟨some 72, (.bin .lss), [.t 68, .t 71], some (67, true)⟩,
  ⟨some 73, .pick, [.t 67, .t 72, .c (.bool false)], none⟩,
  ⟨some 6, .mov, [.t 73], none⟩]
def ingotref14_Numbers_r21 : List AOper := [
  ⟨some 74, .mov, [.t 1], none⟩,
  ⟨some 75, (.bin .eql), [.t 74, .c (.int .i64 0)], none⟩,
  ⟨some 6, .mov, [.t 75], none⟩]
def ingotref14_Numbers : AFunc := ⟨76, (.seq (.region ingotref14_Numbers_r0 [1, 2, 3, 10, 11, 12, 21, 22, 29, 30, 37, 38, 46, 47, 68, 69, 70, 71, 72]) (.seq (.seq (.region ingotref14_Numbers_r1 [1, 2, 3, 13, 21, 22, 29, 30, 37, 38, 46, 47, 68, 69, 70, 71, 72]) (.cond (.t 13) (.seq (.region ingotref14_Numbers_r2 [6]) .ret) .skip)) (.seq (.seq (.region ingotref14_Numbers_r3 [1, 2, 3, 15, 21, 22, 29, 30, 37, 38, 46, 47, 68, 69, 70, 71, 72]) (.block 0 (.seq (.region ingotref14_Numbers_r4 [1, 2, 3, 15, 16, 21, 22, 29, 30, 37, 38, 46, 47, 68, 69, 70, 71, 72]) (.cond (.t 16) (.seq (.region ingotref14_Numbers_r5 [6]) .ret) (.seq (.region ingotref14_Numbers_r6 [1, 2, 3, 15, 24, 29, 30, 37, 38, 46, 47, 68, 69, 70, 71, 72]) (.cond (.t 24) (.seq (.region ingotref14_Numbers_r7 [6]) .ret) (.seq (.region ingotref14_Numbers_r8 [1, 2, 3, 15, 32, 37, 38, 46, 47, 68, 69, 70, 71, 72]) (.cond (.t 32) (.seq (.region ingotref14_Numbers_r9 [6]) .ret) (.seq (.seq (.region ingotref14_Numbers_r10 [1, 2, 3, 15, 40, 46, 47, 68, 69, 70, 71, 72]) (.cond (.t 40) .skip (.region ingotref14_Numbers_r11 [1, 2, 3, 15, 40, 46, 47, 68, 69, 70, 71, 72]))) (.cond (.t 40) (.seq (.region ingotref14_Numbers_r12 [6]) .ret) (.seq (.region ingotref14_Numbers_r13 [1, 2, 3, 15, 49, 68, 69, 70, 71, 72]) (.cond (.t 49) (.seq (.region ingotref14_Numbers_r14 [6]) .ret) (.seq (.region ingotref14_Numbers_r15 [1, 2, 3, 15, 51, 68, 69, 70, 71, 72]) (.cond (.t 51) (.seq (.region ingotref14_Numbers_r16 [6]) .ret) (.seq (.region ingotref14_Numbers_r17 [1, 2, 3, 15, 58, 68, 69, 70, 71, 72]) (.cond (.t 58) (.seq (.region ingotref14_Numbers_r18 [6]) .ret) (.seq (.region ingotref14_Numbers_r19 [1, 3, 63, 68, 69, 70, 71, 72]) (.cond (.t 63) (.seq (.region ingotref14_Numbers_r20 [6]) .ret) .skip)))))))))))))))))) (.seq (.region ingotref14_Numbers_r21 [6]) .ret)))), [.t 6]⟩
def ingotref14_Signs_r0 : List AOper := [
  ⟨some 2, .mov, [.c (.int .i64 0)], none⟩]
def ingotref14_Signs_r1 : List AOper := [
  ⟨some 3, .mov, [.c (.int .i64 0)], none⟩]
def ingotref14_Signs_r2 : List AOper := [
  ⟨some 4, .mov, [.c (.int .i64 0)], none⟩]
def ingotref14_Signs_r3 : List AOper := [
  ⟨some 5, .mov, [.t 4], none⟩,
  ⟨some 6, .mov, [.t 0], none⟩,
  ⟨some 7, .lens, [.t 6], none⟩,
  ⟨some 8, (.bin .lss), [.t 5, .t 7], none⟩]
def ingotref14_Signs_r4 : List AOper := [
  ⟨some 11, .mov, [.t 0], none⟩,
  ⟨some 12, .mov, [.t 4], none⟩,
  ⟨some 13, (.iad 1), [.t 11, .t 12], none⟩,
  ⟨some 14, (.load false 1), [.t 13], none⟩,
  ⟨some 15, (.bin .shr), [.t 14, .c (.int .u64 6)], none⟩,
  ⟨some 16, (.bin .neq), [.t 15, .c (.int .u8 2)], none⟩]
def ingotref14_Signs_r5 : List AOper := [
  ⟨some 17, .mov, [.t 3], none⟩,
  ⟨some 18, (.bin .add), [.t 17, .c (.int .i64 1)], none⟩,
  ⟨some 3, .mov, [.t 18], none⟩]
def ingotref14_Signs_r6 : List AOper := [
  ⟨some 9, .mov, [.t 4], none⟩,
  ⟨some 10, (.bin .add), [.t 9, .c (.int .i64 1)], none⟩,
  ⟨some 4, .mov, [.t 10], none⟩]
def ingotref14_Signs_l0 : ACode := (.seq (.seq (.region ingotref14_Signs_r3 [0, 3, 4, 8]) (.cond (.t 8) .skip (.exit 0))) (.seq (.block 1 (.seq (.region ingotref14_Signs_r4 [0, 3, 4, 16]) (.cond (.t 16) (.region ingotref14_Signs_r5 [0, 3, 4]) .skip))) (.region ingotref14_Signs_r6 [0, 3, 4])))
def ingotref14_Signs_r7 : List AOper := [
  ⟨some 19, .mov, [.t 3], none⟩,
  ⟨some 2, .mov, [.t 19], none⟩]
def ingotref14_Signs : AFunc := ⟨20, (.seq (.region ingotref14_Signs_r0 [0]) (.seq (.region ingotref14_Signs_r1 [0, 3]) (.seq (.seq (.region ingotref14_Signs_r2 [0, 3, 4]) (.block 0 (.loop ingotref14_Signs_l0))) (.seq (.region ingotref14_Signs_r7 [2]) .ret)))), [.t 2]⟩
def ingotref14_Kid_r0 : List AOper := [
  ⟨some 3, (.box 6), [.t 0], none⟩,
  ⟨some 4, (.box 5), [.t 1], none⟩,
  ⟨some 6, (.alloc (.agg [(.int .i64 0), (.slc 0 [] true), (.slc 0 [] true), (.int .i64 0), (.int .i64 0), (.int .i64 0)])), [], none⟩]
def ingotref14_Kid_r1 : List AOper := [
  ⟨some 7, (.fad 0), [.t 3], none⟩,
  ⟨some 8, (.load false 1), [.t 7], none⟩]
def ingotref14_Kid_r2 : List AOper := [
  ⟨some 10, (.bin .eql), [.t 8, .c (.int .i64 10)], none⟩,
  ⟨some 9, .mov, [.t 10], none⟩]
def ingotref14_Kid_r3 : List AOper := [
  ⟨some 11, (.fad 2), [.t 3], none⟩,
  ⟨some 12, (.load false 1), [.t 11], none⟩,
  ⟨some 13, (.iad 6), [.t 12, .c (.int .i64 0)], none⟩,
  ⟨some 14, (.load true 6), [.t 13], none⟩,
  ⟨none, (.store 6), [.t 6, .t 14], none⟩]
def ingotref14_Kid_r4 : List AOper := [
  ⟨some 16, (.bin .eql), [.t 8, .c (.int .i64 11)], none⟩,
  ⟨some 15, .mov, [.t 16], none⟩]
def ingotref14_Kid_r5 : List AOper := [
  ⟨some 17, (.fad 2), [.t 3], none⟩,
  ⟨some 18, (.load false 1), [.t 17], none⟩,
  ⟨some 19, .mov, [.t 2], none⟩,
  ⟨some 20, (.bin .rem), [.t 19, .c (.int .i64 2)], none⟩,
  ⟨some 21, (.iad 6), [.t 18, .t 20], none⟩,
  ⟨some 22, (.load true 6), [.t 21], none⟩,
  ⟨none, (.store 6), [.t 6, .t 22], none⟩]
def ingotref14_Kid_r6 : List AOper := [
  ⟨some 24, (.bin .eql), [.t 8, .c (.int .i64 13)], none⟩,
  ⟨some 23, .mov, [.t 24], none⟩]
def ingotref14_Kid_r7 : List AOper := [
  ⟨some 25, (.fad 2), [.t 3], none⟩,
  ⟨some 26, (.load false 1), [.t 25], none⟩,
  ⟨some 27, (.fad 1), [.t 4], none⟩,
  ⟨some 28, (.load false 1), [.t 27], none⟩,
  ⟨some 29, (.iad 6), [.t 26, .t 28], none⟩,
  ⟨some 30, (.load true 6), [.t 29], none⟩,
  ⟨none, (.store 6), [.t 6, .t 30], none⟩]
def ingotref14_Kid_r8 : List AOper := [
  ⟨some 31, (.fad 2), [.t 3], none⟩,
  ⟨some 32, (.load false 1), [.t 31], none⟩,
  ⟨some 33, .mov, [.t 2], none⟩,
  ⟨some 34, (.iad 6), [.t 32, .t 33], none⟩,
  ⟨some 35, (.load true 6), [.t 34], none⟩,
  ⟨none, (.store 6), [.t 6, .t 35], none⟩]
def ingotref14_Kid : AFunc := ⟨36, (.seq (.region ingotref14_Kid_r0 [2, 3, 4, 6]) (.seq (.seq (.region ingotref14_Kid_r1 [2, 3, 4, 6, 8]) (.block 0 (.seq (.region ingotref14_Kid_r2 [2, 3, 4, 6, 8, 9]) (.cond (.t 9) (.seq (.region ingotref14_Kid_r3 [6]) .ret) (.seq (.region ingotref14_Kid_r4 [2, 3, 4, 6, 8, 15]) (.cond (.t 15) (.seq (.region ingotref14_Kid_r5 [6]) .ret) (.seq (.region ingotref14_Kid_r6 [2, 3, 4, 6, 23]) (.cond (.t 23) (.seq (.region ingotref14_Kid_r7 [6]) .ret) .skip)))))))) (.seq (.region ingotref14_Kid_r8 [6]) .ret))), [.cell 6 true 6]⟩
def value_Clone_r0 : List AOper := [
  ⟨some 1, (.box 5), [.t 0], none⟩,
  ⟨some 2, (.alloc (.agg [(.bool false), (.int .i64 0), (.int .i64 0), (.slc 0 [] true), (.slc 0 [] true)])), [], none⟩]
def value_Clone_r1 : List AOper := [
  ⟨some 6, (.fad 3), [.t 1], none⟩,
  ⟨some 7, (.load false 1), [.t 6], none⟩,
  ⟨some 8, (.call f_slices_Clone_byte_byte), [.t 7], none⟩,
  ⟨some 9, (.call f_slices_Clip_byte_byte), [.t 8], none⟩,
  ⟨some 10, (.fad 3), [.t 1], none⟩,
  ⟨none, (.store 1), [.t 10, .t 9], none⟩]
def value_Clone_r2 : List AOper := [
  ⟨some 3, .mov, [.c (.slc 0 [] true)], none⟩]
def value_Clone_r3 : List AOper := [
  ⟨some 11, (.fad 4), [.t 1], none⟩,
  ⟨some 12, (.load false 1), [.t 11], none⟩,
  ⟨some 13, .lens, [.t 12], none⟩,
  ⟨some 14, .mov, [.c (.int .i64 0)], none⟩]
def value_Clone_r4 : List AOper := [
  ⟨some 15, (.bin .lss), [.t 14, .t 13], none⟩]
def value_Clone_r5 : List AOper := [
  ⟨some 16, (.iad 5), [.t 12, .t 14], none⟩,
  ⟨some 17, (.load true 5), [.t 16], none⟩,
  ⟨some 5, (.alloc (.agg [(.bool false), (.int .i64 0), (.int .i64 0), (.slc 0 [] true), (.slc 0 [] true)])), [], none⟩,
  ⟨none, (.store 5), [.t 5, .t 17], none⟩]
def value_Clone_r6 : List AOper := [
  ⟨some 18, .mov, [.t 3], none⟩,
  ⟨some 19, (.load true 5), [.t 5], none⟩,
  ⟨some 20, (.call f_value_Clone), [.t 19], none⟩,
  ⟨some 21, (.bsl 5), [.t 20], none⟩,
  ⟨some 22, (.app 5 72), [.t 18, .t 21], none⟩,
  ⟨some 3, .mov, [.t 22], none⟩]
def value_Clone_r7 : List AOper := [
  ⟨some 23, (.bin .add), [.t 14, .c (.int .i64 1)], none⟩,
  ⟨some 14, .mov, [.t 23], none⟩]
def value_Clone_l0 : ACode := (.seq (.region value_Clone_r4 [1, 2, 3, 12, 13, 14, 15]) (.seq (.cond (.t 15) .skip (.exit 0)) (.seq (.block 1 (.seq (.region value_Clone_r5 [1, 2, 3, 5, 12, 13, 14]) (.region value_Clone_r6 [1, 2, 3, 12, 13, 14]))) (.region value_Clone_r7 [1, 2, 3, 12, 13, 14]))))
def value_Clone_r8 : List AOper := [
  ⟨some 24, .mov, [.t 3], none⟩,
  ⟨some 25, (.call f_slices_Clip_api_Value_api_Value), [.t 24], none⟩,
  ⟨some 26, (.fad 4), [.t 1], none⟩,
  ⟨none, (.store 1), [.t 26, .t 25], none⟩]
def value_Clone_r9 : List AOper := [
  ⟨some 27, (.load true 5), [.t 1], none⟩,
  ⟨none, (.store 5), [.t 2, .t 27], none⟩]
def value_Clone : AFunc := ⟨28, (.seq (.region value_Clone_r0 [1, 2]) (.seq (.region value_Clone_r1 [1, 2]) (.seq (.region value_Clone_r2 [1, 2, 3]) (.seq (.seq (.region value_Clone_r3 [1, 2, 3, 12, 13, 14]) (.block 0 (.loop value_Clone_l0))) (.seq (.region value_Clone_r8 [1, 2]) (.seq (.region value_Clone_r9 [2]) .ret)))))), [.cell 2 true 5]⟩
def value_text_r0 : List AOper := [
  ⟨some 2, .mov, [.c (.bool false)], none⟩]
def value_text_r1 : List AOper := [
  ⟨some 3, .mov, [.t 0], none⟩]
def value_text_r2 : List AOper := [
  ⟨some 5, (.bin .eql), [.t 3, .c (.int .i64 7)], none⟩,
  ⟨some 4, .mov, [.t 5], none⟩]
def value_text_r3 : List AOper := [
  ⟨some 6, (.bin .eql), [.t 3, .c (.int .i64 8)], none⟩,
  ⟨some 4, .mov, [.t 6], none⟩]
def value_text_r4 : List AOper := [
  ⟨some 8, (.bin .eql), [.t 3, .c (.int .i64 16)], none⟩,
  ⟨some 7, .mov, [.t 8], none⟩]
def value_text_r5 : List AOper := [
  ⟨some 9, (.bin .eql), [.t 3, .c (.int .i64 17)], none⟩,
  ⟨some 7, .mov, [.t 9], none⟩]
def value_text_r6 : List AOper := [
  ⟨some 2, .mov, [.c (.bool true)], none⟩]
def value_text_r7 : List AOper := [
  ⟨some 2, .mov, [.c (.bool false)], none⟩]
def value_text : AFunc := ⟨10, (.seq (.region value_text_r0 [0]) (.seq (.seq (.region value_text_r1 [3]) (.block 0 (.seq (.block 2 (.block 1 (.seq (.seq (.seq (.seq (.region value_text_r2 [3, 4]) (.cond (.t 4) .skip (.region value_text_r3 [3, 4]))) (.cond (.t 4) (.exit 1) .skip)) (.seq (.seq (.region value_text_r4 [3, 7]) (.cond (.t 7) .skip (.region value_text_r5 [7]))) (.cond (.t 7) (.exit 2) .skip))) (.exit 0)))) (.seq (.seq (.region value_text_r6 [2]) .ret) (.exit 0))))) (.seq (.region value_text_r7 [2]) .ret))), [.t 2]⟩
def cmp_Or_int_r0 : List AOper := [
  ⟨some 2, .mov, [.c (.int .i64 0)], none⟩]
def cmp_Or_int_r1 : List AOper := [
  ⟨some 3, .mov, [.c (.int .i64 0)], none⟩]
def cmp_Or_int_r2 : List AOper := [
  ⟨some 6, .mov, [.t 0], none⟩,
  ⟨some 7, .lens, [.t 6], none⟩,
  ⟨some 8, .mov, [.c (.int .i64 0)], none⟩]
def cmp_Or_int_r3 : List AOper := [
  ⟨some 9, (.bin .lss), [.t 8, .t 7], none⟩]
def cmp_Or_int_r4 : List AOper := [
  ⟨some 10, (.iad 1), [.t 6, .t 8], none⟩,
  ⟨some 11, (.load false 1), [.t 10], none⟩,
  ⟨some 5, .mov, [.t 11], none⟩]
def cmp_Or_int_r5 : List AOper := [
  ⟨some 12, .mov, [.t 5], none⟩,
  ⟨some 13, .mov, [.t 3], none⟩,
  ⟨some 14, (.bin .neq), [.t 12, .t 13], none⟩]
def cmp_Or_int_r6 : List AOper := [
  ⟨some 15, .mov, [.t 5], none⟩,
  ⟨some 2, .mov, [.t 15], none⟩]
def cmp_Or_int_r7 : List AOper := [
  ⟨some 16, (.bin .add), [.t 8, .c (.int .i64 1)], none⟩,
  ⟨some 8, .mov, [.t 16], none⟩]
def cmp_Or_int_l0 : ACode := (.seq (.region cmp_Or_int_r3 [3, 6, 7, 8, 9]) (.seq (.cond (.t 9) .skip (.exit 0)) (.seq (.block 1 (.seq (.region cmp_Or_int_r4 [3, 5, 6, 7, 8]) (.seq (.region cmp_Or_int_r5 [3, 5, 6, 7, 8, 14]) (.cond (.t 14) (.seq (.region cmp_Or_int_r6 [2]) .ret) .skip)))) (.region cmp_Or_int_r7 [3, 6, 7, 8]))))
def cmp_Or_int_r8 : List AOper := [
  ⟨some 17, .mov, [.t 3], none⟩,
  ⟨some 2, .mov, [.t 17], none⟩]
def cmp_Or_int : AFunc := ⟨18, (.seq (.region cmp_Or_int_r0 [0]) (.seq (.region cmp_Or_int_r1 [0, 3]) (.seq (.seq (.region cmp_Or_int_r2 [3, 6, 7, 8]) (.block 0 (.loop cmp_Or_int_l0))) (.seq (.region cmp_Or_int_r8 [2]) .ret)))), [.t 2]⟩
def cmp_Compare_int64_r0 : List AOper := [
  ⟨some 4, .mov, [.c (.int .i64 0)], none⟩]
def cmp_Compare_int64_r1 : List AOper := [
  ⟨some 7, .mov, [.t 0], none⟩,
  ⟨some 8, (.call f_cmp_isNaN_int64), [.t 7], none⟩,
  ⟨some 5, .mov, [.t 8], none⟩]
def cmp_Compare_int64_r2 : List AOper := [
  ⟨some 9, .mov, [.t 1], none⟩,
  ⟨some 10, (.call f_cmp_isNaN_int64), [.t 9], none⟩,
  ⟨some 6, .mov, [.t 10], none⟩]
def cmp_Compare_int64_r3 : List AOper := [
  ⟨some 11, .mov, [.t 5], none⟩]
def cmp_Compare_int64_r4 : List AOper := [
  ⟨some 12, .mov, [.t 6], none⟩]
def cmp_Compare_int64_r5 : List AOper := [
  ⟨some 4, .mov, [.c (.int .i64 0)], none⟩]
def cmp_Compare_int64_r6 : List AOper := [
  ⟨some 4, .mov, [.c (.int .i64 (-1))], none⟩]
def cmp_Compare_int64_r7 : List AOper := [
  ⟨some 13, .mov, [.t 6], none⟩]
def cmp_Compare_int64_r8 : List AOper := [
  ⟨some 4, .mov, [.c (.int .i64 1)], none⟩]
def cmp_Compare_int64_r9 : List AOper := [
  ⟨some 14, .mov, [.t 0], none⟩,
  ⟨some 15, .mov, [.t 1], none⟩,
  ⟨some 16, (.bin .lss), [.t 14, .t 15], none⟩]
def cmp_Compare_int64_r10 : List AOper := [
  ⟨some 4, .mov, [.c (.int .i64 (-1))], none⟩]
def cmp_Compare_int64_r11 : List AOper := [
  ⟨some 17, .mov, [.t 0], none⟩,
  ⟨some 18, .mov, [.t 1], none⟩,
  ⟨some 19, (.bin .gtr), [.t 17, .t 18], none⟩]
def cmp_Compare_int64_r12 : List AOper := [
  ⟨some 4, .mov, [.c (.int .i64 1)], none⟩]
def cmp_Compare_int64_r13 : List AOper := [
  ⟨some 4, .mov, [.c (.int .i64 0)], none⟩]
def cmp_Compare_int64 : AFunc := ⟨20, (.seq (.region cmp_Compare_int64_r0 [0, 1]) (.seq (.region cmp_Compare_int64_r1 [0, 1, 5]) (.seq (.region cmp_Compare_int64_r2 [0, 1, 5, 6]) (.seq (.seq (.region cmp_Compare_int64_r3 [0, 1, 6, 11]) (.cond (.t 11) (.seq (.seq (.region cmp_Compare_int64_r4 [12]) (.cond (.t 12) (.seq (.region cmp_Compare_int64_r5 [4]) .ret) .skip)) (.seq (.region cmp_Compare_int64_r6 [4]) .ret)) .skip)) (.seq (.seq (.region cmp_Compare_int64_r7 [0, 1, 13]) (.cond (.t 13) (.seq (.region cmp_Compare_int64_r8 [4]) .ret) .skip)) (.seq (.seq (.region cmp_Compare_int64_r9 [0, 1, 16]) (.cond (.t 16) (.seq (.region cmp_Compare_int64_r10 [4]) .ret) .skip)) (.seq (.seq (.region cmp_Compare_int64_r11 [19]) (.cond (.t 19) (.seq (.region cmp_Compare_int64_r12 [4]) .ret) .skip)) (.seq (.region cmp_Compare_int64_r13 [4]) .ret)))))))), [.t 4]⟩
def cmp_Compare_int_r0 : List AOper := [
  ⟨some 4, .mov, [.c (.int .i64 0)], none⟩]
def cmp_Compare_int_r1 : List AOper := [
  ⟨some 7, .mov, [.t 0], none⟩,
  ⟨some 8, (.call f_cmp_isNaN_int), [.t 7], none⟩,
  ⟨some 5, .mov, [.t 8], none⟩]
def cmp_Compare_int_r2 : List AOper := [
  ⟨some 9, .mov, [.t 1], none⟩,
  ⟨some 10, (.call f_cmp_isNaN_int), [.t 9], none⟩,
  ⟨some 6, .mov, [.t 10], none⟩]
def cmp_Compare_int_r3 : List AOper := [
  ⟨some 11, .mov, [.t 5], none⟩]
def cmp_Compare_int_r4 : List AOper := [
  ⟨some 12, .mov, [.t 6], none⟩]
def cmp_Compare_int_r5 : List AOper := [
  ⟨some 4, .mov, [.c (.int .i64 0)], none⟩]
def cmp_Compare_int_r6 : List AOper := [
  ⟨some 4, .mov, [.c (.int .i64 (-1))], none⟩]
def cmp_Compare_int_r7 : List AOper := [
  ⟨some 13, .mov, [.t 6], none⟩]
def cmp_Compare_int_r8 : List AOper := [
  ⟨some 4, .mov, [.c (.int .i64 1)], none⟩]
def cmp_Compare_int_r9 : List AOper := [
  ⟨some 14, .mov, [.t 0], none⟩,
  ⟨some 15, .mov, [.t 1], none⟩,
  ⟨some 16, (.bin .lss), [.t 14, .t 15], none⟩]
def cmp_Compare_int_r10 : List AOper := [
  ⟨some 4, .mov, [.c (.int .i64 (-1))], none⟩]
def cmp_Compare_int_r11 : List AOper := [
  ⟨some 17, .mov, [.t 0], none⟩,
  ⟨some 18, .mov, [.t 1], none⟩,
  ⟨some 19, (.bin .gtr), [.t 17, .t 18], none⟩]
def cmp_Compare_int_r12 : List AOper := [
  ⟨some 4, .mov, [.c (.int .i64 1)], none⟩]
def cmp_Compare_int_r13 : List AOper := [
  ⟨some 4, .mov, [.c (.int .i64 0)], none⟩]
def cmp_Compare_int : AFunc := ⟨20, (.seq (.region cmp_Compare_int_r0 [0, 1]) (.seq (.region cmp_Compare_int_r1 [0, 1, 5]) (.seq (.region cmp_Compare_int_r2 [0, 1, 5, 6]) (.seq (.seq (.region cmp_Compare_int_r3 [0, 1, 6, 11]) (.cond (.t 11) (.seq (.seq (.region cmp_Compare_int_r4 [12]) (.cond (.t 12) (.seq (.region cmp_Compare_int_r5 [4]) .ret) .skip)) (.seq (.region cmp_Compare_int_r6 [4]) .ret)) .skip)) (.seq (.seq (.region cmp_Compare_int_r7 [0, 1, 13]) (.cond (.t 13) (.seq (.region cmp_Compare_int_r8 [4]) .ret) .skip)) (.seq (.seq (.region cmp_Compare_int_r9 [0, 1, 16]) (.cond (.t 16) (.seq (.region cmp_Compare_int_r10 [4]) .ret) .skip)) (.seq (.seq (.region cmp_Compare_int_r11 [19]) (.cond (.t 19) (.seq (.region cmp_Compare_int_r12 [4]) .ret) .skip)) (.seq (.region cmp_Compare_int_r13 [4]) .ret)))))))), [.t 4]⟩
def ingotref11_Digits_r0 : List AOper := [
  ⟨some 2, .mov, [.c (.int .i64 0)], none⟩]
def ingotref11_Digits_r1 : List AOper := [
  ⟨some 3, .mov, [.t 0], none⟩,
  ⟨some 4, (.call f_ingotref11_size), [.t 3], none⟩,
  ⟨some 5, (.call f_ingotref11_digits), [.t 4], none⟩,
  ⟨some 6, .lent, [.t 5], none⟩,
  ⟨some 2, .mov, [.t 6], none⟩]
def ingotref11_Digits : AFunc := ⟨7, (.seq (.region ingotref11_Digits_r0 [0]) (.seq (.region ingotref11_Digits_r1 [2]) .ret)), [.t 2]⟩
def ingotref12_Check_r0 : List AOper := [
  ⟨some 4, .mov, [.c (.bool false)], none⟩]
def ingotref12_Check_r1 : List AOper := [
  ⟨some 5, .mov, [.t 0], none⟩,
  ⟨some 6, (.bin .geq), [.t 5, .c (.int .i64 (-1099511627776))], none⟩,
  ⟨some 7, .mov, [.t 6], none⟩,
  ⟨some 8, .mov, [.t 0], some (7, true)⟩,
  ⟨some 9, (.bin .leq), [.t 8, .c (.int .i64 1099511627776)], some (7, true)⟩,
  ⟨some 10, .pick, [.t 7, .t 9, .c (.bool false)], none⟩,
  ⟨some 11, .mov, [.t 10], none⟩,
  ⟨some 12, .mov, [.t 1], some (11, true)⟩,
  ⟨some 13, (.bin .geq), [.t 12, .c (.int .i64 0)], some (11, true)⟩,
  ⟨some 14, .pick, [.t 11, .t 13, .c (.bool false)], none⟩,
  ⟨some 15, .mov, [.t 14], none⟩,
  ⟨some 16, .mov, [.t 1], some (15, true)⟩,
  ⟨some 17, (.bin .lss), [.t 16, .c (.int .i64 1000000000)], some (15, true)⟩,
  ⟨some 18, .pick, [.t 15, .t 17, .c (.bool false)], none⟩,
  ⟨some 4, .mov, [.t 18], none⟩]
def ingotref12_Check : AFunc := ⟨19, (.seq (.region ingotref12_Check_r0 [0, 1, 8, 9, 12, 13, 16, 17]) (.seq (.region ingotref12_Check_r1 [4]) .ret)), [.t 4]⟩
def slices_Clip_byte_byte_r0 : List AOper := [
  ⟨some 2, .mov, [.c (.slc 0 [] true)], none⟩]
def slices_Clip_byte_byte_r1 : List AOper := [
  ⟨some 3, .mov, [.t 0], none⟩,
  ⟨some 4, .mov, [.t 0], none⟩,
  ⟨some 5, .lens, [.t 4], none⟩,
  ⟨some 6, .mov, [.t 0], none⟩,
  ⟨some 7, .lens, [.t 6], none⟩,
  ⟨some 8, (.clip 1), [.t 3, .t 5, .t 7], none⟩,
  ⟨some 2, .mov, [.t 8], none⟩]
def slices_Clip_byte_byte : AFunc := ⟨9, (.seq (.region slices_Clip_byte_byte_r0 [0]) (.seq (.region slices_Clip_byte_byte_r1 [2]) .ret)), [.t 2]⟩
def slices_Clone_byte_byte_r0 : List AOper := [
  ⟨some 2, .mov, [.c (.slc 0 [] true)], none⟩]
def slices_Clone_byte_byte_r1 : List AOper := [
  ⟨some 3, .mov, [.t 0], none⟩,
  ⟨some 4, (.isnil false), [.t 3, .c (.slc 0 [] true)], none⟩]
def slices_Clone_byte_byte_r2 : List AOper := [
  ⟨some 2, .mov, [.c (.slc 0 [] true)], none⟩]
def slices_Clone_byte_byte_r3 : List AOper := [
  ⟨some 5, (.bsl 1), [], none⟩,
  ⟨some 6, .mov, [.t 0], none⟩,
  ⟨some 7, (.app 1 1), [.t 5, .t 6], none⟩,
  ⟨some 2, .mov, [.t 7], none⟩]
def slices_Clone_byte_byte : AFunc := ⟨8, (.seq (.region slices_Clone_byte_byte_r0 [0]) (.seq (.seq (.region slices_Clone_byte_byte_r1 [0, 4]) (.cond (.t 4) (.seq (.region slices_Clone_byte_byte_r2 [2]) .ret) .skip)) (.seq (.region slices_Clone_byte_byte_r3 [2]) .ret))), [.t 2]⟩
def slices_Clip_api_Value_api_Value_r0 : List AOper := [
  ⟨some 2, .mov, [.c (.slc 0 [] true)], none⟩]
def slices_Clip_api_Value_api_Value_r1 : List AOper := [
  ⟨some 3, .mov, [.t 0], none⟩,
  ⟨some 4, .mov, [.t 0], none⟩,
  ⟨some 5, .lens, [.t 4], none⟩,
  ⟨some 6, .mov, [.t 0], none⟩,
  ⟨some 7, .lens, [.t 6], none⟩,
  ⟨some 8, (.clip 5), [.t 3, .t 5, .t 7], none⟩,
  ⟨some 2, .mov, [.t 8], none⟩]
def slices_Clip_api_Value_api_Value : AFunc := ⟨9, (.seq (.region slices_Clip_api_Value_api_Value_r0 [0]) (.seq (.region slices_Clip_api_Value_api_Value_r1 [2]) .ret)), [.t 2]⟩
def cmp_isNaN_int64_r0 : List AOper := [
  ⟨some 2, .mov, [.c (.bool false)], none⟩]
def cmp_isNaN_int64_r1 : List AOper := [
  ⟨some 3, .mov, [.t 0], none⟩,
  ⟨some 4, .mov, [.t 0], none⟩,
  ⟨some 5, (.bin .neq), [.t 3, .t 4], none⟩,
  ⟨some 2, .mov, [.t 5], none⟩]
def cmp_isNaN_int64 : AFunc := ⟨6, (.seq (.region cmp_isNaN_int64_r0 [0]) (.seq (.region cmp_isNaN_int64_r1 [2]) .ret)), [.t 2]⟩
def cmp_isNaN_int_r0 : List AOper := [
  ⟨some 2, .mov, [.c (.bool false)], none⟩]
def cmp_isNaN_int_r1 : List AOper := [
  ⟨some 3, .mov, [.t 0], none⟩,
  ⟨some 4, .mov, [.t 0], none⟩,
  ⟨some 5, (.bin .neq), [.t 3, .t 4], none⟩,
  ⟨some 2, .mov, [.t 5], none⟩]
def cmp_isNaN_int : AFunc := ⟨6, (.seq (.region cmp_isNaN_int_r0 [0]) (.seq (.region cmp_isNaN_int_r1 [2]) .ret)), [.t 2]⟩
def ingotref11_digits_r0 : List AOper := [
  ⟨some 2, .mov, [.c (.str [])], none⟩]
def ingotref11_digits_r1 : List AOper := [
  ⟨some 4, .mov, [.t 0], none⟩,
  ⟨some 5, (.bin .rem), [.t 4, .c (.int .u64 10)], none⟩,
  ⟨some 6, (.bin .add), [.c (.int .u64 48), .t 5], none⟩,
  ⟨some 7, (.conv .u8), [.t 6], none⟩,
  ⟨some 8, (.bsl 1), [.t 7], none⟩,
  ⟨some 9, .b2s, [.t 8], none⟩,
  ⟨some 3, .mov, [.t 9], none⟩]
def ingotref11_digits_r2 : List AOper := [
  ⟨some 10, .mov, [.t 0], none⟩,
  ⟨some 11, (.bin .geq), [.t 10, .c (.int .u64 10)], none⟩]
def ingotref11_digits_r3 : List AOper := [
  ⟨some 12, .mov, [.t 0], none⟩,
  ⟨some 13, (.bin .quo), [.t 12, .c (.int .u64 10)], none⟩,
  ⟨some 0, .mov, [.t 13], none⟩]
def ingotref11_digits_r4 : List AOper := [
  ⟨some 14, .mov, [.t 0], none⟩,
  ⟨some 15, (.bin .rem), [.t 14, .c (.int .u64 10)], none⟩,
  ⟨some 16, (.bin .add), [.c (.int .u64 48), .t 15], none⟩,
  ⟨some 17, (.conv .u8), [.t 16], none⟩,
  ⟨some 18, (.bsl 1), [.t 17], none⟩,
  ⟨some 19, .b2s, [.t 18], none⟩,
  ⟨some 20, .mov, [.t 3], none⟩,
  ⟨some 21, (.bin .add), [.t 19, .t 20], none⟩,
  ⟨some 3, .mov, [.t 21], none⟩]
def ingotref11_digits_l0 : ACode := (.seq (.seq (.region ingotref11_digits_r2 [0, 3, 11]) (.cond (.t 11) .skip (.exit 0))) (.block 1 (.seq (.region ingotref11_digits_r3 [0, 3]) (.region ingotref11_digits_r4 [0, 3]))))
def ingotref11_digits_r5 : List AOper := [
  ⟨some 22, .mov, [.t 3], none⟩,
  ⟨some 2, .mov, [.t 22], none⟩]
def ingotref11_digits : AFunc := ⟨23, (.seq (.region ingotref11_digits_r0 [0]) (.seq (.region ingotref11_digits_r1 [0, 3]) (.seq (.block 0 (.loop ingotref11_digits_l0)) (.seq (.region ingotref11_digits_r5 [2]) .ret)))), [.t 2]⟩
def ingotref11_size_r0 : List AOper := [
  ⟨some 2, .mov, [.c (.int .u64 0)], none⟩]
def ingotref11_size_r1 : List AOper := [
  ⟨some 3, .mov, [.t 0], none⟩,
  ⟨some 4, (.bin .lss), [.t 3, .c (.int .i64 0)], none⟩]
def ingotref11_size_r2 : List AOper := [
  ⟨some 5, .mov, [.t 0], none⟩,
  ⟨some 6, (.bin .add), [.t 5, .c (.int .i64 1)], none⟩,
  ⟨some 7, (.bin .sub), [.c (.int .i64 0), .t 6], none⟩,
  ⟨some 8, (.conv .u64), [.t 7], none⟩,
  ⟨some 9, (.bin .add), [.t 8, .c (.int .u64 1)], none⟩,
  ⟨some 2, .mov, [.t 9], none⟩]
def ingotref11_size_r3 : List AOper := [
  ⟨some 10, .mov, [.t 0], none⟩,
  ⟨some 11, (.conv .u64), [.t 10], none⟩,
  ⟨some 2, .mov, [.t 11], none⟩]
def ingotref11_size : AFunc := ⟨12, (.seq (.region ingotref11_size_r0 [0]) (.seq (.seq (.region ingotref11_size_r1 [0, 4]) (.cond (.t 4) (.seq (.region ingotref11_size_r2 [2]) .ret) .skip)) (.seq (.region ingotref11_size_r3 [2]) .ret))), [.t 2]⟩
end Go.Abs
namespace Go.Abs
open Go Go.Proofs
theorem ingotref13_Leaf_ok : compF Try.prog [] f_ingotref13_Leaf = some ingotref13_Leaf.erase := by kernel_rfl
theorem ingotref14_Check_ok : compF Try.prog [(30, 3), (7, 16)] f_ingotref14_Check = some ingotref14_Check.erase := by kernel_rfl
theorem ingotref14_Texts_ok : compF Try.prog [] f_ingotref14_Texts = some ingotref14_Texts.erase := by kernel_rfl
theorem value_Compare_ok : compF Try.prog [(5, 4)] f_value_Compare = some value_Compare.erase := by kernel_rfl
theorem ingotref14_Numbers_ok : compF Try.prog [(16, 1)] f_ingotref14_Numbers = some ingotref14_Numbers.erase := by kernel_rfl
theorem ingotref14_Signs_ok : compF Try.prog [] f_ingotref14_Signs = some ingotref14_Signs.erase := by kernel_rfl
theorem ingotref14_Kid_ok : compF Try.prog [] f_ingotref14_Kid = some ingotref14_Kid.erase := by kernel_rfl
theorem value_Clone_ok : compF Try.prog [] f_value_Clone = some value_Clone.erase := by kernel_rfl
theorem value_text_ok : compF Try.prog [] f_value_text = some value_text.erase := by kernel_rfl
theorem cmp_Or_int_ok : compF Try.prog [] f_cmp_Or_int = some cmp_Or_int.erase := by kernel_rfl
theorem cmp_Compare_int64_ok : compF Try.prog [] f_cmp_Compare_int64 = some cmp_Compare_int64.erase := by kernel_rfl
theorem cmp_Compare_int_ok : compF Try.prog [] f_cmp_Compare_int = some cmp_Compare_int.erase := by kernel_rfl
theorem ingotref11_Digits_ok : compF Try.prog [] f_ingotref11_Digits = some ingotref11_Digits.erase := by kernel_rfl
theorem ingotref12_Check_ok : compF Try.prog [] f_ingotref12_Check = some ingotref12_Check.erase := by kernel_rfl
theorem slices_Clip_byte_byte_ok : compF Try.prog [] f_slices_Clip_byte_byte = some slices_Clip_byte_byte.erase := by kernel_rfl
theorem slices_Clone_byte_byte_ok : compF Try.prog [] f_slices_Clone_byte_byte = some slices_Clone_byte_byte.erase := by kernel_rfl
theorem slices_Clip_api_Value_api_Value_ok : compF Try.prog [] f_slices_Clip_api_Value_api_Value = some slices_Clip_api_Value_api_Value.erase := by kernel_rfl
theorem cmp_isNaN_int64_ok : compF Try.prog [] f_cmp_isNaN_int64 = some cmp_isNaN_int64.erase := by kernel_rfl
theorem cmp_isNaN_int_ok : compF Try.prog [] f_cmp_isNaN_int = some cmp_isNaN_int.erase := by kernel_rfl
theorem ingotref11_digits_ok : compF Try.prog [] f_ingotref11_digits = some ingotref11_digits.erase := by kernel_rfl
theorem ingotref11_size_ok : compF Try.prog [] f_ingotref11_size = some ingotref11_size.erase := by kernel_rfl
end Go.Abs
/- Contracts: kinds and numbers of values (the reference's). -/
namespace Go.Abs
open Go Go.Proofs
set_option linter.unusedVariables false
set_option linter.unusedSimpArgs false
set_option maxHeartbeats 4000000
attribute [local irreducible] AWp aops KP

theorem st_cat {P : Program} {l : List AOper} {F : AFrame} {σ : AHeap} {Q : AFrame → AHeap → Prop} {d : Nat} {args : List AOpd} {s t : List UInt8} (h1 : evs F args = some [.str s, .str t]) (h2 : s.length + t.length ≤ maxLen) (h : aops P l (fset d (some (.str (s ++ t))) F) σ Q) :
    aops P (⟨some d, .bin .add, args, none⟩ :: l) F σ Q :=
  st_q h1 (by simp [aquiet, abin, binStr, h2]) rfl h

theorem c_Texts (k : Int) (σ : AHeap) : ACalls Try.prog f_ingotref14_Texts [.int .i64 k] σ fun r σ' => r = .bool (textF k) ∧ σ' = σ := by
  refine acalls_enter rfl ingotref14_Texts_ok (Nat.le_of_ble_eq_true rfl) ?_
  by_cases h1 : k = 7
  · subst h1; (repeat (first | refine st_q rfl rfl rfl ?_ | refine st_gy rfl (st_q rfl rfl rfl ?_) | refine st_gn rfl ?_ | refine st_gu rfl ?_ | (refine st_nil ?_; (repeat (first | refine kp_cons rfl ?_ | refine kp_skip ?_)); refine kp_nil ?_) | refine awp_seq ?_ | refine aw_end (fun _ _ => rfl) ?_ | refine awp_block ?_ | refine aw_skipE (fun _ _ => rfl) ?_ | refine aw_exitE (fun _ _ => rfl) ?_ | refine awp_cond (t := true) rfl (fun _ => ?_) (fun e => by cases e) | refine awp_cond (t := false) rfl (fun e => by cases e) (fun _ => ?_))); refine awp_ret ?_; exact ares rfl (HSub.refl _) ⟨rfl, rfl⟩
  by_cases h2 : k = 16
  · subst h2; (repeat (first | refine st_q rfl rfl rfl ?_ | refine st_gy rfl (st_q rfl rfl rfl ?_) | refine st_gn rfl ?_ | refine st_gu rfl ?_ | (refine st_nil ?_; (repeat (first | refine kp_cons rfl ?_ | refine kp_skip ?_)); refine kp_nil ?_) | refine awp_seq ?_ | refine aw_end (fun _ _ => rfl) ?_ | refine awp_block ?_ | refine aw_skipE (fun _ _ => rfl) ?_ | refine aw_exitE (fun _ _ => rfl) ?_ | refine awp_cond (t := true) rfl (fun _ => ?_) (fun e => by cases e) | refine awp_cond (t := false) rfl (fun e => by cases e) (fun _ => ?_))); refine awp_ret ?_; exact ares rfl (HSub.refl _) ⟨rfl, rfl⟩
  by_cases h3 : k = 17
  · subst h3; (repeat (first | refine st_q rfl rfl rfl ?_ | refine st_gy rfl (st_q rfl rfl rfl ?_) | refine st_gn rfl ?_ | refine st_gu rfl ?_ | (refine st_nil ?_; (repeat (first | refine kp_cons rfl ?_ | refine kp_skip ?_)); refine kp_nil ?_) | refine awp_seq ?_ | refine aw_end (fun _ _ => rfl) ?_ | refine awp_block ?_ | refine aw_skipE (fun _ _ => rfl) ?_ | refine aw_exitE (fun _ _ => rfl) ?_ | refine awp_cond (t := true) rfl (fun _ => ?_) (fun e => by cases e) | refine awp_cond (t := false) rfl (fun e => by cases e) (fun _ => ?_))); refine awp_ret ?_; exact ares rfl (HSub.refl _) ⟨rfl, rfl⟩
  (repeat (first | refine st_q rfl rfl rfl ?_ | refine st_gy rfl (st_q rfl rfl rfl ?_) | refine st_gn rfl ?_ | refine st_gu rfl ?_ | (refine st_nil ?_; (repeat (first | refine kp_cons rfl ?_ | refine kp_skip ?_)); refine kp_nil ?_) | refine awp_seq ?_ | refine aw_end (fun _ _ => rfl) ?_ | refine awp_block ?_ | refine aw_skipE (fun _ _ => rfl) ?_ | refine aw_exitE (fun _ _ => rfl) ?_ | refine awp_cond (t := true) rfl (fun _ => ?_) (fun e => by cases e) | refine awp_cond (t := false) rfl (fun e => by cases e) (fun _ => ?_)))
  (rw [show decide (k = 7) = false from decide_eq_false (by omega)])
  (repeat (first | refine st_q rfl rfl rfl ?_ | refine st_gy rfl (st_q rfl rfl rfl ?_) | refine st_gn rfl ?_ | refine st_gu rfl ?_ | (refine st_nil ?_; (repeat (first | refine kp_cons rfl ?_ | refine kp_skip ?_)); refine kp_nil ?_) | refine awp_seq ?_ | refine aw_end (fun _ _ => rfl) ?_ | refine awp_block ?_ | refine aw_skipE (fun _ _ => rfl) ?_ | refine aw_exitE (fun _ _ => rfl) ?_ | refine awp_cond (t := true) rfl (fun _ => ?_) (fun e => by cases e) | refine awp_cond (t := false) rfl (fun e => by cases e) (fun _ => ?_)))
  (rw [show decide (k = 16) = false from decide_eq_false (by omega)])
  (repeat (first | refine st_q rfl rfl rfl ?_ | refine st_gy rfl (st_q rfl rfl rfl ?_) | refine st_gn rfl ?_ | refine st_gu rfl ?_ | (refine st_nil ?_; (repeat (first | refine kp_cons rfl ?_ | refine kp_skip ?_)); refine kp_nil ?_) | refine awp_seq ?_ | refine aw_end (fun _ _ => rfl) ?_ | refine awp_block ?_ | refine aw_skipE (fun _ _ => rfl) ?_ | refine aw_exitE (fun _ _ => rfl) ?_ | refine awp_cond (t := true) rfl (fun _ => ?_) (fun e => by cases e) | refine awp_cond (t := false) rfl (fun e => by cases e) (fun _ => ?_)))
  (rw [show decide (k = 17) = false from decide_eq_false (by omega)])
  (repeat (first | refine st_q rfl rfl rfl ?_ | refine st_gy rfl (st_q rfl rfl rfl ?_) | refine st_gn rfl ?_ | refine st_gu rfl ?_ | (refine st_nil ?_; (repeat (first | refine kp_cons rfl ?_ | refine kp_skip ?_)); refine kp_nil ?_) | refine awp_seq ?_ | refine aw_end (fun _ _ => rfl) ?_ | refine awp_block ?_ | refine aw_skipE (fun _ _ => rfl) ?_ | refine aw_exitE (fun _ _ => rfl) ?_ | refine awp_cond (t := true) rfl (fun _ => ?_) (fun e => by cases e) | refine awp_cond (t := false) rfl (fun e => by cases e) (fun _ => ?_)))
  refine awp_ret ?_
  exact ares rfl (HSub.refl _) ⟨by simp [textF, h1, h2, h3, tupOf], rfl⟩

theorem c_refLeaf (k : Int) (σ : AHeap) : ACalls Try.prog f_ingotref13_Leaf [.int .i64 k] σ fun r σ' => r = .bool (leafF k) ∧ σ' = σ := by
  refine acalls_enter rfl ingotref13_Leaf_ok (Nat.le_of_ble_eq_true rfl) ?_
  by_cases h1 : k = 10
  · subst h1; (repeat (first | refine st_q rfl rfl rfl ?_ | refine st_gy rfl (st_q rfl rfl rfl ?_) | refine st_gn rfl ?_ | refine st_gu rfl ?_ | (refine st_nil ?_; (repeat (first | refine kp_cons rfl ?_ | refine kp_skip ?_)); refine kp_nil ?_) | refine awp_seq ?_ | refine aw_end (fun _ _ => rfl) ?_ | refine awp_block ?_ | refine aw_skipE (fun _ _ => rfl) ?_ | refine aw_exitE (fun _ _ => rfl) ?_ | refine awp_cond (t := true) rfl (fun _ => ?_) (fun e => by cases e) | refine awp_cond (t := false) rfl (fun e => by cases e) (fun _ => ?_))); refine awp_ret ?_; exact ares rfl (HSub.refl _) ⟨rfl, rfl⟩
  by_cases h2 : k = 11
  · subst h2; (repeat (first | refine st_q rfl rfl rfl ?_ | refine st_gy rfl (st_q rfl rfl rfl ?_) | refine st_gn rfl ?_ | refine st_gu rfl ?_ | (refine st_nil ?_; (repeat (first | refine kp_cons rfl ?_ | refine kp_skip ?_)); refine kp_nil ?_) | refine awp_seq ?_ | refine aw_end (fun _ _ => rfl) ?_ | refine awp_block ?_ | refine aw_skipE (fun _ _ => rfl) ?_ | refine aw_exitE (fun _ _ => rfl) ?_ | refine awp_cond (t := true) rfl (fun _ => ?_) (fun e => by cases e) | refine awp_cond (t := false) rfl (fun e => by cases e) (fun _ => ?_))); refine awp_ret ?_; exact ares rfl (HSub.refl _) ⟨rfl, rfl⟩
  by_cases h3 : k = 12
  · subst h3; (repeat (first | refine st_q rfl rfl rfl ?_ | refine st_gy rfl (st_q rfl rfl rfl ?_) | refine st_gn rfl ?_ | refine st_gu rfl ?_ | (refine st_nil ?_; (repeat (first | refine kp_cons rfl ?_ | refine kp_skip ?_)); refine kp_nil ?_) | refine awp_seq ?_ | refine aw_end (fun _ _ => rfl) ?_ | refine awp_block ?_ | refine aw_skipE (fun _ _ => rfl) ?_ | refine aw_exitE (fun _ _ => rfl) ?_ | refine awp_cond (t := true) rfl (fun _ => ?_) (fun e => by cases e) | refine awp_cond (t := false) rfl (fun e => by cases e) (fun _ => ?_))); refine awp_ret ?_; exact ares rfl (HSub.refl _) ⟨rfl, rfl⟩
  (repeat (first | refine st_q rfl rfl rfl ?_ | refine st_gy rfl (st_q rfl rfl rfl ?_) | refine st_gn rfl ?_ | refine st_gu rfl ?_ | (refine st_nil ?_; (repeat (first | refine kp_cons rfl ?_ | refine kp_skip ?_)); refine kp_nil ?_) | refine awp_seq ?_ | refine aw_end (fun _ _ => rfl) ?_ | refine awp_block ?_ | refine aw_skipE (fun _ _ => rfl) ?_ | refine aw_exitE (fun _ _ => rfl) ?_ | refine awp_cond (t := true) rfl (fun _ => ?_) (fun e => by cases e) | refine awp_cond (t := false) rfl (fun e => by cases e) (fun _ => ?_)))
  (rw [show decide (k ≠ 10) = true from decide_eq_true (by omega)])
  (repeat (first | refine st_q rfl rfl rfl ?_ | refine st_gy rfl (st_q rfl rfl rfl ?_) | refine st_gn rfl ?_ | refine st_gu rfl ?_ | (refine st_nil ?_; (repeat (first | refine kp_cons rfl ?_ | refine kp_skip ?_)); refine kp_nil ?_) | refine awp_seq ?_ | refine aw_end (fun _ _ => rfl) ?_ | refine awp_block ?_ | refine aw_skipE (fun _ _ => rfl) ?_ | refine aw_exitE (fun _ _ => rfl) ?_ | refine awp_cond (t := true) rfl (fun _ => ?_) (fun e => by cases e) | refine awp_cond (t := false) rfl (fun e => by cases e) (fun _ => ?_)))
  (rw [show decide (k ≠ 11) = true from decide_eq_true (by omega)])
  (repeat (first | refine st_q rfl rfl rfl ?_ | refine st_gy rfl (st_q rfl rfl rfl ?_) | refine st_gn rfl ?_ | refine st_gu rfl ?_ | (refine st_nil ?_; (repeat (first | refine kp_cons rfl ?_ | refine kp_skip ?_)); refine kp_nil ?_) | refine awp_seq ?_ | refine aw_end (fun _ _ => rfl) ?_ | refine awp_block ?_ | refine aw_skipE (fun _ _ => rfl) ?_ | refine aw_exitE (fun _ _ => rfl) ?_ | refine awp_cond (t := true) rfl (fun _ => ?_) (fun e => by cases e) | refine awp_cond (t := false) rfl (fun e => by cases e) (fun _ => ?_)))
  (rw [show decide (k ≠ 12) = true from decide_eq_true (by omega)])
  (repeat (first | refine st_q rfl rfl rfl ?_ | refine st_gy rfl (st_q rfl rfl rfl ?_) | refine st_gn rfl ?_ | refine st_gu rfl ?_ | (refine st_nil ?_; (repeat (first | refine kp_cons rfl ?_ | refine kp_skip ?_)); refine kp_nil ?_) | refine awp_seq ?_ | refine aw_end (fun _ _ => rfl) ?_ | refine awp_block ?_ | refine aw_skipE (fun _ _ => rfl) ?_ | refine aw_exitE (fun _ _ => rfl) ?_ | refine awp_cond (t := true) rfl (fun _ => ?_) (fun e => by cases e) | refine awp_cond (t := false) rfl (fun e => by cases e) (fun _ => ?_)))
  refine awp_ret ?_
  exact ares rfl (HSub.refl _) ⟨by simp [leafF, h1, h2, h3, tupOf], rfl⟩

theorem c_size (i : Int) (h0 : -9223372036854775808 ≤ i) (h1 : i ≤ 9223372036854775807) (σ : AHeap) : ACalls Try.prog f_ingotref11_size [.int .i64 i] σ fun r σ' => r = .int .u64 (i.natAbs : Int) ∧ σ' = σ := by
  refine acalls_enter rfl ingotref11_size_ok (Nat.le_of_ble_eq_true rfl) ?_
  have wu : ∀ n : Int, IntKind.wrap .u64 n = n % 18446744073709551616 := fun n => by simp [IntKind.wrap, IntKind.bits, IntKind.signed]
  (repeat (first | refine st_q rfl rfl rfl ?_ | refine st_gy rfl (st_q rfl rfl rfl ?_) | refine st_gn rfl ?_ | refine st_gu rfl ?_ | (refine st_nil ?_; (repeat (first | refine kp_cons rfl ?_ | refine kp_skip ?_)); refine kp_nil ?_) | refine awp_seq ?_ | refine aw_end (fun _ _ => rfl) ?_ | refine awp_block ?_ | refine aw_skipE (fun _ _ => rfl) ?_ | refine aw_exitE (fun _ _ => rfl) ?_ | refine awp_cond (t := true) rfl (fun _ => ?_) (fun e => by cases e) | refine awp_cond (t := false) rfl (fun e => by cases e) (fun _ => ?_)))
  by_cases h : i < 0
  · (rw [show decide (i < 0) = true from decide_eq_true (by omega)])
    (repeat (first | refine st_q rfl rfl rfl ?_ | refine st_gy rfl (st_q rfl rfl rfl ?_) | refine st_gn rfl ?_ | refine st_gu rfl ?_ | (refine st_nil ?_; (repeat (first | refine kp_cons rfl ?_ | refine kp_skip ?_)); refine kp_nil ?_) | refine awp_seq ?_ | refine aw_end (fun _ _ => rfl) ?_ | refine awp_block ?_ | refine aw_skipE (fun _ _ => rfl) ?_ | refine aw_exitE (fun _ _ => rfl) ?_ | refine awp_cond (t := true) rfl (fun _ => ?_) (fun e => by cases e) | refine awp_cond (t := false) rfl (fun e => by cases e) (fun _ => ?_)))
    rw [w64 (i + 1) (by omega) (by omega), w64 (0 - (i + 1)) (by omega) (by omega), wu (0 - (i + 1)), wu]
    (repeat (first | refine st_q rfl rfl rfl ?_ | refine st_gy rfl (st_q rfl rfl rfl ?_) | refine st_gn rfl ?_ | refine st_gu rfl ?_ | (refine st_nil ?_; (repeat (first | refine kp_cons rfl ?_ | refine kp_skip ?_)); refine kp_nil ?_) | refine awp_seq ?_ | refine aw_end (fun _ _ => rfl) ?_ | refine awp_block ?_ | refine aw_skipE (fun _ _ => rfl) ?_ | refine aw_exitE (fun _ _ => rfl) ?_ | refine awp_cond (t := true) rfl (fun _ => ?_) (fun e => by cases e) | refine awp_cond (t := false) rfl (fun e => by cases e) (fun _ => ?_)))
    refine awp_ret ?_
    exact ares rfl (HSub.refl _) ⟨by simp only [tupOf]; congr 1; omega, rfl⟩
  · (rw [show decide (i < 0) = false from decide_eq_false (by omega)])
    (repeat (first | refine st_q rfl rfl rfl ?_ | refine st_gy rfl (st_q rfl rfl rfl ?_) | refine st_gn rfl ?_ | refine st_gu rfl ?_ | (refine st_nil ?_; (repeat (first | refine kp_cons rfl ?_ | refine kp_skip ?_)); refine kp_nil ?_) | refine awp_seq ?_ | refine aw_end (fun _ _ => rfl) ?_ | refine awp_block ?_ | refine aw_skipE (fun _ _ => rfl) ?_ | refine aw_exitE (fun _ _ => rfl) ?_ | refine awp_cond (t := true) rfl (fun _ => ?_) (fun e => by cases e) | refine awp_cond (t := false) rfl (fun e => by cases e) (fun _ => ?_)))
    rw [wu]
    (repeat (first | refine st_q rfl rfl rfl ?_ | refine st_gy rfl (st_q rfl rfl rfl ?_) | refine st_gn rfl ?_ | refine st_gu rfl ?_ | (refine st_nil ?_; (repeat (first | refine kp_cons rfl ?_ | refine kp_skip ?_)); refine kp_nil ?_) | refine awp_seq ?_ | refine aw_end (fun _ _ => rfl) ?_ | refine awp_block ?_ | refine aw_skipE (fun _ _ => rfl) ?_ | refine aw_exitE (fun _ _ => rfl) ?_ | refine awp_cond (t := true) rfl (fun _ => ?_) (fun e => by cases e) | refine awp_cond (t := false) rfl (fun e => by cases e) (fun _ => ?_)))
    refine awp_ret ?_
    exact ares rfl (HSub.refl _) ⟨by simp only [tupOf]; congr 1; omega, rfl⟩

theorem c_digits (u : Nat) (hu : u ≤ 18446744073709551615) (σ : AHeap) : ACalls Try.prog f_ingotref11_digits [.int .u64 (u : Int)] σ fun r σ' => (∃ s, r = .str s ∧ s.length = digN u) ∧ σ' = σ := by
  refine acalls_enter rfl ingotref11_digits_ok (Nat.le_of_ble_eq_true rfl) ?_
  (repeat (first | refine st_q rfl rfl rfl ?_ | refine st_gy rfl (st_q rfl rfl rfl ?_) | refine st_gn rfl ?_ | refine st_gu rfl ?_ | (refine st_nil ?_; (repeat (first | refine kp_cons rfl ?_ | refine kp_skip ?_)); refine kp_nil ?_) | refine awp_seq ?_ | refine aw_end (fun _ _ => rfl) ?_ | refine awp_block ?_ | refine aw_skipE (fun _ _ => rfl) ?_ | refine aw_exitE (fun _ _ => rfl) ?_ | refine awp_cond (t := true) rfl (fun _ => ?_) (fun e => by cases e) | refine awp_cond (t := false) rfl (fun e => by cases e) (fun _ => ?_)))
  refine awp_loopN (fun m F σ' => ∃ (u' : Nat) (s : List UInt8), F = fset 0 (some (.int .u64 (u' : Int))) (fset 3 (some (.str s)) fnone) ∧ σ = σ' ∧ s.length + digN u' = digN u + 1 ∧ u' ≤ u ∧ m = u') (n := u)
    ⟨u, _, rfl, rfl, by simp; omega, Nat.le_refl _, rfl⟩ ?_
  rintro u' F σ' ⟨u2, s, rfl, rfl, hs, hu', rfl⟩
  (repeat (first | refine st_q rfl rfl rfl ?_ | refine st_gy rfl (st_q rfl rfl rfl ?_) | refine st_gn rfl ?_ | refine st_gu rfl ?_ | (refine st_nil ?_; (repeat (first | refine kp_cons rfl ?_ | refine kp_skip ?_)); refine kp_nil ?_) | refine awp_seq ?_ | refine aw_end (fun _ _ => rfl) ?_ | refine awp_block ?_ | refine aw_skipE (fun _ _ => rfl) ?_ | refine aw_exitE (fun _ _ => rfl) ?_ | refine awp_cond (t := true) rfl (fun _ => ?_) (fun e => by cases e) | refine awp_cond (t := false) rfl (fun e => by cases e) (fun _ => ?_)))
  have h20 := digN64 hu
  have wu : ∀ n : Int, IntKind.wrap .u64 n = n % 18446744073709551616 := fun n => by simp [IntKind.wrap, IntKind.bits, IntKind.signed]
  refine awp_condp (p := (10 : Int) ≤ (u' : Int)) rfl (fun h3 => ?_) (fun h3 => ?_)
  · (repeat (first | refine st_q rfl rfl rfl ?_ | refine st_gy rfl (st_q rfl rfl rfl ?_) | refine st_gn rfl ?_ | refine st_gu rfl ?_ | (refine st_nil ?_; (repeat (first | refine kp_cons rfl ?_ | refine kp_skip ?_)); refine kp_nil ?_) | refine awp_seq ?_ | refine aw_end (fun _ _ => rfl) ?_ | refine awp_block ?_ | refine aw_skipE (fun _ _ => rfl) ?_ | refine aw_exitE (fun _ _ => rfl) ?_ | refine awp_cond (t := true) rfl (fun _ => ?_) (fun e => by cases e) | refine awp_cond (t := false) rfl (fun e => by cases e) (fun _ => ?_)))
    have e1 : IntKind.wrap .u64 ((u' : Int).tdiv 10) = ((u' / 10 : Nat) : Int) := by
      rw [Int.tdiv_eq_ediv_of_nonneg (by omega), wu]; omega
    rw [e1]
    have hd : digN u' = digN (u' / 10) + 1 := by rw [digN, dif_neg (by omega)]
    refine awp_region ?_
    (repeat (refine st_q rfl rfl rfl ?_))
    refine st_cat rfl (by simp only [List.length_reverse, List.length_cons, List.length_nil]; unfold maxLen; omega) ?_
    refine st_q rfl rfl rfl ?_
    refine st_nil ?_
    refine kp_less (keep := [0, 3]) ?_
    ((repeat (first | refine kp_cons rfl ?_ | refine kp_skip ?_)); refine kp_nil ?_)
    exact ⟨_, u' / 10, HSub.refl _, ⟨u' / 10, _, rfl, rfl, by simp only [List.length_append, List.length_reverse, List.length_cons, List.length_nil]; omega, by omega, rfl⟩, by omega⟩
  · (repeat (first | refine st_q rfl rfl rfl ?_ | refine st_gy rfl (st_q rfl rfl rfl ?_) | refine st_gn rfl ?_ | refine st_gu rfl ?_ | (refine st_nil ?_; (repeat (first | refine kp_cons rfl ?_ | refine kp_skip ?_)); refine kp_nil ?_) | refine awp_seq ?_ | refine aw_end (fun _ _ => rfl) ?_ | refine awp_block ?_ | refine aw_skipE (fun _ _ => rfl) ?_ | refine aw_exitE (fun _ _ => rfl) ?_ | refine awp_cond (t := true) rfl (fun _ => ?_) (fun e => by cases e) | refine awp_cond (t := false) rfl (fun e => by cases e) (fun _ => ?_)))
    have hd : digN u' = 1 := by rw [digN, dif_pos (by omega)]
    refine awp_ret ?_
    exact ares rfl (HSub.refl _) ⟨⟨s, rfl, by omega⟩, rfl⟩

theorem c_Digits (i : Int) (h0 : -9223372036854775808 ≤ i) (h1 : i ≤ 9223372036854775807) (σ : AHeap) : ACalls Try.prog f_ingotref11_Digits [.int .i64 i] σ fun r σ' => r = .int .i64 (digN i.natAbs : Int) ∧ σ' = σ := by
  refine acalls_enter rfl ingotref11_Digits_ok (Nat.le_of_ble_eq_true rfl) ?_
  (repeat (first | refine st_q rfl rfl rfl ?_ | refine st_gy rfl (st_q rfl rfl rfl ?_) | refine st_gn rfl ?_ | refine st_gu rfl ?_ | (refine st_nil ?_; (repeat (first | refine kp_cons rfl ?_ | refine kp_skip ?_)); refine kp_nil ?_) | refine awp_seq ?_ | refine aw_end (fun _ _ => rfl) ?_ | refine awp_block ?_ | refine aw_skipE (fun _ _ => rfl) ?_ | refine aw_exitE (fun _ _ => rfl) ?_ | refine awp_cond (t := true) rfl (fun _ => ?_) (fun e => by cases e) | refine awp_cond (t := false) rfl (fun e => by cases e) (fun _ => ?_)))
  refine st_callv rfl (c_size i h0 h1 _) ?_
  refine st_call rfl (c_digits i.natAbs (by omega) _) ?_ ?_
  · exact ⟨_, _, ⟨List.replicate (digN i.natAbs) 0, rfl, List.length_replicate⟩, rfl⟩
  rintro _ _ ⟨⟨s, rfl, hs⟩, rfl⟩
  (repeat (first | refine st_q rfl rfl rfl ?_ | refine st_gy rfl (st_q rfl rfl rfl ?_) | refine st_gn rfl ?_ | refine st_gu rfl ?_ | (refine st_nil ?_; (repeat (first | refine kp_cons rfl ?_ | refine kp_skip ?_)); refine kp_nil ?_) | refine awp_seq ?_ | refine aw_end (fun _ _ => rfl) ?_ | refine awp_block ?_ | refine aw_skipE (fun _ _ => rfl) ?_ | refine aw_exitE (fun _ _ => rfl) ?_ | refine awp_cond (t := true) rfl (fun _ => ?_) (fun e => by cases e) | refine awp_cond (t := false) rfl (fun e => by cases e) (fun _ => ?_)))
  refine awp_ret ?_
  exact ares rfl (HSub.refl _) ⟨by rw [← hs]; rfl, rfl⟩

theorem c_stampCheck (i n : Int) (σ : AHeap) : ACalls Try.prog f_ingotref12_Check [.int .i64 i, .int .i64 n] σ fun r σ' => r = .bool (timeOk i n) ∧ σ' = σ := by
  refine acalls_enter rfl ingotref12_Check_ok (Nat.le_of_ble_eq_true rfl) ?_
  (repeat (first | refine st_q rfl rfl rfl ?_ | refine st_gy rfl (st_q rfl rfl rfl ?_) | refine st_gn rfl ?_ | refine st_gu rfl ?_ | (refine st_nil ?_; (repeat (first | refine kp_cons rfl ?_ | refine kp_skip ?_)); refine kp_nil ?_) | refine awp_seq ?_ | refine aw_end (fun _ _ => rfl) ?_ | refine awp_block ?_ | refine aw_skipE (fun _ _ => rfl) ?_ | refine aw_exitE (fun _ _ => rfl) ?_ | refine awp_cond (t := true) rfl (fun _ => ?_) (fun e => by cases e) | refine awp_cond (t := false) rfl (fun e => by cases e) (fun _ => ?_)))
  by_cases h1 : -1099511627776 ≤ i
  · (rw [show decide (-1099511627776 ≤ i) = true from decide_eq_true (by omega)])
    (repeat (first | refine st_q rfl rfl rfl ?_ | refine st_gy rfl (st_q rfl rfl rfl ?_) | refine st_gn rfl ?_ | refine st_gu rfl ?_ | (refine st_nil ?_; (repeat (first | refine kp_cons rfl ?_ | refine kp_skip ?_)); refine kp_nil ?_) | refine awp_seq ?_ | refine aw_end (fun _ _ => rfl) ?_ | refine awp_block ?_ | refine aw_skipE (fun _ _ => rfl) ?_ | refine aw_exitE (fun _ _ => rfl) ?_ | refine awp_cond (t := true) rfl (fun _ => ?_) (fun e => by cases e) | refine awp_cond (t := false) rfl (fun e => by cases e) (fun _ => ?_)))
    by_cases h2 : i ≤ 1099511627776
    · (rw [show decide (i ≤ 1099511627776) = true from decide_eq_true (by omega)])
      (repeat (first | refine st_q rfl rfl rfl ?_ | refine st_gy rfl (st_q rfl rfl rfl ?_) | refine st_gn rfl ?_ | refine st_gu rfl ?_ | (refine st_nil ?_; (repeat (first | refine kp_cons rfl ?_ | refine kp_skip ?_)); refine kp_nil ?_) | refine awp_seq ?_ | refine aw_end (fun _ _ => rfl) ?_ | refine awp_block ?_ | refine aw_skipE (fun _ _ => rfl) ?_ | refine aw_exitE (fun _ _ => rfl) ?_ | refine awp_cond (t := true) rfl (fun _ => ?_) (fun e => by cases e) | refine awp_cond (t := false) rfl (fun e => by cases e) (fun _ => ?_)))
      by_cases h3 : 0 ≤ n
      · (rw [show decide (0 ≤ n) = true from decide_eq_true (by omega)])
        (repeat (first | refine st_q rfl rfl rfl ?_ | refine st_gy rfl (st_q rfl rfl rfl ?_) | refine st_gn rfl ?_ | refine st_gu rfl ?_ | (refine st_nil ?_; (repeat (first | refine kp_cons rfl ?_ | refine kp_skip ?_)); refine kp_nil ?_) | refine awp_seq ?_ | refine aw_end (fun _ _ => rfl) ?_ | refine awp_block ?_ | refine aw_skipE (fun _ _ => rfl) ?_ | refine aw_exitE (fun _ _ => rfl) ?_ | refine awp_cond (t := true) rfl (fun _ => ?_) (fun e => by cases e) | refine awp_cond (t := false) rfl (fun e => by cases e) (fun _ => ?_)))
        refine awp_ret ?_
        exact ares rfl (HSub.refl _) ⟨by simp [timeOk, tupOf, h1, h2, h3], rfl⟩
      · (rw [show decide (0 ≤ n) = false from decide_eq_false (by omega)])
        (repeat (first | refine st_q rfl rfl rfl ?_ | refine st_gy rfl (st_q rfl rfl rfl ?_) | refine st_gn rfl ?_ | refine st_gu rfl ?_ | (refine st_nil ?_; (repeat (first | refine kp_cons rfl ?_ | refine kp_skip ?_)); refine kp_nil ?_) | refine awp_seq ?_ | refine aw_end (fun _ _ => rfl) ?_ | refine awp_block ?_ | refine aw_skipE (fun _ _ => rfl) ?_ | refine aw_exitE (fun _ _ => rfl) ?_ | refine awp_cond (t := true) rfl (fun _ => ?_) (fun e => by cases e) | refine awp_cond (t := false) rfl (fun e => by cases e) (fun _ => ?_)))
        refine awp_ret ?_
        exact ares rfl (HSub.refl _) ⟨by simp [timeOk, tupOf, h3], rfl⟩
    · (rw [show decide (i ≤ 1099511627776) = false from decide_eq_false (by omega)])
      (repeat (first | refine st_q rfl rfl rfl ?_ | refine st_gy rfl (st_q rfl rfl rfl ?_) | refine st_gn rfl ?_ | refine st_gu rfl ?_ | (refine st_nil ?_; (repeat (first | refine kp_cons rfl ?_ | refine kp_skip ?_)); refine kp_nil ?_) | refine awp_seq ?_ | refine aw_end (fun _ _ => rfl) ?_ | refine awp_block ?_ | refine aw_skipE (fun _ _ => rfl) ?_ | refine aw_exitE (fun _ _ => rfl) ?_ | refine awp_cond (t := true) rfl (fun _ => ?_) (fun e => by cases e) | refine awp_cond (t := false) rfl (fun e => by cases e) (fun _ => ?_)))
      refine awp_ret ?_
      exact ares rfl (HSub.refl _) ⟨by simp [timeOk, tupOf, h2], rfl⟩
  · (rw [show decide (-1099511627776 ≤ i) = false from decide_eq_false (by omega)])
    (repeat (first | refine st_q rfl rfl rfl ?_ | refine st_gy rfl (st_q rfl rfl rfl ?_) | refine st_gn rfl ?_ | refine st_gu rfl ?_ | (refine st_nil ?_; (repeat (first | refine kp_cons rfl ?_ | refine kp_skip ?_)); refine kp_nil ?_) | refine awp_seq ?_ | refine aw_end (fun _ _ => rfl) ?_ | refine awp_block ?_ | refine aw_skipE (fun _ _ => rfl) ?_ | refine aw_exitE (fun _ _ => rfl) ?_ | refine awp_cond (t := true) rfl (fun _ => ?_) (fun e => by cases e) | refine awp_cond (t := false) rfl (fun e => by cases e) (fun _ => ?_)))
    refine awp_ret ?_
    exact ares rfl (HSub.refl _) ⟨by simp [timeOk, tupOf, h1], rfl⟩

theorem c_Signs (b : List UInt8) (f : Bool) (hb : b.length ≤ 9223372036854775807) (σ : AHeap) : ACalls Try.prog f_ingotref14_Signs [.slc 1 (bytes b) f] σ fun r σ' => r = .int .i64 (signs b : Int) ∧ σ' = σ := by
  refine acalls_enter rfl ingotref14_Signs_ok (Nat.le_of_ble_eq_true rfl) ?_
  (repeat (first | refine st_q rfl rfl rfl ?_ | refine st_gy rfl (st_q rfl rfl rfl ?_) | refine st_gn rfl ?_ | refine st_gu rfl ?_ | (refine st_nil ?_; (repeat (first | refine kp_cons rfl ?_ | refine kp_skip ?_)); refine kp_nil ?_) | refine awp_seq ?_ | refine aw_end (fun _ _ => rfl) ?_ | refine awp_block ?_ | refine aw_skipE (fun _ _ => rfl) ?_ | refine aw_exitE (fun _ _ => rfl) ?_ | refine awp_cond (t := true) rfl (fun _ => ?_) (fun e => by cases e) | refine awp_cond (t := false) rfl (fun e => by cases e) (fun _ => ?_)))
  refine awp_loopN (fun m F σ' => ∃ (i : Nat), F = fset 0 (some (.slc 1 (bytes b) f)) (fset 3 (some (.int .i64 (signs (b.take i) : Int))) (fset 4 (some (.int .i64 (i : Int))) fnone)) ∧ σ = σ' ∧ i ≤ b.length ∧ m = b.length - i) (n := b.length)
    ⟨0, rfl, rfl, by omega, rfl⟩ ?_
  rintro m F σ' ⟨i, rfl, rfl, hi, rfl⟩
  (repeat (first | refine st_q rfl rfl rfl ?_ | refine st_gy rfl (st_q rfl rfl rfl ?_) | refine st_gn rfl ?_ | refine st_gu rfl ?_ | (refine st_nil ?_; (repeat (first | refine kp_cons rfl ?_ | refine kp_skip ?_)); refine kp_nil ?_) | refine awp_seq ?_ | refine aw_end (fun _ _ => rfl) ?_ | refine awp_block ?_ | refine aw_skipE (fun _ _ => rfl) ?_ | refine aw_exitE (fun _ _ => rfl) ?_ | refine awp_cond (t := true) rfl (fun _ => ?_) (fun e => by cases e) | refine awp_cond (t := false) rfl (fun e => by cases e) (fun _ => ?_)))
  rw [bytes_length]
  refine awp_condp (p := (i : Int) < (b.length : Int)) rfl (fun h3 => ?_) (fun h3 => ?_)
  · obtain ⟨c, hc⟩ : ∃ c, b[i]? = some c := ⟨_, List.getElem?_eq_getElem (by omega)⟩
    have hx : (bytes b)[(i : Int).toNat]? = some (byte c) := by rw [bytes_get, Int.toNat_natCast, hc]; rfl
    have hst := signs_take hc
    have hsl := signs_le (b.take (i + 1))
    rw [List.length_take] at hsl
    (repeat (first | refine st_q rfl rfl rfl ?_ | refine st_gy rfl (st_q rfl rfl rfl ?_) | refine st_gn rfl ?_ | refine st_gu rfl ?_ | (refine st_nil ?_; (repeat (first | refine kp_cons rfl ?_ | refine kp_skip ?_)); refine kp_nil ?_) | refine awp_seq ?_ | refine aw_end (fun _ _ => rfl) ?_ | refine awp_block ?_ | refine aw_skipE (fun _ _ => rfl) ?_ | refine aw_exitE (fun _ _ => rfl) ?_ | refine awp_cond (t := true) rfl (fun _ => ?_) (fun e => by cases e) | refine awp_cond (t := false) rfl (fun e => by cases e) (fun _ => ?_)))
    refine st_iad rfl (by omega) hx ?_
    (repeat (first | refine st_q rfl rfl rfl ?_ | refine st_gy rfl (st_q rfl rfl rfl ?_) | refine st_gn rfl ?_ | refine st_gu rfl ?_ | (refine st_nil ?_; (repeat (first | refine kp_cons rfl ?_ | refine kp_skip ?_)); refine kp_nil ?_) | refine awp_seq ?_ | refine aw_end (fun _ _ => rfl) ?_ | refine awp_block ?_ | refine aw_skipE (fun _ _ => rfl) ?_ | refine aw_exitE (fun _ _ => rfl) ?_ | refine awp_cond (t := true) rfl (fun _ => ?_) (fun e => by cases e) | refine awp_cond (t := false) rfl (fun e => by cases e) (fun _ => ?_)))
    have e6 : Int.fdiv (c.toNat : Int) (2 ^ (Nat.min ((6 : Int).toNat) IntKind.u8.bits)) = ((c.toNat / 64 : Nat) : Int) := by
      show Int.fdiv (c.toNat : Int) 64 = _
      rw [Int.fdiv_eq_ediv_of_nonneg _ (by omega)]; omega
    rw [e6]
    (repeat (first | refine st_q rfl rfl rfl ?_ | refine st_gy rfl (st_q rfl rfl rfl ?_) | refine st_gn rfl ?_ | refine st_gu rfl ?_ | (refine st_nil ?_; (repeat (first | refine kp_cons rfl ?_ | refine kp_skip ?_)); refine kp_nil ?_) | refine awp_seq ?_ | refine aw_end (fun _ _ => rfl) ?_ | refine awp_block ?_ | refine aw_skipE (fun _ _ => rfl) ?_ | refine aw_exitE (fun _ _ => rfl) ?_ | refine awp_cond (t := true) rfl (fun _ => ?_) (fun e => by cases e) | refine awp_cond (t := false) rfl (fun e => by cases e) (fun _ => ?_)))
    have next : ∀ x : Int, x = (signs (b.take (i + 1)) : Int) → AWp Try.prog ingotref14_Signs.n (.region ingotref14_Signs_r6 [0, 3, 4]) (ALess (fun m F σ' => ∃ (i : Nat), F = fset 0 (some (.slc 1 (bytes b) f)) (fset 3 (some (.int .i64 (signs (b.take i) : Int))) (fset 4 (some (.int .i64 (i : Int))) fnone)) ∧ σ = σ' ∧ i ≤ b.length ∧ m = b.length - i) (b.length - i)
        (AInBlock 0 (AThen Try.prog ingotref14_Signs.n (ingotref14_Signs.code.snd 3) (ARet ingotref14_Signs.res fun r σ' => r = .int .i64 (signs b : Int) ∧ σ' = σ))))
        (fset 0 (some (.slc 1 (bytes b) f)) (fset 3 (some (.int .i64 x)) (fset 4 (some (.int .i64 (i : Int))) fnone))) σ := by
      rintro x rfl
      refine aw_round ?_
      (repeat (refine st_q rfl rfl rfl ?_))
      rw [show IntKind.wrap .i64 ((i : Int) + 1) = ((i + 1 : Nat) : Int) by rw [w64 _ (by omega) (by omega)]; omega]
      (refine st_nil ?_; (repeat (first | refine kp_cons rfl ?_ | refine kp_skip ?_)); refine kp_nil ?_)
      exact ⟨_, b.length - (i + 1), HSub.refl _, ⟨i + 1, rfl, rfl, by omega, rfl⟩, by omega⟩
    refine awp_condp (p := ((c.toNat / 64 : Nat) : Int) ≠ 2) rfl (fun h4 => ?_) (fun h4 => ?_)
    · refine aw_end (fun _ _ => rfl) ?_
      (repeat (refine st_q rfl rfl rfl ?_))
      (refine st_nil ?_; (repeat (first | refine kp_cons rfl ?_ | refine kp_skip ?_)); refine kp_nil ?_)
      refine next _ ?_
      rw [hst, if_pos (by omega)]
      rw [hst, if_pos (by omega)] at hsl
      rw [w64 _ (by omega) (by omega)]; rfl
    · refine aw_skipE (fun _ _ => rfl) ?_
      (refine kp_weaken (keep := [0, 3, 4]) ?_; ((repeat (first | refine kp_cons rfl ?_ | refine kp_skip ?_)); refine kp_nil ?_))
      refine next _ ?_
      rw [hst, if_neg (by omega)]; rfl
  · (repeat (first | refine st_q rfl rfl rfl ?_ | refine st_gy rfl (st_q rfl rfl rfl ?_) | refine st_gn rfl ?_ | refine st_gu rfl ?_ | (refine st_nil ?_; (repeat (first | refine kp_cons rfl ?_ | refine kp_skip ?_)); refine kp_nil ?_) | refine awp_seq ?_ | refine aw_end (fun _ _ => rfl) ?_ | refine awp_block ?_ | refine aw_skipE (fun _ _ => rfl) ?_ | refine aw_exitE (fun _ _ => rfl) ?_ | refine awp_cond (t := true) rfl (fun _ => ?_) (fun e => by cases e) | refine awp_cond (t := false) rfl (fun e => by cases e) (fun _ => ?_)))
    have hie : i = b.length := by omega
    subst hie
    refine awp_ret ?_
    exact ares rfl (HSub.refl _) ⟨by rw [List.take_length]; rfl, rfl⟩
end Go.Abs

/- Contracts: which numbers may be; the types of kids (the reference's, values). -/
namespace Go.Abs
open Go Go.Proofs
set_option linter.unusedVariables false
set_option linter.unusedSimpArgs false
set_option maxHeartbeats 4000000
attribute [local irreducible] AWp aops KP

theorem c_Numbers (t : Ty) (i n : Int) (h0 : -9223372036854775808 ≤ i) (h1 : i ≤ 9223372036854775807) (σ : AHeap) : ACalls Try.prog f_ingotref14_Numbers [encT t, .int .i64 i, .int .i64 n] σ fun r σ' => r = .bool (numOk t.kind t.kids.length t.prec i n) ∧ σ' = σ := by
  obtain ⟨k, ns, ks, l, p, s⟩ := t
  simp only [encT, Ty.kind, Ty.kids, Ty.prec] at *
  refine acalls_enter rfl ingotref14_Numbers_ok (Nat.le_of_ble_eq_true rfl) ?_
  refine aw_region ?_
  refine st_box rfl (AVal.fit_iff.1 rfl) fun b hb => ?_
  (repeat (refine st_q rfl rfl rfl ?_))
  (refine st_nil ?_; (repeat (first | refine kp_cons rfl ?_ | refine kp_skip ?_)); refine kp_nil ?_)
  refine awp_freezeP (d := 3) (cs := [.int .i64 k, .slc 1 (ns.map .str) false, .slc 6 (encTs ks) false, .int .i64 l, .int .i64 p, .int .i64 s]) rfl ?_
  have main : ¬ (n ≠ 0 ∧ k ≠ 9) → AWp Try.prog ingotref14_Numbers.n (ingotref14_Numbers.code.snd 2) (ARet ingotref14_Numbers.res fun r σ' => r = .bool (numOk k ks.length p i n) ∧ σ' = σ)
      (fset 1 (some (.int .i64 i)) (fset 2 (some (.int .i64 n)) (fset 3 (some (.iptr [.int .i64 k, .slc 1 (ns.map .str) false, .slc 6 (encTs ks) false, .int .i64 l, .int .i64 p, .int .i64 s])) fnone))) σ := by
    intro hc
    have hN : numOk k ks.length p i n = (if k = 0 then decide (i = 0 ∨ i = 1) else if k = 1 then decide (-128 ≤ i ∧ i ≤ 127) else if k = 2 then decide (-32768 ≤ i ∧ i ≤ 32767)
      else if k = 3 ∨ k = 15 then decide (-2147483648 ≤ i ∧ i ≤ 2147483647) else if k = 4 then true else if k = 14 then decide ((digN i.natAbs : Int) ≤ p) else if k = 9 then timeOk i n
      else if k = 13 then decide (0 ≤ i ∧ i < ks.length) else decide (i = 0)) := by rw [numOk, if_neg hc]
    rw [hN]
    by_cases k0 : k = 0
    · subst k0
      (repeat (first | refine st_q rfl rfl rfl ?_ | refine st_gy rfl (st_q rfl rfl rfl ?_) | refine st_gn rfl ?_ | refine st_gu rfl ?_ | (refine st_nil ?_; (repeat (first | refine kp_cons rfl ?_ | refine kp_skip ?_)); refine kp_nil ?_) | refine awp_seq ?_ | refine aw_end (fun _ _ => rfl) ?_ | refine awp_block ?_ | refine aw_skipE (fun _ _ => rfl) ?_ | refine aw_exitE (fun _ _ => rfl) ?_ | refine awp_cond (t := true) rfl (fun _ => ?_) (fun e => by cases e) | refine awp_cond (t := false) rfl (fun e => by cases e) (fun _ => ?_)))
      by_cases q : i = 0
      · (rw [show decide (i = 0) = true from decide_eq_true (by omega)])
        (repeat (first | refine st_q rfl rfl rfl ?_ | refine st_gy rfl (st_q rfl rfl rfl ?_) | refine st_gn rfl ?_ | refine st_gu rfl ?_ | (refine st_nil ?_; (repeat (first | refine kp_cons rfl ?_ | refine kp_skip ?_)); refine kp_nil ?_) | refine awp_seq ?_ | refine aw_end (fun _ _ => rfl) ?_ | refine awp_block ?_ | refine aw_skipE (fun _ _ => rfl) ?_ | refine aw_exitE (fun _ _ => rfl) ?_ | refine awp_cond (t := true) rfl (fun _ => ?_) (fun e => by cases e) | refine awp_cond (t := false) rfl (fun e => by cases e) (fun _ => ?_)))
        refine awp_ret ?_
        exact ares rfl (HSub.refl _) ⟨by simp [tupOf, q], rfl⟩
      · (rw [show decide (i = 0) = false from decide_eq_false (by omega)])
        (repeat (first | refine st_q rfl rfl rfl ?_ | refine st_gy rfl (st_q rfl rfl rfl ?_) | refine st_gn rfl ?_ | refine st_gu rfl ?_ | (refine st_nil ?_; (repeat (first | refine kp_cons rfl ?_ | refine kp_skip ?_)); refine kp_nil ?_) | refine awp_seq ?_ | refine aw_end (fun _ _ => rfl) ?_ | refine awp_block ?_ | refine aw_skipE (fun _ _ => rfl) ?_ | refine aw_exitE (fun _ _ => rfl) ?_ | refine awp_cond (t := true) rfl (fun _ => ?_) (fun e => by cases e) | refine awp_cond (t := false) rfl (fun e => by cases e) (fun _ => ?_)))
        refine awp_ret ?_
        exact ares rfl (HSub.refl _) ⟨by simp [tupOf, q], rfl⟩
    by_cases k1 : k = 1
    · subst k1
      (repeat (first | refine st_q rfl rfl rfl ?_ | refine st_gy rfl (st_q rfl rfl rfl ?_) | refine st_gn rfl ?_ | refine st_gu rfl ?_ | (refine st_nil ?_; (repeat (first | refine kp_cons rfl ?_ | refine kp_skip ?_)); refine kp_nil ?_) | refine awp_seq ?_ | refine aw_end (fun _ _ => rfl) ?_ | refine awp_block ?_ | refine aw_skipE (fun _ _ => rfl) ?_ | refine aw_exitE (fun _ _ => rfl) ?_ | refine awp_cond (t := true) rfl (fun _ => ?_) (fun e => by cases e) | refine awp_cond (t := false) rfl (fun e => by cases e) (fun _ => ?_)))
      by_cases q : -128 ≤ i
      · (rw [show decide (-128 ≤ i) = true from decide_eq_true (by omega)])
        (repeat (first | refine st_q rfl rfl rfl ?_ | refine st_gy rfl (st_q rfl rfl rfl ?_) | refine st_gn rfl ?_ | refine st_gu rfl ?_ | (refine st_nil ?_; (repeat (first | refine kp_cons rfl ?_ | refine kp_skip ?_)); refine kp_nil ?_) | refine awp_seq ?_ | refine aw_end (fun _ _ => rfl) ?_ | refine awp_block ?_ | refine aw_skipE (fun _ _ => rfl) ?_ | refine aw_exitE (fun _ _ => rfl) ?_ | refine awp_cond (t := true) rfl (fun _ => ?_) (fun e => by cases e) | refine awp_cond (t := false) rfl (fun e => by cases e) (fun _ => ?_)))
        refine awp_ret ?_
        exact ares rfl (HSub.refl _) ⟨by simp [tupOf, q], rfl⟩
      · (rw [show decide (-128 ≤ i) = false from decide_eq_false (by omega)])
        (repeat (first | refine st_q rfl rfl rfl ?_ | refine st_gy rfl (st_q rfl rfl rfl ?_) | refine st_gn rfl ?_ | refine st_gu rfl ?_ | (refine st_nil ?_; (repeat (first | refine kp_cons rfl ?_ | refine kp_skip ?_)); refine kp_nil ?_) | refine awp_seq ?_ | refine aw_end (fun _ _ => rfl) ?_ | refine awp_block ?_ | refine aw_skipE (fun _ _ => rfl) ?_ | refine aw_exitE (fun _ _ => rfl) ?_ | refine awp_cond (t := true) rfl (fun _ => ?_) (fun e => by cases e) | refine awp_cond (t := false) rfl (fun e => by cases e) (fun _ => ?_)))
        refine awp_ret ?_
        exact ares rfl (HSub.refl _) ⟨by simp [tupOf, q], rfl⟩
    by_cases k2 : k = 2
    · subst k2
      (repeat (first | refine st_q rfl rfl rfl ?_ | refine st_gy rfl (st_q rfl rfl rfl ?_) | refine st_gn rfl ?_ | refine st_gu rfl ?_ | (refine st_nil ?_; (repeat (first | refine kp_cons rfl ?_ | refine kp_skip ?_)); refine kp_nil ?_) | refine awp_seq ?_ | refine aw_end (fun _ _ => rfl) ?_ | refine awp_block ?_ | refine aw_skipE (fun _ _ => rfl) ?_ | refine aw_exitE (fun _ _ => rfl) ?_ | refine awp_cond (t := true) rfl (fun _ => ?_) (fun e => by cases e) | refine awp_cond (t := false) rfl (fun e => by cases e) (fun _ => ?_)))
      by_cases q : -32768 ≤ i
      · (rw [show decide (-32768 ≤ i) = true from decide_eq_true (by omega)])
        (repeat (first | refine st_q rfl rfl rfl ?_ | refine st_gy rfl (st_q rfl rfl rfl ?_) | refine st_gn rfl ?_ | refine st_gu rfl ?_ | (refine st_nil ?_; (repeat (first | refine kp_cons rfl ?_ | refine kp_skip ?_)); refine kp_nil ?_) | refine awp_seq ?_ | refine aw_end (fun _ _ => rfl) ?_ | refine awp_block ?_ | refine aw_skipE (fun _ _ => rfl) ?_ | refine aw_exitE (fun _ _ => rfl) ?_ | refine awp_cond (t := true) rfl (fun _ => ?_) (fun e => by cases e) | refine awp_cond (t := false) rfl (fun e => by cases e) (fun _ => ?_)))
        refine awp_ret ?_
        exact ares rfl (HSub.refl _) ⟨by simp [tupOf, q], rfl⟩
      · (rw [show decide (-32768 ≤ i) = false from decide_eq_false (by omega)])
        (repeat (first | refine st_q rfl rfl rfl ?_ | refine st_gy rfl (st_q rfl rfl rfl ?_) | refine st_gn rfl ?_ | refine st_gu rfl ?_ | (refine st_nil ?_; (repeat (first | refine kp_cons rfl ?_ | refine kp_skip ?_)); refine kp_nil ?_) | refine awp_seq ?_ | refine aw_end (fun _ _ => rfl) ?_ | refine awp_block ?_ | refine aw_skipE (fun _ _ => rfl) ?_ | refine aw_exitE (fun _ _ => rfl) ?_ | refine awp_cond (t := true) rfl (fun _ => ?_) (fun e => by cases e) | refine awp_cond (t := false) rfl (fun e => by cases e) (fun _ => ?_)))
        refine awp_ret ?_
        exact ares rfl (HSub.refl _) ⟨by simp [tupOf, q], rfl⟩
    by_cases k3 : k = 3
    · subst k3
      (repeat (first | refine st_q rfl rfl rfl ?_ | refine st_gy rfl (st_q rfl rfl rfl ?_) | refine st_gn rfl ?_ | refine st_gu rfl ?_ | (refine st_nil ?_; (repeat (first | refine kp_cons rfl ?_ | refine kp_skip ?_)); refine kp_nil ?_) | refine awp_seq ?_ | refine aw_end (fun _ _ => rfl) ?_ | refine awp_block ?_ | refine aw_skipE (fun _ _ => rfl) ?_ | refine aw_exitE (fun _ _ => rfl) ?_ | refine awp_cond (t := true) rfl (fun _ => ?_) (fun e => by cases e) | refine awp_cond (t := false) rfl (fun e => by cases e) (fun _ => ?_)))
      by_cases q : -2147483648 ≤ i
      · (rw [show decide (-2147483648 ≤ i) = true from decide_eq_true (by omega)])
        (repeat (first | refine st_q rfl rfl rfl ?_ | refine st_gy rfl (st_q rfl rfl rfl ?_) | refine st_gn rfl ?_ | refine st_gu rfl ?_ | (refine st_nil ?_; (repeat (first | refine kp_cons rfl ?_ | refine kp_skip ?_)); refine kp_nil ?_) | refine awp_seq ?_ | refine aw_end (fun _ _ => rfl) ?_ | refine awp_block ?_ | refine aw_skipE (fun _ _ => rfl) ?_ | refine aw_exitE (fun _ _ => rfl) ?_ | refine awp_cond (t := true) rfl (fun _ => ?_) (fun e => by cases e) | refine awp_cond (t := false) rfl (fun e => by cases e) (fun _ => ?_)))
        refine awp_ret ?_
        exact ares rfl (HSub.refl _) ⟨by simp [tupOf, q], rfl⟩
      · (rw [show decide (-2147483648 ≤ i) = false from decide_eq_false (by omega)])
        (repeat (first | refine st_q rfl rfl rfl ?_ | refine st_gy rfl (st_q rfl rfl rfl ?_) | refine st_gn rfl ?_ | refine st_gu rfl ?_ | (refine st_nil ?_; (repeat (first | refine kp_cons rfl ?_ | refine kp_skip ?_)); refine kp_nil ?_) | refine awp_seq ?_ | refine aw_end (fun _ _ => rfl) ?_ | refine awp_block ?_ | refine aw_skipE (fun _ _ => rfl) ?_ | refine aw_exitE (fun _ _ => rfl) ?_ | refine awp_cond (t := true) rfl (fun _ => ?_) (fun e => by cases e) | refine awp_cond (t := false) rfl (fun e => by cases e) (fun _ => ?_)))
        refine awp_ret ?_
        exact ares rfl (HSub.refl _) ⟨by simp [tupOf, q], rfl⟩
    by_cases k15 : k = 15
    · subst k15
      (repeat (first | refine st_q rfl rfl rfl ?_ | refine st_gy rfl (st_q rfl rfl rfl ?_) | refine st_gn rfl ?_ | refine st_gu rfl ?_ | (refine st_nil ?_; (repeat (first | refine kp_cons rfl ?_ | refine kp_skip ?_)); refine kp_nil ?_) | refine awp_seq ?_ | refine aw_end (fun _ _ => rfl) ?_ | refine awp_block ?_ | refine aw_skipE (fun _ _ => rfl) ?_ | refine aw_exitE (fun _ _ => rfl) ?_ | refine awp_cond (t := true) rfl (fun _ => ?_) (fun e => by cases e) | refine awp_cond (t := false) rfl (fun e => by cases e) (fun _ => ?_)))
      by_cases q : -2147483648 ≤ i
      · (rw [show decide (-2147483648 ≤ i) = true from decide_eq_true (by omega)])
        (repeat (first | refine st_q rfl rfl rfl ?_ | refine st_gy rfl (st_q rfl rfl rfl ?_) | refine st_gn rfl ?_ | refine st_gu rfl ?_ | (refine st_nil ?_; (repeat (first | refine kp_cons rfl ?_ | refine kp_skip ?_)); refine kp_nil ?_) | refine awp_seq ?_ | refine aw_end (fun _ _ => rfl) ?_ | refine awp_block ?_ | refine aw_skipE (fun _ _ => rfl) ?_ | refine aw_exitE (fun _ _ => rfl) ?_ | refine awp_cond (t := true) rfl (fun _ => ?_) (fun e => by cases e) | refine awp_cond (t := false) rfl (fun e => by cases e) (fun _ => ?_)))
        refine awp_ret ?_
        exact ares rfl (HSub.refl _) ⟨by simp [tupOf, q], rfl⟩
      · (rw [show decide (-2147483648 ≤ i) = false from decide_eq_false (by omega)])
        (repeat (first | refine st_q rfl rfl rfl ?_ | refine st_gy rfl (st_q rfl rfl rfl ?_) | refine st_gn rfl ?_ | refine st_gu rfl ?_ | (refine st_nil ?_; (repeat (first | refine kp_cons rfl ?_ | refine kp_skip ?_)); refine kp_nil ?_) | refine awp_seq ?_ | refine aw_end (fun _ _ => rfl) ?_ | refine awp_block ?_ | refine aw_skipE (fun _ _ => rfl) ?_ | refine aw_exitE (fun _ _ => rfl) ?_ | refine awp_cond (t := true) rfl (fun _ => ?_) (fun e => by cases e) | refine awp_cond (t := false) rfl (fun e => by cases e) (fun _ => ?_)))
        refine awp_ret ?_
        exact ares rfl (HSub.refl _) ⟨by simp [tupOf, q], rfl⟩
    by_cases k4 : k = 4
    · subst k4
      (repeat (first | refine st_q rfl rfl rfl ?_ | refine st_gy rfl (st_q rfl rfl rfl ?_) | refine st_gn rfl ?_ | refine st_gu rfl ?_ | (refine st_nil ?_; (repeat (first | refine kp_cons rfl ?_ | refine kp_skip ?_)); refine kp_nil ?_) | refine awp_seq ?_ | refine aw_end (fun _ _ => rfl) ?_ | refine awp_block ?_ | refine aw_skipE (fun _ _ => rfl) ?_ | refine aw_exitE (fun _ _ => rfl) ?_ | refine awp_cond (t := true) rfl (fun _ => ?_) (fun e => by cases e) | refine awp_cond (t := false) rfl (fun e => by cases e) (fun _ => ?_)))
      refine awp_ret ?_
      exact ares rfl (HSub.refl _) ⟨by simp [tupOf], rfl⟩
    by_cases k14 : k = 14
    · subst k14
      (repeat (first | refine st_q rfl rfl rfl ?_ | refine st_gy rfl (st_q rfl rfl rfl ?_) | refine st_gn rfl ?_ | refine st_gu rfl ?_ | (refine st_nil ?_; (repeat (first | refine kp_cons rfl ?_ | refine kp_skip ?_)); refine kp_nil ?_) | refine awp_seq ?_ | refine aw_end (fun _ _ => rfl) ?_ | refine awp_block ?_ | refine aw_skipE (fun _ _ => rfl) ?_ | refine aw_exitE (fun _ _ => rfl) ?_ | refine awp_cond (t := true) rfl (fun _ => ?_) (fun e => by cases e) | refine awp_cond (t := false) rfl (fun e => by cases e) (fun _ => ?_)))
      refine st_callp rfl (c_Digits i h0 h1) ?_
      (repeat (first | refine st_q rfl rfl rfl ?_ | refine st_gy rfl (st_q rfl rfl rfl ?_) | refine st_gn rfl ?_ | refine st_gu rfl ?_ | (refine st_nil ?_; (repeat (first | refine kp_cons rfl ?_ | refine kp_skip ?_)); refine kp_nil ?_) | refine awp_seq ?_ | refine aw_end (fun _ _ => rfl) ?_ | refine awp_block ?_ | refine aw_skipE (fun _ _ => rfl) ?_ | refine aw_exitE (fun _ _ => rfl) ?_ | refine awp_cond (t := true) rfl (fun _ => ?_) (fun e => by cases e) | refine awp_cond (t := false) rfl (fun e => by cases e) (fun _ => ?_)))
      refine awp_ret ?_
      exact ares rfl (HSub.refl _) ⟨by simp [tupOf], rfl⟩
    by_cases k9 : k = 9
    · subst k9
      (repeat (first | refine st_q rfl rfl rfl ?_ | refine st_gy rfl (st_q rfl rfl rfl ?_) | refine st_gn rfl ?_ | refine st_gu rfl ?_ | (refine st_nil ?_; (repeat (first | refine kp_cons rfl ?_ | refine kp_skip ?_)); refine kp_nil ?_) | refine awp_seq ?_ | refine aw_end (fun _ _ => rfl) ?_ | refine awp_block ?_ | refine aw_skipE (fun _ _ => rfl) ?_ | refine aw_exitE (fun _ _ => rfl) ?_ | refine awp_cond (t := true) rfl (fun _ => ?_) (fun e => by cases e) | refine awp_cond (t := false) rfl (fun e => by cases e) (fun _ => ?_)))
      refine st_callv rfl (c_stampCheck i n _) ?_
      (repeat (first | refine st_q rfl rfl rfl ?_ | refine st_gy rfl (st_q rfl rfl rfl ?_) | refine st_gn rfl ?_ | refine st_gu rfl ?_ | (refine st_nil ?_; (repeat (first | refine kp_cons rfl ?_ | refine kp_skip ?_)); refine kp_nil ?_) | refine awp_seq ?_ | refine aw_end (fun _ _ => rfl) ?_ | refine awp_block ?_ | refine aw_skipE (fun _ _ => rfl) ?_ | refine aw_exitE (fun _ _ => rfl) ?_ | refine awp_cond (t := true) rfl (fun _ => ?_) (fun e => by cases e) | refine awp_cond (t := false) rfl (fun e => by cases e) (fun _ => ?_)))
      refine awp_ret ?_
      exact ares rfl (HSub.refl _) ⟨by simp [tupOf], rfl⟩
    by_cases k13 : k = 13
    · subst k13
      (repeat (first | refine st_q rfl rfl rfl ?_ | refine st_gy rfl (st_q rfl rfl rfl ?_) | refine st_gn rfl ?_ | refine st_gu rfl ?_ | (refine st_nil ?_; (repeat (first | refine kp_cons rfl ?_ | refine kp_skip ?_)); refine kp_nil ?_) | refine awp_seq ?_ | refine aw_end (fun _ _ => rfl) ?_ | refine awp_block ?_ | refine aw_skipE (fun _ _ => rfl) ?_ | refine aw_exitE (fun _ _ => rfl) ?_ | refine awp_cond (t := true) rfl (fun _ => ?_) (fun e => by cases e) | refine awp_cond (t := false) rfl (fun e => by cases e) (fun _ => ?_)))
      by_cases q : 0 ≤ i
      · (rw [show decide (0 ≤ i) = true from decide_eq_true (by omega)])
        (repeat (first | refine st_q rfl rfl rfl ?_ | refine st_gy rfl (st_q rfl rfl rfl ?_) | refine st_gn rfl ?_ | refine st_gu rfl ?_ | (refine st_nil ?_; (repeat (first | refine kp_cons rfl ?_ | refine kp_skip ?_)); refine kp_nil ?_) | refine awp_seq ?_ | refine aw_end (fun _ _ => rfl) ?_ | refine awp_block ?_ | refine aw_skipE (fun _ _ => rfl) ?_ | refine aw_exitE (fun _ _ => rfl) ?_ | refine awp_cond (t := true) rfl (fun _ => ?_) (fun e => by cases e) | refine awp_cond (t := false) rfl (fun e => by cases e) (fun _ => ?_)))
        rw [encTs_length]
        refine awp_ret ?_
        exact ares rfl (HSub.refl _) ⟨by simp [tupOf, q], rfl⟩
      · (rw [show decide (0 ≤ i) = false from decide_eq_false (by omega)])
        (repeat (first | refine st_q rfl rfl rfl ?_ | refine st_gy rfl (st_q rfl rfl rfl ?_) | refine st_gn rfl ?_ | refine st_gu rfl ?_ | (refine st_nil ?_; (repeat (first | refine kp_cons rfl ?_ | refine kp_skip ?_)); refine kp_nil ?_) | refine awp_seq ?_ | refine aw_end (fun _ _ => rfl) ?_ | refine awp_block ?_ | refine aw_skipE (fun _ _ => rfl) ?_ | refine aw_exitE (fun _ _ => rfl) ?_ | refine awp_cond (t := true) rfl (fun _ => ?_) (fun e => by cases e) | refine awp_cond (t := false) rfl (fun e => by cases e) (fun _ => ?_)))
        refine awp_ret ?_
        exact ares rfl (HSub.refl _) ⟨by simp [tupOf, q], rfl⟩
    (repeat (first | refine st_q rfl rfl rfl ?_ | refine st_gy rfl (st_q rfl rfl rfl ?_) | refine st_gn rfl ?_ | refine st_gu rfl ?_ | (refine st_nil ?_; (repeat (first | refine kp_cons rfl ?_ | refine kp_skip ?_)); refine kp_nil ?_) | refine awp_seq ?_ | refine aw_end (fun _ _ => rfl) ?_ | refine awp_block ?_ | refine aw_skipE (fun _ _ => rfl) ?_ | refine aw_exitE (fun _ _ => rfl) ?_ | refine awp_cond (t := true) rfl (fun _ => ?_) (fun e => by cases e) | refine awp_cond (t := false) rfl (fun e => by cases e) (fun _ => ?_)))
    (rw [show decide (k = 0) = false from decide_eq_false (by omega)])
    (repeat (first | refine st_q rfl rfl rfl ?_ | refine st_gy rfl (st_q rfl rfl rfl ?_) | refine st_gn rfl ?_ | refine st_gu rfl ?_ | (refine st_nil ?_; (repeat (first | refine kp_cons rfl ?_ | refine kp_skip ?_)); refine kp_nil ?_) | refine awp_seq ?_ | refine aw_end (fun _ _ => rfl) ?_ | refine awp_block ?_ | refine aw_skipE (fun _ _ => rfl) ?_ | refine aw_exitE (fun _ _ => rfl) ?_ | refine awp_cond (t := true) rfl (fun _ => ?_) (fun e => by cases e) | refine awp_cond (t := false) rfl (fun e => by cases e) (fun _ => ?_)))
    (rw [show decide (k = 1) = false from decide_eq_false (by omega)])
    (repeat (first | refine st_q rfl rfl rfl ?_ | refine st_gy rfl (st_q rfl rfl rfl ?_) | refine st_gn rfl ?_ | refine st_gu rfl ?_ | (refine st_nil ?_; (repeat (first | refine kp_cons rfl ?_ | refine kp_skip ?_)); refine kp_nil ?_) | refine awp_seq ?_ | refine aw_end (fun _ _ => rfl) ?_ | refine awp_block ?_ | refine aw_skipE (fun _ _ => rfl) ?_ | refine aw_exitE (fun _ _ => rfl) ?_ | refine awp_cond (t := true) rfl (fun _ => ?_) (fun e => by cases e) | refine awp_cond (t := false) rfl (fun e => by cases e) (fun _ => ?_)))
    (rw [show decide (k = 2) = false from decide_eq_false (by omega)])
    (repeat (first | refine st_q rfl rfl rfl ?_ | refine st_gy rfl (st_q rfl rfl rfl ?_) | refine st_gn rfl ?_ | refine st_gu rfl ?_ | (refine st_nil ?_; (repeat (first | refine kp_cons rfl ?_ | refine kp_skip ?_)); refine kp_nil ?_) | refine awp_seq ?_ | refine aw_end (fun _ _ => rfl) ?_ | refine awp_block ?_ | refine aw_skipE (fun _ _ => rfl) ?_ | refine aw_exitE (fun _ _ => rfl) ?_ | refine awp_cond (t := true) rfl (fun _ => ?_) (fun e => by cases e) | refine awp_cond (t := false) rfl (fun e => by cases e) (fun _ => ?_)))
    (rw [show decide (k = 3) = false from decide_eq_false (by omega)])
    (repeat (first | refine st_q rfl rfl rfl ?_ | refine st_gy rfl (st_q rfl rfl rfl ?_) | refine st_gn rfl ?_ | refine st_gu rfl ?_ | (refine st_nil ?_; (repeat (first | refine kp_cons rfl ?_ | refine kp_skip ?_)); refine kp_nil ?_) | refine awp_seq ?_ | refine aw_end (fun _ _ => rfl) ?_ | refine awp_block ?_ | refine aw_skipE (fun _ _ => rfl) ?_ | refine aw_exitE (fun _ _ => rfl) ?_ | refine awp_cond (t := true) rfl (fun _ => ?_) (fun e => by cases e) | refine awp_cond (t := false) rfl (fun e => by cases e) (fun _ => ?_)))
    (rw [show decide (k = 15) = false from decide_eq_false (by omega)])
    (repeat (first | refine st_q rfl rfl rfl ?_ | refine st_gy rfl (st_q rfl rfl rfl ?_) | refine st_gn rfl ?_ | refine st_gu rfl ?_ | (refine st_nil ?_; (repeat (first | refine kp_cons rfl ?_ | refine kp_skip ?_)); refine kp_nil ?_) | refine awp_seq ?_ | refine aw_end (fun _ _ => rfl) ?_ | refine awp_block ?_ | refine aw_skipE (fun _ _ => rfl) ?_ | refine aw_exitE (fun _ _ => rfl) ?_ | refine awp_cond (t := true) rfl (fun _ => ?_) (fun e => by cases e) | refine awp_cond (t := false) rfl (fun e => by cases e) (fun _ => ?_)))
    (rw [show decide (k = 4) = false from decide_eq_false (by omega)])
    (repeat (first | refine st_q rfl rfl rfl ?_ | refine st_gy rfl (st_q rfl rfl rfl ?_) | refine st_gn rfl ?_ | refine st_gu rfl ?_ | (refine st_nil ?_; (repeat (first | refine kp_cons rfl ?_ | refine kp_skip ?_)); refine kp_nil ?_) | refine awp_seq ?_ | refine aw_end (fun _ _ => rfl) ?_ | refine awp_block ?_ | refine aw_skipE (fun _ _ => rfl) ?_ | refine aw_exitE (fun _ _ => rfl) ?_ | refine awp_cond (t := true) rfl (fun _ => ?_) (fun e => by cases e) | refine awp_cond (t := false) rfl (fun e => by cases e) (fun _ => ?_)))
    (rw [show decide (k = 14) = false from decide_eq_false (by omega)])
    (repeat (first | refine st_q rfl rfl rfl ?_ | refine st_gy rfl (st_q rfl rfl rfl ?_) | refine st_gn rfl ?_ | refine st_gu rfl ?_ | (refine st_nil ?_; (repeat (first | refine kp_cons rfl ?_ | refine kp_skip ?_)); refine kp_nil ?_) | refine awp_seq ?_ | refine aw_end (fun _ _ => rfl) ?_ | refine awp_block ?_ | refine aw_skipE (fun _ _ => rfl) ?_ | refine aw_exitE (fun _ _ => rfl) ?_ | refine awp_cond (t := true) rfl (fun _ => ?_) (fun e => by cases e) | refine awp_cond (t := false) rfl (fun e => by cases e) (fun _ => ?_)))
    (rw [show decide (k = 9) = false from decide_eq_false (by omega)])
    (repeat (first | refine st_q rfl rfl rfl ?_ | refine st_gy rfl (st_q rfl rfl rfl ?_) | refine st_gn rfl ?_ | refine st_gu rfl ?_ | (refine st_nil ?_; (repeat (first | refine kp_cons rfl ?_ | refine kp_skip ?_)); refine kp_nil ?_) | refine awp_seq ?_ | refine aw_end (fun _ _ => rfl) ?_ | refine awp_block ?_ | refine aw_skipE (fun _ _ => rfl) ?_ | refine aw_exitE (fun _ _ => rfl) ?_ | refine awp_cond (t := true) rfl (fun _ => ?_) (fun e => by cases e) | refine awp_cond (t := false) rfl (fun e => by cases e) (fun _ => ?_)))
    (rw [show decide (k = 13) = false from decide_eq_false (by omega)])
    (repeat (first | refine st_q rfl rfl rfl ?_ | refine st_gy rfl (st_q rfl rfl rfl ?_) | refine st_gn rfl ?_ | refine st_gu rfl ?_ | (refine st_nil ?_; (repeat (first | refine kp_cons rfl ?_ | refine kp_skip ?_)); refine kp_nil ?_) | refine awp_seq ?_ | refine aw_end (fun _ _ => rfl) ?_ | refine awp_block ?_ | refine aw_skipE (fun _ _ => rfl) ?_ | refine aw_exitE (fun _ _ => rfl) ?_ | refine awp_cond (t := true) rfl (fun _ => ?_) (fun e => by cases e) | refine awp_cond (t := false) rfl (fun e => by cases e) (fun _ => ?_)))
    refine awp_ret ?_
    exact ares rfl (HSub.refl _) ⟨by simp [tupOf, k0, k1, k2, k3, k15, k4, k14, k9, k13], rfl⟩
  have key : ∀ rest : ACode, (¬ (n ≠ 0 ∧ k ≠ 9) → AWp Try.prog ingotref14_Numbers.n rest (ARet ingotref14_Numbers.res fun r σ' => r = .bool (numOk k ks.length p i n) ∧ σ' = σ)
      (fset 1 (some (.int .i64 i)) (fset 2 (some (.int .i64 n)) (fset 3 (some (.iptr [.int .i64 k, .slc 1 (ns.map .str) false, .slc 6 (encTs ks) false, .int .i64 l, .int .i64 p, .int .i64 s])) fnone))) σ) →
      AWp Try.prog ingotref14_Numbers.n (.seq (ingotref14_Numbers.code.snd 1).fst rest) (ARet ingotref14_Numbers.res fun r σ' => r = .bool (numOk k ks.length p i n) ∧ σ' = σ)
      (fset 1 (some (.int .i64 i)) (fset 2 (some (.int .i64 n)) (fset 3 (some (.iptr [.int .i64 k, .slc 1 (ns.map .str) false, .slc 6 (encTs ks) false, .int .i64 l, .int .i64 p, .int .i64 s])) fnone))) σ := by
    intro rest hrest
    (repeat (first | refine st_q rfl rfl rfl ?_ | refine st_gy rfl (st_q rfl rfl rfl ?_) | refine st_gn rfl ?_ | refine st_gu rfl ?_ | (refine st_nil ?_; (repeat (first | refine kp_cons rfl ?_ | refine kp_skip ?_)); refine kp_nil ?_) | refine awp_seq ?_ | refine aw_end (fun _ _ => rfl) ?_ | refine awp_block ?_ | refine aw_skipE (fun _ _ => rfl) ?_ | refine aw_exitE (fun _ _ => rfl) ?_ | refine awp_cond (t := true) rfl (fun _ => ?_) (fun e => by cases e) | refine awp_cond (t := false) rfl (fun e => by cases e) (fun _ => ?_)))
    by_cases q1 : n = 0
    · (rw [show decide (n ≠ 0) = false from decide_eq_false (by omega)])
      (repeat (first | refine st_q rfl rfl rfl ?_ | refine st_gy rfl (st_q rfl rfl rfl ?_) | refine st_gn rfl ?_ | refine st_gu rfl ?_ | (refine st_nil ?_; (repeat (first | refine kp_cons rfl ?_ | refine kp_skip ?_)); refine kp_nil ?_) | refine awp_seq ?_ | refine aw_end (fun _ _ => rfl) ?_ | refine awp_block ?_ | refine aw_skipE (fun _ _ => rfl) ?_ | refine aw_exitE (fun _ _ => rfl) ?_ | refine awp_cond (t := true) rfl (fun _ => ?_) (fun e => by cases e) | refine awp_cond (t := false) rfl (fun e => by cases e) (fun _ => ?_)))
      (refine kp_weaken (keep := [1, 2, 3]) ?_; ((repeat (first | refine kp_cons rfl ?_ | refine kp_skip ?_)); refine kp_nil ?_))
      exact hrest (by omega)
    · (rw [show decide (n ≠ 0) = true from decide_eq_true (by omega)])
      (repeat (first | refine st_q rfl rfl rfl ?_ | refine st_gy rfl (st_q rfl rfl rfl ?_) | refine st_gn rfl ?_ | refine st_gu rfl ?_ | (refine st_nil ?_; (repeat (first | refine kp_cons rfl ?_ | refine kp_skip ?_)); refine kp_nil ?_) | refine awp_seq ?_ | refine aw_end (fun _ _ => rfl) ?_ | refine awp_block ?_ | refine aw_skipE (fun _ _ => rfl) ?_ | refine aw_exitE (fun _ _ => rfl) ?_ | refine awp_cond (t := true) rfl (fun _ => ?_) (fun e => by cases e) | refine awp_cond (t := false) rfl (fun e => by cases e) (fun _ => ?_)))
      by_cases q2 : k = 9
      · (rw [show decide (k ≠ 9) = false from decide_eq_false (by omega)])
        (repeat (first | refine st_q rfl rfl rfl ?_ | refine st_gy rfl (st_q rfl rfl rfl ?_) | refine st_gn rfl ?_ | refine st_gu rfl ?_ | (refine st_nil ?_; (repeat (first | refine kp_cons rfl ?_ | refine kp_skip ?_)); refine kp_nil ?_) | refine awp_seq ?_ | refine aw_end (fun _ _ => rfl) ?_ | refine awp_block ?_ | refine aw_skipE (fun _ _ => rfl) ?_ | refine aw_exitE (fun _ _ => rfl) ?_ | refine awp_cond (t := true) rfl (fun _ => ?_) (fun e => by cases e) | refine awp_cond (t := false) rfl (fun e => by cases e) (fun _ => ?_)))
        (refine kp_weaken (keep := [1, 2, 3]) ?_; ((repeat (first | refine kp_cons rfl ?_ | refine kp_skip ?_)); refine kp_nil ?_))
        exact hrest (by omega)
      · (rw [show decide (k ≠ 9) = true from decide_eq_true (by omega)])
        (repeat (first | refine st_q rfl rfl rfl ?_ | refine st_gy rfl (st_q rfl rfl rfl ?_) | refine st_gn rfl ?_ | refine st_gu rfl ?_ | (refine st_nil ?_; (repeat (first | refine kp_cons rfl ?_ | refine kp_skip ?_)); refine kp_nil ?_) | refine awp_seq ?_ | refine aw_end (fun _ _ => rfl) ?_ | refine awp_block ?_ | refine aw_skipE (fun _ _ => rfl) ?_ | refine aw_exitE (fun _ _ => rfl) ?_ | refine awp_cond (t := true) rfl (fun _ => ?_) (fun e => by cases e) | refine awp_cond (t := false) rfl (fun e => by cases e) (fun _ => ?_)))
        refine awp_ret ?_
        exact ares rfl (HSub.refl _) ⟨by simp [numOk, q1, q2, tupOf], rfl⟩
  (refine kp_weaken (keep := [1, 2, 3]) ?_; ((repeat (first | refine kp_cons rfl ?_ | refine kp_skip ?_)); refine kp_nil ?_))
  exact key _ main

theorem c_Kid (t : Ty) (i n : Int) (nu : Bool) (bs : List UInt8) (vks : List Vl) (j : Nat) (hj : j ≤ 9223372036854775807) (hi : t.kind = 13 → 0 ≤ i) (hlt : kidAt t.kind i j < t.kids.length) (σ : AHeap) :
    ACalls Try.prog f_ingotref14_Kid [encT t, encV (.mk nu i n bs vks), .int .i64 (j : Int)] σ fun r σ' => r = encT (kidT t i j) ∧ σ' = σ := by
  obtain ⟨k, ns, ks, l, p, s⟩ := t
  simp only [Ty.kind, Ty.kids] at hi hlt
  obtain ⟨t', ht'⟩ : ∃ t', ks[kidAt k i j]? = some t' := ⟨_, List.getElem?_eq_getElem hlt⟩
  have hkid : kidT (.mk k ns ks l p s) i j = t' := by simp only [kidT, Ty.kids, Ty.kind, List.getD_eq_getElem?_getD, ht', Option.getD_some]
  have hx := encTs_get ht'
  rw [hkid, encT_eq t'] at *
  simp only [encT, encV]
  refine acalls_enter rfl ingotref14_Kid_ok (Nat.le_of_ble_eq_true rfl) ?_
  refine aw_region ?_
  refine st_box rfl (AVal.fit_iff.1 rfl) fun b hb => ?_
  refine st_box rfl (AVal.fit_iff.1 rfl) fun b2 hb2 => ?_
  refine st_alloc (by simp [AVal.cells, AVal.one]) fun b3 hb3 => ?_
  (refine st_nil ?_; (repeat (first | refine kp_cons rfl ?_ | refine kp_skip ?_)); refine kp_nil ?_)
  refine awp_weaken (FSub.refl _) (τ := (b2, .cells 5 [.agg [.bool nu, .int .i64 i, .int .i64 n, .slc 1 (bytes bs) false, .slc 5 (encVs vks) false]]) :: (b, .cells 6 [.agg [.int .i64 k, .slc 1 (ns.map .str) false, .slc 6 (encTs ks) false, .int .i64 l, .int .i64 p, .int .i64 s]]) :: (b3, .cells 6 [.agg [.int .i64 0, .slc 0 [] true, .slc 0 [] true, .int .i64 0, .int .i64 0, .int .i64 0]]) :: σ)
    (HSub.of_perm (List.Perm.trans (List.Perm.cons _ (List.Perm.swap _ _ _)) (List.Perm.swap _ _ _))) ?_
  refine awp_freezeP (d := 4) (cs := [.bool nu, .int .i64 i, .int .i64 n, .slc 1 (bytes bs) false, .slc 5 (encVs vks) false]) rfl ?_
  refine awp_freezeP (d := 3) (cs := [.int .i64 k, .slc 1 (ns.map .str) false, .slc 6 (encTs ks) false, .int .i64 l, .int .i64 p, .int .i64 s]) rfl ?_
  have fin : ∀ (R : APost) (F : AFrame), F 6 = some (.ptr b3 0 0) → (∀ F τ, R .ret F τ = ARet ingotref14_Kid.res (fun r σ' => r = .agg (cellsT t') ∧ σ' = σ) .ret F τ) → AWp Try.prog ingotref14_Kid.n .ret R F ((b3, .cells 6 [.agg (cellsT t')]) :: σ) := by
    intro R F hF hR
    refine awp_freezeP (d := 6) (cs := cellsT t') hF ?_
    refine awp_ret ?_
    rw [hR]
    exact ares rfl (HSub.refl _) ⟨rfl, rfl⟩
  by_cases k10 : k = 10
  · subst k10
    (repeat (first | refine st_q rfl rfl rfl ?_ | refine st_gy rfl (st_q rfl rfl rfl ?_) | refine st_gn rfl ?_ | refine st_gu rfl ?_ | (refine st_nil ?_; (repeat (first | refine kp_cons rfl ?_ | refine kp_skip ?_)); refine kp_nil ?_) | refine awp_seq ?_ | refine aw_end (fun _ _ => rfl) ?_ | refine awp_block ?_ | refine aw_skipE (fun _ _ => rfl) ?_ | refine aw_exitE (fun _ _ => rfl) ?_ | refine awp_cond (t := true) rfl (fun _ => ?_) (fun e => by cases e) | refine awp_cond (t := false) rfl (fun e => by cases e) (fun _ => ?_)))
    refine st_iad rfl (by omega) (show (encTs ks)[(0 : Int).toNat]? = _ from hx) ?_
    (repeat (first | refine st_q rfl rfl rfl ?_ | refine st_gy rfl (st_q rfl rfl rfl ?_) | refine st_gn rfl ?_ | refine st_gu rfl ?_ | (refine st_nil ?_; (repeat (first | refine kp_cons rfl ?_ | refine kp_skip ?_)); refine kp_nil ?_) | refine awp_seq ?_ | refine aw_end (fun _ _ => rfl) ?_ | refine awp_block ?_ | refine aw_skipE (fun _ _ => rfl) ?_ | refine aw_exitE (fun _ _ => rfl) ?_ | refine awp_cond (t := true) rfl (fun _ => ?_) (fun e => by cases e) | refine awp_cond (t := false) rfl (fun e => by cases e) (fun _ => ?_)))
    refine st_store rfl hget_head rfl (by decide) (AVal.fit_iff.1 rfl) (fun h => by cases h) hset_head ?_
    (repeat (first | refine st_q rfl rfl rfl ?_ | refine st_gy rfl (st_q rfl rfl rfl ?_) | refine st_gn rfl ?_ | refine st_gu rfl ?_ | (refine st_nil ?_; (repeat (first | refine kp_cons rfl ?_ | refine kp_skip ?_)); refine kp_nil ?_) | refine awp_seq ?_ | refine aw_end (fun _ _ => rfl) ?_ | refine awp_block ?_ | refine aw_skipE (fun _ _ => rfl) ?_ | refine aw_exitE (fun _ _ => rfl) ?_ | refine awp_cond (t := true) rfl (fun _ => ?_) (fun e => by cases e) | refine awp_cond (t := false) rfl (fun e => by cases e) (fun _ => ?_)))
    exact fin _ _ rfl fun _ _ => rfl
  by_cases k11 : k = 11
  · subst k11
    (repeat (first | refine st_q rfl rfl rfl ?_ | refine st_gy rfl (st_q rfl rfl rfl ?_) | refine st_gn rfl ?_ | refine st_gu rfl ?_ | (refine st_nil ?_; (repeat (first | refine kp_cons rfl ?_ | refine kp_skip ?_)); refine kp_nil ?_) | refine awp_seq ?_ | refine aw_end (fun _ _ => rfl) ?_ | refine awp_block ?_ | refine aw_skipE (fun _ _ => rfl) ?_ | refine aw_exitE (fun _ _ => rfl) ?_ | refine awp_cond (t := true) rfl (fun _ => ?_) (fun e => by cases e) | refine awp_cond (t := false) rfl (fun e => by cases e) (fun _ => ?_)))
    have e : (j : Int).tmod 2 = ((j % 2 : Nat) : Int) := by rw [Int.tmod_eq_emod_of_nonneg (by omega)]; omega
    rw [e]
    refine st_iad rfl (by omega) (show (encTs ks)[((j % 2 : Nat) : Int).toNat]? = _ by rw [Int.toNat_natCast]; exact hx) ?_
    (repeat (first | refine st_q rfl rfl rfl ?_ | refine st_gy rfl (st_q rfl rfl rfl ?_) | refine st_gn rfl ?_ | refine st_gu rfl ?_ | (refine st_nil ?_; (repeat (first | refine kp_cons rfl ?_ | refine kp_skip ?_)); refine kp_nil ?_) | refine awp_seq ?_ | refine aw_end (fun _ _ => rfl) ?_ | refine awp_block ?_ | refine aw_skipE (fun _ _ => rfl) ?_ | refine aw_exitE (fun _ _ => rfl) ?_ | refine awp_cond (t := true) rfl (fun _ => ?_) (fun e => by cases e) | refine awp_cond (t := false) rfl (fun e => by cases e) (fun _ => ?_)))
    refine st_store rfl hget_head rfl (by decide) (AVal.fit_iff.1 rfl) (fun h => by cases h) hset_head ?_
    (repeat (first | refine st_q rfl rfl rfl ?_ | refine st_gy rfl (st_q rfl rfl rfl ?_) | refine st_gn rfl ?_ | refine st_gu rfl ?_ | (refine st_nil ?_; (repeat (first | refine kp_cons rfl ?_ | refine kp_skip ?_)); refine kp_nil ?_) | refine awp_seq ?_ | refine aw_end (fun _ _ => rfl) ?_ | refine awp_block ?_ | refine aw_skipE (fun _ _ => rfl) ?_ | refine aw_exitE (fun _ _ => rfl) ?_ | refine awp_cond (t := true) rfl (fun _ => ?_) (fun e => by cases e) | refine awp_cond (t := false) rfl (fun e => by cases e) (fun _ => ?_)))
    exact fin _ _ rfl fun _ _ => rfl
  by_cases k13 : k = 13
  · subst k13
    have h0 := hi rfl
    (repeat (first | refine st_q rfl rfl rfl ?_ | refine st_gy rfl (st_q rfl rfl rfl ?_) | refine st_gn rfl ?_ | refine st_gu rfl ?_ | (refine st_nil ?_; (repeat (first | refine kp_cons rfl ?_ | refine kp_skip ?_)); refine kp_nil ?_) | refine awp_seq ?_ | refine aw_end (fun _ _ => rfl) ?_ | refine awp_block ?_ | refine aw_skipE (fun _ _ => rfl) ?_ | refine aw_exitE (fun _ _ => rfl) ?_ | refine awp_cond (t := true) rfl (fun _ => ?_) (fun e => by cases e) | refine awp_cond (t := false) rfl (fun e => by cases e) (fun _ => ?_)))
    refine st_iad rfl h0 (show (encTs ks)[i.toNat]? = _ from hx) ?_
    (repeat (first | refine st_q rfl rfl rfl ?_ | refine st_gy rfl (st_q rfl rfl rfl ?_) | refine st_gn rfl ?_ | refine st_gu rfl ?_ | (refine st_nil ?_; (repeat (first | refine kp_cons rfl ?_ | refine kp_skip ?_)); refine kp_nil ?_) | refine awp_seq ?_ | refine aw_end (fun _ _ => rfl) ?_ | refine awp_block ?_ | refine aw_skipE (fun _ _ => rfl) ?_ | refine aw_exitE (fun _ _ => rfl) ?_ | refine awp_cond (t := true) rfl (fun _ => ?_) (fun e => by cases e) | refine awp_cond (t := false) rfl (fun e => by cases e) (fun _ => ?_)))
    refine st_store rfl hget_head rfl (by decide) (AVal.fit_iff.1 rfl) (fun h => by cases h) hset_head ?_
    (repeat (first | refine st_q rfl rfl rfl ?_ | refine st_gy rfl (st_q rfl rfl rfl ?_) | refine st_gn rfl ?_ | refine st_gu rfl ?_ | (refine st_nil ?_; (repeat (first | refine kp_cons rfl ?_ | refine kp_skip ?_)); refine kp_nil ?_) | refine awp_seq ?_ | refine aw_end (fun _ _ => rfl) ?_ | refine awp_block ?_ | refine aw_skipE (fun _ _ => rfl) ?_ | refine aw_exitE (fun _ _ => rfl) ?_ | refine awp_cond (t := true) rfl (fun _ => ?_) (fun e => by cases e) | refine awp_cond (t := false) rfl (fun e => by cases e) (fun _ => ?_)))
    exact fin _ _ rfl fun _ _ => rfl
  have hx' : (encTs ks)[(j : Int).toNat]? = some (.agg (cellsT t')) := by
    rw [Int.toNat_natCast, ← hx, kidAt, if_neg k10, if_neg k11, if_neg k13]
  (repeat (first | refine st_q rfl rfl rfl ?_ | refine st_gy rfl (st_q rfl rfl rfl ?_) | refine st_gn rfl ?_ | refine st_gu rfl ?_ | (refine st_nil ?_; (repeat (first | refine kp_cons rfl ?_ | refine kp_skip ?_)); refine kp_nil ?_) | refine awp_seq ?_ | refine aw_end (fun _ _ => rfl) ?_ | refine awp_block ?_ | refine aw_skipE (fun _ _ => rfl) ?_ | refine aw_exitE (fun _ _ => rfl) ?_ | refine awp_cond (t := true) rfl (fun _ => ?_) (fun e => by cases e) | refine awp_cond (t := false) rfl (fun e => by cases e) (fun _ => ?_)))
  (rw [show decide (k = 10) = false from decide_eq_false (by omega)])
  (repeat (first | refine st_q rfl rfl rfl ?_ | refine st_gy rfl (st_q rfl rfl rfl ?_) | refine st_gn rfl ?_ | refine st_gu rfl ?_ | (refine st_nil ?_; (repeat (first | refine kp_cons rfl ?_ | refine kp_skip ?_)); refine kp_nil ?_) | refine awp_seq ?_ | refine aw_end (fun _ _ => rfl) ?_ | refine awp_block ?_ | refine aw_skipE (fun _ _ => rfl) ?_ | refine aw_exitE (fun _ _ => rfl) ?_ | refine awp_cond (t := true) rfl (fun _ => ?_) (fun e => by cases e) | refine awp_cond (t := false) rfl (fun e => by cases e) (fun _ => ?_)))
  (rw [show decide (k = 11) = false from decide_eq_false (by omega)])
  (repeat (first | refine st_q rfl rfl rfl ?_ | refine st_gy rfl (st_q rfl rfl rfl ?_) | refine st_gn rfl ?_ | refine st_gu rfl ?_ | (refine st_nil ?_; (repeat (first | refine kp_cons rfl ?_ | refine kp_skip ?_)); refine kp_nil ?_) | refine awp_seq ?_ | refine aw_end (fun _ _ => rfl) ?_ | refine awp_block ?_ | refine aw_skipE (fun _ _ => rfl) ?_ | refine aw_exitE (fun _ _ => rfl) ?_ | refine awp_cond (t := true) rfl (fun _ => ?_) (fun e => by cases e) | refine awp_cond (t := false) rfl (fun e => by cases e) (fun _ => ?_)))
  (rw [show decide (k = 13) = false from decide_eq_false (by omega)])
  (repeat (first | refine st_q rfl rfl rfl ?_ | refine st_gy rfl (st_q rfl rfl rfl ?_) | refine st_gn rfl ?_ | refine st_gu rfl ?_ | (refine st_nil ?_; (repeat (first | refine kp_cons rfl ?_ | refine kp_skip ?_)); refine kp_nil ?_) | refine awp_seq ?_ | refine aw_end (fun _ _ => rfl) ?_ | refine awp_block ?_ | refine aw_skipE (fun _ _ => rfl) ?_ | refine aw_exitE (fun _ _ => rfl) ?_ | refine awp_cond (t := true) rfl (fun _ => ?_) (fun e => by cases e) | refine awp_cond (t := false) rfl (fun e => by cases e) (fun _ => ?_)))
  refine st_iad rfl (by omega) hx' ?_
  (repeat (first | refine st_q rfl rfl rfl ?_ | refine st_gy rfl (st_q rfl rfl rfl ?_) | refine st_gn rfl ?_ | refine st_gu rfl ?_ | (refine st_nil ?_; (repeat (first | refine kp_cons rfl ?_ | refine kp_skip ?_)); refine kp_nil ?_) | refine awp_seq ?_ | refine aw_end (fun _ _ => rfl) ?_ | refine awp_block ?_ | refine aw_skipE (fun _ _ => rfl) ?_ | refine aw_exitE (fun _ _ => rfl) ?_ | refine awp_cond (t := true) rfl (fun _ => ?_) (fun e => by cases e) | refine awp_cond (t := false) rfl (fun e => by cases e) (fun _ => ?_)))
  refine st_store rfl hget_head rfl (by decide) (AVal.fit_iff.1 rfl) (fun h => by cases h) hset_head ?_
  (repeat (first | refine st_q rfl rfl rfl ?_ | refine st_gy rfl (st_q rfl rfl rfl ?_) | refine st_gn rfl ?_ | refine st_gu rfl ?_ | (refine st_nil ?_; (repeat (first | refine kp_cons rfl ?_ | refine kp_skip ?_)); refine kp_nil ?_) | refine awp_seq ?_ | refine aw_end (fun _ _ => rfl) ?_ | refine awp_block ?_ | refine aw_skipE (fun _ _ => rfl) ?_ | refine aw_exitE (fun _ _ => rfl) ?_ | refine awp_cond (t := true) rfl (fun _ => ?_) (fun e => by cases e) | refine awp_cond (t := false) rfl (fun e => by cases e) (fun _ => ?_)))
  exact fin _ _ rfl fun _ _ => rfl
end Go.Abs

/- Contracts: which values may be (the reference's). -/
namespace Go.Abs
open Go Go.Proofs
set_option linter.unusedVariables false
set_option linter.unusedSimpArgs false
set_option maxHeartbeats 4000000

/-- Trees that may be, each type by itself. -/
inductive Ty.Ok : Ty → Prop
  | mk {t : Ty} (h1 : ownF t.kind t.names t.kids.length t.len t.prec t.scale = 0) (h : ∀ k ∈ t.kids, Ty.Ok k) : Ty.Ok t
/-- Values that memory can hold. -/
inductive Vl.Fit : Vl → Prop
  | mk {v : Vl} (h1 : -9223372036854775808 ≤ v.i ∧ v.i ≤ 9223372036854775807) (h2 : v.b.length ≤ 9223372036854775807) (h3 : v.kids.length ≤ 9223372036854775807) (h : ∀ k ∈ v.kids, Vl.Fit k) : Vl.Fit v

theorem chk_Ok : ∀ (t : Ty) (deep n : Nat), (chk deep n t).2 = 0 → t.Ok := by
  refine Ty.ind fun k ns ks l p s ih deep n h => ?_
  have hL : ∀ (ks : List Ty), (∀ t ∈ ks, ∀ (deep n : Nat), (chk deep n t).2 = 0 → t.Ok) → ∀ deep n, (chkL deep n ks).2 = 0 → ∀ t ∈ ks, t.Ok := by
    intro ks
    induction ks with
    | nil => intro _ deep n h t ht; cases ht
    | cons t ts ih2 =>
      intro ht deep n h u hu
      rw [chkL] at h
      split at h
      · rename_i hne; exact absurd h hne
      · rename_i hne
        rcases List.mem_cons.1 hu with rfl | hu
        · exact ht u (by simp) deep n (by simpa using hne)
        · exact ih2 (fun t ht' => ht t (by simp [ht'])) deep _ h u hu
  rw [chk] at h
  split at h
  · simp at h
  · split at h
    · rename_i ho; exact absurd h ho
    · rename_i ho
      refine .mk ?_ (hL ks ih (deep + 1) (n + 1) h)
      show ownF k ns ks.length l p s = 0
      simpa using ho

theorem Ty.Ok.kinds {t : Ty} (h : t.Ok) : kidsOk t.kind t.names.length t.kids.length = true ∧ 0 ≤ t.kind ∧ t.kind ≤ 17 := by
  cases h with
  | mk h1 _ =>
    rw [ownF] at h1
    split at h1
    · cases h1
    · split at h1
      · cases h1
      · rename_i hr
        simp only [not_or, Bool.not_eq_false] at hr
        have := hr.2.2
        simp only [rightF, Bool.and_eq_true] at this
        exact ⟨this.1.1.1.1, by omega, by omega⟩

/-- A value's kids have types. -/
theorem kidAt_lt {t : Ty} (h : t.Ok) {i n : Int} {b : List UInt8} {ks j : Nat} (ho : ownV t i n b ks = 0) (hj : j < ks) : kidAt t.kind i j < t.kids.length ∧ (t.kind = 13 → 0 ≤ i) := by
  obtain ⟨h1, h2, h3⟩ := h.kinds
  simp only [ownV] at ho
  split at ho
  · cases ho
  rename_i hA
  simp only [not_or, not_and, Bool.not_eq_false, Bool.not_eq_true] at hA
  obtain ⟨a1, _, a3⟩ := hA
  have hleaf := a3 (by omega)
  simp only [leafF, Bool.not_eq_false', Bool.or_eq_true, decide_eq_true_eq] at hleaf
  split at ho
  · cases ho
  simp only [kidsOk] at h1
  simp only [kidAt]
  by_cases k10 : t.kind = 10
  · rw [if_pos k10] at h1 ⊢
    simp at h1
    exact ⟨by omega, by omega⟩
  rw [if_neg k10] at h1 ⊢
  by_cases k11 : t.kind = 11
  · rw [if_pos k11] at h1 ⊢
    simp at h1
    exact ⟨by omega, by omega⟩
  rw [if_neg k11] at h1 ⊢
  by_cases k13 : t.kind = 13
  · rw [if_pos k13]
    have : decide (0 ≤ i ∧ i < (t.kids.length : Int)) = true := by
      rw [numOk] at a1
      split at a1
      · cases a1
      · simpa [k13] using a1
    simp at this
    exact ⟨by omega, fun _ => this.1⟩
  rw [if_neg k13]
  have k12 : t.kind = 12 := by omega
  rw [if_neg k10, if_neg k11, if_pos k12] at ho
  split at ho
  · cases ho
  · exact ⟨by omega, fun h => absurd h k13⟩

theorem kidT_ok {t : Ty} (h : t.Ok) {i : Int} {j : Nat} (hlt : kidAt t.kind i j < t.kids.length) : (kidT t i j).Ok := by
  cases h with
  | mk _ hk =>
    refine hk _ ?_
    rw [kidT, List.getD_eq_getElem?_getD, List.getElem?_eq_getElem hlt]
    exact List.getElem_mem hlt

theorem vchkL_drop (t : Ty) (i : Int) : ∀ (ks : List Vl) (j : Nat) (v : Vl), ks[j]? = some v → vchkL t i j (ks.drop j) = if t.kind = 11 ∧ j % 2 = 0 ∧ v.null = true then 1 else if vchk (kidT t i j) v ≠ 0 then vchk (kidT t i j) v else vchkL t i (j + 1) (ks.drop (j + 1)) := by
  intro ks j v h
  obtain ⟨hj, rfl⟩ := List.getElem?_eq_some_iff.1 h
  rw [List.drop_eq_getElem_cons hj, vchkL]

theorem vchk_le : ∀ (v : Vl) (t : Ty), vchk t v ≤ 4 := by
  refine Vl.ind fun nu i n b ks ih t => ?_
  have hL : ∀ (ks : List Vl), (∀ v ∈ ks, ∀ t : Ty, vchk t v ≤ 4) → ∀ j, vchkL t i j ks ≤ 4 := by
    intro ks
    induction ks with
    | nil => intro _ j; simp [vchkL]
    | cons v vs ih2 =>
      intro h j
      rw [vchkL]
      split
      · omega
      · split
        · exact h v (by simp) _
        · exact ih2 (fun v hv => h v (by simp [hv])) _
  rw [vchk]
  split
  · split <;> omega
  · split
    · simp only [ownV]; (repeat' split) <;> omega
    · exact hL ks ih 0

attribute [local irreducible] AWp aops

theorem c_VCheck : ∀ (v : Vl), v.Fit → ∀ (t : Ty), t.Ok → ∀ σ, ACalls Try.prog f_ingotref14_Check [encT t, encV v] σ fun r σ' => r = .int .i64 (vchk t v : Int) ∧ σ' = σ := by
  refine Vl.ind fun nu i n bs vks ih hfit t hok σ => ?_
  cases hfit with
  | mk hi hbl hkl hkids =>
  have hka := fun (j : Nat) (hj : j < vks.length) (ho : ownV t i n bs vks.length = 0) => kidAt_lt hok ho hj
  have hko := fun (j : Nat) (hlt : kidAt t.kind i j < t.kids.length) => kidT_ok (i := i) (j := j) hok hlt
  have hnum := c_Numbers t i n hi.1 hi.2
  have hkid := fun (j : Nat) (hj : j ≤ 9223372036854775807) => c_Kid t i n nu bs vks j hj
  obtain ⟨k, ns, ks, l, p, s⟩ := t
  simp only [encT, encV, Ty.kind, Ty.kids, Ty.prec, Vl.i, Vl.b, Vl.kids] at *
  refine acalls_enter rfl ingotref14_Check_ok (Nat.le_of_ble_eq_true rfl) ?_
  refine aw_region ?_
  refine st_box rfl (AVal.fit_iff.1 rfl) fun b1 hb1 => ?_
  refine st_box rfl (AVal.fit_iff.1 rfl) fun b2 hb2 => ?_
  (repeat (refine st_q rfl rfl rfl ?_))
  (refine st_nil ?_; (repeat (first | refine kp_cons rfl ?_ | refine kp_skip ?_)); refine kp_nil ?_)
  refine awp_freezeP (d := 3) (cs := [.bool nu, .int .i64 i, .int .i64 n, .slc 1 (bytes bs) false, .slc 5 (encVs vks) false]) rfl ?_
  refine awp_freezeP (d := 2) (cs := [.int .i64 k, .slc 1 (ns.map .str) false, .slc 6 (encTs ks) false, .int .i64 l, .int .i64 p, .int .i64 s]) rfl ?_
  (refine kp_weaken (keep := [2, 3]) ?_; ((repeat (first | refine kp_cons rfl ?_ | refine kp_skip ?_)); refine kp_nil ?_))
  generalize hX : vchk (.mk k ns ks l p s) (.mk nu i n bs vks) = X
  have hX' := hX
  rw [vchk] at hX'
  have ret : ∀ (x : Nat) (R : APost) (F : AFrame), F 4 = some (.int .i64 (x : Int)) → X = x → (∀ F τ, R .ret F τ = ARet ingotref14_Check.res (fun r σ' => r = .int .i64 (X : Int) ∧ σ' = σ) .ret F τ) → AWp Try.prog ingotref14_Check.n .ret R F σ := by
    intro x R F hF hx hR
    refine awp_ret ?_
    rw [hR]
    exact ares (vs := [.int .i64 (x : Int)]) (by simp [resVals, resVal, ingotref14_Check, hF]) (HSub.refl _) ⟨by rw [hx]; rfl, rfl⟩
  cases nu with
  | true =>
    rw [if_pos rfl] at hX'
    (repeat (first | refine st_q rfl rfl rfl ?_ | refine st_gy rfl (st_q rfl rfl rfl ?_) | refine st_gn rfl ?_ | refine st_gu rfl ?_ | (refine st_nil ?_; (repeat (first | refine kp_cons rfl ?_ | refine kp_skip ?_)); refine kp_nil ?_) | refine awp_seq ?_ | refine aw_end (fun _ _ => rfl) ?_ | refine awp_block ?_ | refine aw_skipE (fun _ _ => rfl) ?_ | refine aw_exitE (fun _ _ => rfl) ?_ | refine awp_cond (t := true) rfl (fun _ => ?_) (fun e => by cases e) | refine awp_cond (t := false) rfl (fun e => by cases e) (fun _ => ?_)))
    by_cases q1 : i = 0
    · (rw [show decide (i ≠ 0) = false from decide_eq_false (by omega)])
      (repeat (first | refine st_q rfl rfl rfl ?_ | refine st_gy rfl (st_q rfl rfl rfl ?_) | refine st_gn rfl ?_ | refine st_gu rfl ?_ | (refine st_nil ?_; (repeat (first | refine kp_cons rfl ?_ | refine kp_skip ?_)); refine kp_nil ?_) | refine awp_seq ?_ | refine aw_end (fun _ _ => rfl) ?_ | refine awp_block ?_ | refine aw_skipE (fun _ _ => rfl) ?_ | refine aw_exitE (fun _ _ => rfl) ?_ | refine awp_cond (t := true) rfl (fun _ => ?_) (fun e => by cases e) | refine awp_cond (t := false) rfl (fun e => by cases e) (fun _ => ?_)))
      by_cases q2 : n = 0
      · (rw [show decide (n ≠ 0) = false from decide_eq_false (by omega)])
        (repeat (first | refine st_q rfl rfl rfl ?_ | refine st_gy rfl (st_q rfl rfl rfl ?_) | refine st_gn rfl ?_ | refine st_gu rfl ?_ | (refine st_nil ?_; (repeat (first | refine kp_cons rfl ?_ | refine kp_skip ?_)); refine kp_nil ?_) | refine awp_seq ?_ | refine aw_end (fun _ _ => rfl) ?_ | refine awp_block ?_ | refine aw_skipE (fun _ _ => rfl) ?_ | refine aw_exitE (fun _ _ => rfl) ?_ | refine awp_cond (t := true) rfl (fun _ => ?_) (fun e => by cases e) | refine awp_cond (t := false) rfl (fun e => by cases e) (fun _ => ?_)))
        rw [bytes_length]
        by_cases q3 : bs = []
        · rw [show decide ((0 : Int) < ((bs.length : Nat) : Int)) = false from decide_eq_false (by rw [q3]; simp)]
          (repeat (first | refine st_q rfl rfl rfl ?_ | refine st_gy rfl (st_q rfl rfl rfl ?_) | refine st_gn rfl ?_ | refine st_gu rfl ?_ | (refine st_nil ?_; (repeat (first | refine kp_cons rfl ?_ | refine kp_skip ?_)); refine kp_nil ?_) | refine awp_seq ?_ | refine aw_end (fun _ _ => rfl) ?_ | refine awp_block ?_ | refine aw_skipE (fun _ _ => rfl) ?_ | refine aw_exitE (fun _ _ => rfl) ?_ | refine awp_cond (t := true) rfl (fun _ => ?_) (fun e => by cases e) | refine awp_cond (t := false) rfl (fun e => by cases e) (fun _ => ?_)))
          rw [encVs_length]
          by_cases q4 : vks.length = 0
          · (rw [show decide ((0 : Int) < ((vks.length : Nat) : Int)) = false from decide_eq_false (by omega)])
            (repeat (first | refine st_q rfl rfl rfl ?_ | refine st_gy rfl (st_q rfl rfl rfl ?_) | refine st_gn rfl ?_ | refine st_gu rfl ?_ | (refine st_nil ?_; (repeat (first | refine kp_cons rfl ?_ | refine kp_skip ?_)); refine kp_nil ?_) | refine awp_seq ?_ | refine aw_end (fun _ _ => rfl) ?_ | refine awp_block ?_ | refine aw_skipE (fun _ _ => rfl) ?_ | refine aw_exitE (fun _ _ => rfl) ?_ | refine awp_cond (t := true) rfl (fun _ => ?_) (fun e => by cases e) | refine awp_cond (t := false) rfl (fun e => by cases e) (fun _ => ?_)))
            exact ret 0 _ _ rfl (by rw [← hX']; simp [q1, q2, q3, q4]) fun _ _ => rfl
          · (rw [show decide ((0 : Int) < ((vks.length : Nat) : Int)) = true from decide_eq_true (by omega)])
            (repeat (first | refine st_q rfl rfl rfl ?_ | refine st_gy rfl (st_q rfl rfl rfl ?_) | refine st_gn rfl ?_ | refine st_gu rfl ?_ | (refine st_nil ?_; (repeat (first | refine kp_cons rfl ?_ | refine kp_skip ?_)); refine kp_nil ?_) | refine awp_seq ?_ | refine aw_end (fun _ _ => rfl) ?_ | refine awp_block ?_ | refine aw_skipE (fun _ _ => rfl) ?_ | refine aw_exitE (fun _ _ => rfl) ?_ | refine awp_cond (t := true) rfl (fun _ => ?_) (fun e => by cases e) | refine awp_cond (t := false) rfl (fun e => by cases e) (fun _ => ?_)))
            exact ret 1 _ _ rfl (by rw [← hX']; simp [q4]) fun _ _ => rfl
        · have := List.length_pos_iff.2 q3
          (rw [show decide ((0 : Int) < ((bs.length : Nat) : Int)) = true from decide_eq_true (by omega)])
          (repeat (first | refine st_q rfl rfl rfl ?_ | refine st_gy rfl (st_q rfl rfl rfl ?_) | refine st_gn rfl ?_ | refine st_gu rfl ?_ | (refine st_nil ?_; (repeat (first | refine kp_cons rfl ?_ | refine kp_skip ?_)); refine kp_nil ?_) | refine awp_seq ?_ | refine aw_end (fun _ _ => rfl) ?_ | refine awp_block ?_ | refine aw_skipE (fun _ _ => rfl) ?_ | refine aw_exitE (fun _ _ => rfl) ?_ | refine awp_cond (t := true) rfl (fun _ => ?_) (fun e => by cases e) | refine awp_cond (t := false) rfl (fun e => by cases e) (fun _ => ?_)))
          exact ret 1 _ _ rfl (by rw [← hX']; simp [q3]) fun _ _ => rfl
      · (rw [show decide (n ≠ 0) = true from decide_eq_true (by omega)])
        (repeat (first | refine st_q rfl rfl rfl ?_ | refine st_gy rfl (st_q rfl rfl rfl ?_) | refine st_gn rfl ?_ | refine st_gu rfl ?_ | (refine st_nil ?_; (repeat (first | refine kp_cons rfl ?_ | refine kp_skip ?_)); refine kp_nil ?_) | refine awp_seq ?_ | refine aw_end (fun _ _ => rfl) ?_ | refine awp_block ?_ | refine aw_skipE (fun _ _ => rfl) ?_ | refine aw_exitE (fun _ _ => rfl) ?_ | refine awp_cond (t := true) rfl (fun _ => ?_) (fun e => by cases e) | refine awp_cond (t := false) rfl (fun e => by cases e) (fun _ => ?_)))
        exact ret 1 _ _ rfl (by rw [← hX']; simp [q2]) fun _ _ => rfl
    · (rw [show decide (i ≠ 0) = true from decide_eq_true (by omega)])
      (repeat (first | refine st_q rfl rfl rfl ?_ | refine st_gy rfl (st_q rfl rfl rfl ?_) | refine st_gn rfl ?_ | refine st_gu rfl ?_ | (refine st_nil ?_; (repeat (first | refine kp_cons rfl ?_ | refine kp_skip ?_)); refine kp_nil ?_) | refine awp_seq ?_ | refine aw_end (fun _ _ => rfl) ?_ | refine awp_block ?_ | refine aw_skipE (fun _ _ => rfl) ?_ | refine aw_exitE (fun _ _ => rfl) ?_ | refine awp_cond (t := true) rfl (fun _ => ?_) (fun e => by cases e) | refine awp_cond (t := false) rfl (fun e => by cases e) (fun _ => ?_)))
      exact ret 1 _ _ rfl (by rw [← hX']; simp [q1]) fun _ _ => rfl
  | false =>
    rw [if_neg (by simp)] at hX'
    have bad : ∀ x : Nat, x ≠ 0 → ownV (.mk k ns ks l p s) i n bs vks.length = x → X = x := fun x hx h => by rw [← hX', h, if_pos hx]
    have hO : ownV (.mk k ns ks l p s) i n bs vks.length = (if numOk k ks.length p i n = false ∨ (bs ≠ [] ∧ textF k = false) ∨ (vks.length ≠ 0 ∧ leafF k = true) then 1
      else if 4096 < bs.length ∨ ((k = 16 ∨ k = 17) ∧ l < (signs bs : Int)) then 4
      else if k = 10 then (if 16384 < vks.length then 4 else 0)
      else if k = 11 then (if vks.length % 2 ≠ 0 then 1 else if 32768 < vks.length then 4 else 0)
      else if k = 12 then (if vks.length ≠ ks.length then 1 else 0)
      else if k = 13 then (if vks.length ≠ 1 then 1 else 0)
      else 0) := rfl
    refine awp_seq ?_
    refine awp_seq ?_
    refine aw_end (fun _ _ => rfl) ?_
    (repeat (refine st_q rfl rfl rfl ?_))
    (refine st_nil ?_; (repeat (first | refine kp_cons rfl ?_ | refine kp_skip ?_)); refine kp_nil ?_)
    refine awp_cond (t := false) rfl (fun e => by cases e) (fun _ => ?_)
    refine aw_skipE (fun _ _ => rfl) ?_
    refine awp_seq ?_
    refine awp_seq ?_
    refine aw_cut (fun F' σ' => σ' = σ ∧ ∃ d : Bool, (d = true ↔ (numOk k ks.length p i n = false ∨ (bs ≠ [] ∧ textF k = false) ∨ (vks.length ≠ 0 ∧ leafF k = true))) ∧
      KP [2, 3, 59] F' fun G => G = fset 2 (some (.iptr [.int .i64 k, .slc 1 (ns.map .str) false, .slc 6 (encTs ks) false, .int .i64 l, .int .i64 p, .int .i64 s])) (fset 3 (some (.iptr [.bool false, .int .i64 i, .int .i64 n, .slc 1 (bytes bs) false, .slc 5 (encVs vks) false])) (fset 59 (some (.bool d)) fnone))) ?_ ?_
    · (repeat (first | refine st_q rfl rfl rfl ?_ | refine st_gy rfl (st_q rfl rfl rfl ?_) | refine st_gn rfl ?_ | refine st_gu rfl ?_))
      refine st_callv rfl (hnum _) ?_
      cases hN : numOk k ks.length p i n with
      | false =>
        (repeat (first | refine st_q rfl rfl rfl ?_ | refine st_gy rfl (st_q rfl rfl rfl ?_) | refine st_gn rfl ?_ | refine st_gu rfl ?_))
        refine st_nil ⟨rfl, true, by simp, ?_⟩
        ((repeat (first | refine kp_cons rfl ?_ | refine kp_skip ?_)); refine kp_nil ?_)
        rfl
      | true =>
        (repeat (first | refine st_q rfl rfl rfl ?_ | refine st_gy rfl (st_q rfl rfl rfl ?_) | refine st_gn rfl ?_ | refine st_gu rfl ?_))
        rw [bytes_length]
        have t3 : ∀ d : Bool, (d = true ↔ (vks.length ≠ 0 ∧ leafF k = true)) → (bs = [] ∨ textF k = true) → (d = true ↔ (true = false ∨ (bs ≠ [] ∧ textF k = false) ∨ (vks.length ≠ 0 ∧ leafF k = true))) := by
          intro d hd hb
          rw [hd]
          constructor
          · exact fun h => .inr (.inr h)
          · rintro (h | h | h)
            · cases h
            · rcases hb with hb | hb
              · exact absurd hb h.1
              · rw [hb] at h; simp at h
            · exact h
        by_cases q3 : bs = []
        · rw [show decide ((0 : Int) < ((bs.length : Nat) : Int)) = false from decide_eq_false (by rw [q3]; simp)]
          (repeat (first | refine st_q rfl rfl rfl ?_ | refine st_gy rfl (st_q rfl rfl rfl ?_) | refine st_gn rfl ?_ | refine st_gu rfl ?_))
          rw [encVs_length]
          by_cases q4 : vks.length = 0
          · (rw [show decide ((0 : Int) < ((vks.length : Nat) : Int)) = false from decide_eq_false (by omega)])
            (repeat (first | refine st_q rfl rfl rfl ?_ | refine st_gy rfl (st_q rfl rfl rfl ?_) | refine st_gn rfl ?_ | refine st_gu rfl ?_))
            refine st_nil ⟨rfl, false, t3 _ (by simp [q4]) (.inl q3), ?_⟩
            ((repeat (first | refine kp_cons rfl ?_ | refine kp_skip ?_)); refine kp_nil ?_)
            rfl
          · (rw [show decide ((0 : Int) < ((vks.length : Nat) : Int)) = true from decide_eq_true (by omega)])
            (repeat (first | refine st_q rfl rfl rfl ?_ | refine st_gy rfl (st_q rfl rfl rfl ?_) | refine st_gn rfl ?_ | refine st_gu rfl ?_))
            refine st_gy rfl (st_callv rfl (c_refLeaf k _) ?_)
            (repeat (first | refine st_q rfl rfl rfl ?_ | refine st_gy rfl (st_q rfl rfl rfl ?_) | refine st_gn rfl ?_ | refine st_gu rfl ?_))
            refine st_nil ⟨rfl, leafF k, t3 _ (by simp [q4]) (.inl q3), ?_⟩
            ((repeat (first | refine kp_cons rfl ?_ | refine kp_skip ?_)); refine kp_nil ?_)
            rfl
        · have hbp := List.length_pos_iff.2 q3
          (rw [show decide ((0 : Int) < ((bs.length : Nat) : Int)) = true from decide_eq_true (by omega)])
          (repeat (first | refine st_q rfl rfl rfl ?_ | refine st_gy rfl (st_q rfl rfl rfl ?_) | refine st_gn rfl ?_ | refine st_gu rfl ?_))
          refine st_gy rfl (st_callv rfl (c_Texts k _) ?_)
          cases hT : textF k with
          | false =>
            (repeat (first | refine st_q rfl rfl rfl ?_ | refine st_gy rfl (st_q rfl rfl rfl ?_) | refine st_gn rfl ?_ | refine st_gu rfl ?_))
            refine st_nil ⟨rfl, true, by simp [q3], ?_⟩
            ((repeat (first | refine kp_cons rfl ?_ | refine kp_skip ?_)); refine kp_nil ?_)
            rfl
          | true =>
            rw [hT] at t3
            (repeat (first | refine st_q rfl rfl rfl ?_ | refine st_gy rfl (st_q rfl rfl rfl ?_) | refine st_gn rfl ?_ | refine st_gu rfl ?_))
            rw [encVs_length]
            by_cases q4 : vks.length = 0
            · (rw [show decide ((0 : Int) < ((vks.length : Nat) : Int)) = false from decide_eq_false (by omega)])
              (repeat (first | refine st_q rfl rfl rfl ?_ | refine st_gy rfl (st_q rfl rfl rfl ?_) | refine st_gn rfl ?_ | refine st_gu rfl ?_))
              refine st_nil ⟨rfl, false, t3 _ (by simp [q4]) (.inr rfl), ?_⟩
              ((repeat (first | refine kp_cons rfl ?_ | refine kp_skip ?_)); refine kp_nil ?_)
              rfl
            · (rw [show decide ((0 : Int) < ((vks.length : Nat) : Int)) = true from decide_eq_true (by omega)])
              (repeat (first | refine st_q rfl rfl rfl ?_ | refine st_gy rfl (st_q rfl rfl rfl ?_) | refine st_gn rfl ?_ | refine st_gu rfl ?_))
              refine st_gy rfl (st_callv rfl (c_refLeaf k _) ?_)
              (repeat (first | refine st_q rfl rfl rfl ?_ | refine st_gy rfl (st_q rfl rfl rfl ?_) | refine st_gn rfl ?_ | refine st_gu rfl ?_))
              refine st_nil ⟨rfl, leafF k, t3 _ (by simp [q4]) (.inr rfl), ?_⟩
              ((repeat (first | refine kp_cons rfl ?_ | refine kp_skip ?_)); refine kp_nil ?_)
              rfl
    rintro F' σ1 ⟨rfl, d, hd, G, hG, rfl⟩
    refine kp_weaken (keep := [2, 3, 59]) ⟨_, hG, ?_⟩
    cases d with
    | true =>
      (repeat (first | refine st_q rfl rfl rfl ?_ | refine st_gy rfl (st_q rfl rfl rfl ?_) | refine st_gn rfl ?_ | refine st_gu rfl ?_ | (refine st_nil ?_; (repeat (first | refine kp_cons rfl ?_ | refine kp_skip ?_)); refine kp_nil ?_) | refine awp_seq ?_ | refine aw_end (fun _ _ => rfl) ?_ | refine awp_block ?_ | refine aw_skipE (fun _ _ => rfl) ?_ | refine aw_exitE (fun _ _ => rfl) ?_ | refine awp_cond (t := true) rfl (fun _ => ?_) (fun e => by cases e) | refine awp_cond (t := false) rfl (fun e => by cases e) (fun _ => ?_)))
      exact ret 1 _ _ rfl (bad 1 (by decide) (by rw [hO, if_pos (hd.1 rfl)])) fun _ _ => rfl
    | false =>
      have hA : ¬ (numOk k ks.length p i n = false ∨ (bs ≠ [] ∧ textF k = false) ∨ (vks.length ≠ 0 ∧ leafF k = true)) := fun h => by have := hd.2 h; cases this
      rw [if_neg hA] at hO
      refine awp_cond (t := false) rfl (fun e => by cases e) (fun _ => ?_)
      refine aw_skipE (fun _ _ => rfl) ?_
      refine awp_seq ?_
      refine awp_seq ?_
      refine aw_cut (fun F' σ' => σ' = σ1 ∧ ∃ d : Bool, (d = true ↔ (4096 < bs.length ∨ ((k = 16 ∨ k = 17) ∧ l < (signs bs : Int)))) ∧
        KP [2, 3, 81] F' fun G => G = fset 2 (some (.iptr [.int .i64 k, .slc 1 (ns.map .str) false, .slc 6 (encTs ks) false, .int .i64 l, .int .i64 p, .int .i64 s])) (fset 3 (some (.iptr [.bool false, .int .i64 i, .int .i64 n, .slc 1 (bytes bs) false, .slc 5 (encVs vks) false])) (fset 81 (some (.bool d)) fnone))) ?_ ?_
      · (repeat (first | refine st_q rfl rfl rfl ?_ | refine st_gy rfl (st_q rfl rfl rfl ?_) | refine st_gn rfl ?_ | refine st_gu rfl ?_))
        rw [bytes_length]
        by_cases q1 : 4096 < bs.length
        · (rw [show decide ((4096 : Int) < ((bs.length : Nat) : Int)) = true from decide_eq_true (by omega)])
          (repeat (first | refine st_q rfl rfl rfl ?_ | refine st_gy rfl (st_q rfl rfl rfl ?_) | refine st_gn rfl ?_ | refine st_gu rfl ?_))
          refine st_nil ⟨rfl, true, by simp [q1], ?_⟩
          ((repeat (first | refine kp_cons rfl ?_ | refine kp_skip ?_)); refine kp_nil ?_)
          rfl
        · (rw [show decide ((4096 : Int) < ((bs.length : Nat) : Int)) = false from decide_eq_false (by omega)])
          (repeat (first | refine st_q rfl rfl rfl ?_ | refine st_gy rfl (st_q rfl rfl rfl ?_) | refine st_gn rfl ?_ | refine st_gu rfl ?_))
          by_cases q2 : k = 16
          · (rw [show decide (k = 16) = true from decide_eq_true (by omega)])
            (repeat (first | refine st_q rfl rfl rfl ?_ | refine st_gy rfl (st_q rfl rfl rfl ?_) | refine st_gn rfl ?_ | refine st_gu rfl ?_))
            refine st_gy rfl (st_callp rfl (fun σ => c_Signs bs false hbl σ) ?_)
            (repeat (first | refine st_q rfl rfl rfl ?_ | refine st_gy rfl (st_q rfl rfl rfl ?_) | refine st_gn rfl ?_ | refine st_gu rfl ?_))
            refine st_nil ⟨rfl, decide (l < (signs bs : Int)), by simp [q1, q2], ?_⟩
            ((repeat (first | refine kp_cons rfl ?_ | refine kp_skip ?_)); refine kp_nil ?_)
            rfl
          · (rw [show decide (k = 16) = false from decide_eq_false (by omega)])
            (repeat (first | refine st_q rfl rfl rfl ?_ | refine st_gy rfl (st_q rfl rfl rfl ?_) | refine st_gn rfl ?_ | refine st_gu rfl ?_))
            by_cases q3 : k = 17
            · (rw [show decide (k = 17) = true from decide_eq_true (by omega)])
              (repeat (first | refine st_q rfl rfl rfl ?_ | refine st_gy rfl (st_q rfl rfl rfl ?_) | refine st_gn rfl ?_ | refine st_gu rfl ?_))
              refine st_gy rfl (st_callp rfl (fun σ => c_Signs bs false hbl σ) ?_)
              (repeat (first | refine st_q rfl rfl rfl ?_ | refine st_gy rfl (st_q rfl rfl rfl ?_) | refine st_gn rfl ?_ | refine st_gu rfl ?_))
              refine st_nil ⟨rfl, decide (l < (signs bs : Int)), by simp [q1, q3], ?_⟩
              ((repeat (first | refine kp_cons rfl ?_ | refine kp_skip ?_)); refine kp_nil ?_)
              rfl
            · (rw [show decide (k = 17) = false from decide_eq_false (by omega)])
              (repeat (first | refine st_q rfl rfl rfl ?_ | refine st_gy rfl (st_q rfl rfl rfl ?_) | refine st_gn rfl ?_ | refine st_gu rfl ?_))
              refine st_nil ⟨rfl, false, by simp [q1, q2, q3], ?_⟩
              ((repeat (first | refine kp_cons rfl ?_ | refine kp_skip ?_)); refine kp_nil ?_)
              rfl
      rintro F' σ2 ⟨rfl, d, hd, G, hG, rfl⟩
      refine kp_weaken (keep := [2, 3, 81]) ⟨_, hG, ?_⟩
      cases d with
      | true =>
        (repeat (first | refine st_q rfl rfl rfl ?_ | refine st_gy rfl (st_q rfl rfl rfl ?_) | refine st_gn rfl ?_ | refine st_gu rfl ?_ | (refine st_nil ?_; (repeat (first | refine kp_cons rfl ?_ | refine kp_skip ?_)); refine kp_nil ?_) | refine awp_seq ?_ | refine aw_end (fun _ _ => rfl) ?_ | refine awp_block ?_ | refine aw_skipE (fun _ _ => rfl) ?_ | refine aw_exitE (fun _ _ => rfl) ?_ | refine awp_cond (t := true) rfl (fun _ => ?_) (fun e => by cases e) | refine awp_cond (t := false) rfl (fun e => by cases e) (fun _ => ?_)))
        exact ret 4 _ _ rfl (bad 4 (by decide) (by rw [hO, if_pos (hd.1 rfl)])) fun _ _ => rfl
      | false =>
        have hB : ¬ (4096 < bs.length ∨ ((k = 16 ∨ k = 17) ∧ l < (signs bs : Int))) := fun h => by have := hd.2 h; cases this
        rw [if_neg hB] at hO
        refine awp_cond (t := false) rfl (fun e => by cases e) (fun _ => ?_)
        refine aw_skipE (fun _ _ => rfl) ?_
        refine aw_region ?_
        (repeat (refine st_q rfl rfl rfl ?_))
        rw [encVs_length]
        (refine st_nil ?_; (repeat (first | refine kp_cons rfl ?_ | refine kp_skip ?_)); refine kp_nil ?_)
        have key : ∀ rest : ACode, (ownV (.mk k ns ks l p s) i n bs vks.length = 0 → AWp Try.prog ingotref14_Check.n rest (ARet ingotref14_Check.res fun r σ' => r = .int .i64 (X : Int) ∧ σ' = σ2)
              (fset 2 (some (.iptr [.int .i64 k, .slc 1 (ns.map .str) false, .slc 6 (encTs ks) false, .int .i64 l, .int .i64 p, .int .i64 s])) (fset 3 (some (.iptr [.bool false, .int .i64 i, .int .i64 n, .slc 1 (bytes bs) false, .slc 5 (encVs vks) false])) (fset 5 (some (.int .i64 (vks.length : Int))) fnone))) σ2) →
            AWp Try.prog ingotref14_Check.n (.seq (ingotref14_Check.code.snd 5).fst rest) (ARet ingotref14_Check.res fun r σ' => r = .int .i64 (X : Int) ∧ σ' = σ2)
              (fset 2 (some (.iptr [.int .i64 k, .slc 1 (ns.map .str) false, .slc 6 (encTs ks) false, .int .i64 l, .int .i64 p, .int .i64 s])) (fset 3 (some (.iptr [.bool false, .int .i64 i, .int .i64 n, .slc 1 (bytes bs) false, .slc 5 (encVs vks) false])) (fset 5 (some (.int .i64 (vks.length : Int))) fnone))) σ2 := by
          intro rest hrest
          by_cases k10 : k = 10
          · subst k10
            rw [if_pos rfl] at hO
            (repeat (first | refine st_q rfl rfl rfl ?_ | refine st_gy rfl (st_q rfl rfl rfl ?_) | refine st_gn rfl ?_ | refine st_gu rfl ?_ | (refine st_nil ?_; (repeat (first | refine kp_cons rfl ?_ | refine kp_skip ?_)); refine kp_nil ?_) | refine awp_seq ?_ | refine aw_end (fun _ _ => rfl) ?_ | refine awp_block ?_ | refine aw_skipE (fun _ _ => rfl) ?_ | refine aw_exitE (fun _ _ => rfl) ?_ | refine awp_cond (t := true) rfl (fun _ => ?_) (fun e => by cases e) | refine awp_cond (t := false) rfl (fun e => by cases e) (fun _ => ?_)))
            by_cases q : 16384 < vks.length
            · (rw [show decide ((16384 : Int) < ((vks.length : Nat) : Int)) = true from decide_eq_true (by omega)])
              (repeat (first | refine st_q rfl rfl rfl ?_ | refine st_gy rfl (st_q rfl rfl rfl ?_) | refine st_gn rfl ?_ | refine st_gu rfl ?_ | (refine st_nil ?_; (repeat (first | refine kp_cons rfl ?_ | refine kp_skip ?_)); refine kp_nil ?_) | refine awp_seq ?_ | refine aw_end (fun _ _ => rfl) ?_ | refine awp_block ?_ | refine aw_skipE (fun _ _ => rfl) ?_ | refine aw_exitE (fun _ _ => rfl) ?_ | refine awp_cond (t := true) rfl (fun _ => ?_) (fun e => by cases e) | refine awp_cond (t := false) rfl (fun e => by cases e) (fun _ => ?_)))
              exact ret 4 _ _ rfl (bad 4 (by decide) (by rw [hO, if_pos q])) fun _ _ => rfl
            · (rw [show decide ((16384 : Int) < ((vks.length : Nat) : Int)) = false from decide_eq_false (by omega)])
              (repeat (first | refine st_q rfl rfl rfl ?_ | refine st_gy rfl (st_q rfl rfl rfl ?_) | refine st_gn rfl ?_ | refine st_gu rfl ?_ | (refine st_nil ?_; (repeat (first | refine kp_cons rfl ?_ | refine kp_skip ?_)); refine kp_nil ?_) | refine awp_seq ?_ | refine aw_end (fun _ _ => rfl) ?_ | refine awp_block ?_ | refine aw_skipE (fun _ _ => rfl) ?_ | refine aw_exitE (fun _ _ => rfl) ?_ | refine awp_cond (t := true) rfl (fun _ => ?_) (fun e => by cases e) | refine awp_cond (t := false) rfl (fun e => by cases e) (fun _ => ?_)))
              (refine kp_weaken (keep := [2, 3, 5]) ?_; ((repeat (first | refine kp_cons rfl ?_ | refine kp_skip ?_)); refine kp_nil ?_))
              exact hrest (by rw [hO, if_neg q])
          by_cases k11 : k = 11
          · subst k11
            rw [if_neg (by decide), if_pos rfl] at hO
            (repeat (first | refine st_q rfl rfl rfl ?_ | refine st_gy rfl (st_q rfl rfl rfl ?_) | refine st_gn rfl ?_ | refine st_gu rfl ?_ | (refine st_nil ?_; (repeat (first | refine kp_cons rfl ?_ | refine kp_skip ?_)); refine kp_nil ?_) | refine awp_seq ?_ | refine aw_end (fun _ _ => rfl) ?_ | refine awp_block ?_ | refine aw_skipE (fun _ _ => rfl) ?_ | refine aw_exitE (fun _ _ => rfl) ?_ | refine awp_cond (t := true) rfl (fun _ => ?_) (fun e => by cases e) | refine awp_cond (t := false) rfl (fun e => by cases e) (fun _ => ?_)))
            have e : ((vks.length : Nat) : Int).tmod 2 = ((vks.length % 2 : Nat) : Int) := by rw [Int.tmod_eq_emod_of_nonneg (by omega)]; omega
            rw [e]
            by_cases q : vks.length % 2 = 0
            · (rw [show decide (((vks.length % 2 : Nat) : Int) ≠ 0) = false from decide_eq_false (by omega)])
              rw [if_neg (by omega)] at hO
              (repeat (first | refine st_q rfl rfl rfl ?_ | refine st_gy rfl (st_q rfl rfl rfl ?_) | refine st_gn rfl ?_ | refine st_gu rfl ?_ | (refine st_nil ?_; (repeat (first | refine kp_cons rfl ?_ | refine kp_skip ?_)); refine kp_nil ?_) | refine awp_seq ?_ | refine aw_end (fun _ _ => rfl) ?_ | refine awp_block ?_ | refine aw_skipE (fun _ _ => rfl) ?_ | refine aw_exitE (fun _ _ => rfl) ?_ | refine awp_cond (t := true) rfl (fun _ => ?_) (fun e => by cases e) | refine awp_cond (t := false) rfl (fun e => by cases e) (fun _ => ?_)))
              by_cases q2 : 32768 < vks.length
              · (rw [show decide ((32768 : Int) < ((vks.length : Nat) : Int)) = true from decide_eq_true (by omega)])
                (repeat (first | refine st_q rfl rfl rfl ?_ | refine st_gy rfl (st_q rfl rfl rfl ?_) | refine st_gn rfl ?_ | refine st_gu rfl ?_ | (refine st_nil ?_; (repeat (first | refine kp_cons rfl ?_ | refine kp_skip ?_)); refine kp_nil ?_) | refine awp_seq ?_ | refine aw_end (fun _ _ => rfl) ?_ | refine awp_block ?_ | refine aw_skipE (fun _ _ => rfl) ?_ | refine aw_exitE (fun _ _ => rfl) ?_ | refine awp_cond (t := true) rfl (fun _ => ?_) (fun e => by cases e) | refine awp_cond (t := false) rfl (fun e => by cases e) (fun _ => ?_)))
                exact ret 4 _ _ rfl (bad 4 (by decide) (by rw [hO, if_pos q2])) fun _ _ => rfl
              · (rw [show decide ((32768 : Int) < ((vks.length : Nat) : Int)) = false from decide_eq_false (by omega)])
                (repeat (first | refine st_q rfl rfl rfl ?_ | refine st_gy rfl (st_q rfl rfl rfl ?_) | refine st_gn rfl ?_ | refine st_gu rfl ?_ | (refine st_nil ?_; (repeat (first | refine kp_cons rfl ?_ | refine kp_skip ?_)); refine kp_nil ?_) | refine awp_seq ?_ | refine aw_end (fun _ _ => rfl) ?_ | refine awp_block ?_ | refine aw_skipE (fun _ _ => rfl) ?_ | refine aw_exitE (fun _ _ => rfl) ?_ | refine awp_cond (t := true) rfl (fun _ => ?_) (fun e => by cases e) | refine awp_cond (t := false) rfl (fun e => by cases e) (fun _ => ?_)))
                (refine kp_weaken (keep := [2, 3, 5]) ?_; ((repeat (first | refine kp_cons rfl ?_ | refine kp_skip ?_)); refine kp_nil ?_))
                exact hrest (by rw [hO, if_neg q2])
            · (rw [show decide (((vks.length % 2 : Nat) : Int) ≠ 0) = true from decide_eq_true (by omega)])
              (repeat (first | refine st_q rfl rfl rfl ?_ | refine st_gy rfl (st_q rfl rfl rfl ?_) | refine st_gn rfl ?_ | refine st_gu rfl ?_ | (refine st_nil ?_; (repeat (first | refine kp_cons rfl ?_ | refine kp_skip ?_)); refine kp_nil ?_) | refine awp_seq ?_ | refine aw_end (fun _ _ => rfl) ?_ | refine awp_block ?_ | refine aw_skipE (fun _ _ => rfl) ?_ | refine aw_exitE (fun _ _ => rfl) ?_ | refine awp_cond (t := true) rfl (fun _ => ?_) (fun e => by cases e) | refine awp_cond (t := false) rfl (fun e => by cases e) (fun _ => ?_)))
              exact ret 1 _ _ rfl (bad 1 (by decide) (by rw [hO, if_pos q])) fun _ _ => rfl
          by_cases k12 : k = 12
          · subst k12
            rw [if_neg (by decide), if_neg (by decide), if_pos rfl] at hO
            (repeat (first | refine st_q rfl rfl rfl ?_ | refine st_gy rfl (st_q rfl rfl rfl ?_) | refine st_gn rfl ?_ | refine st_gu rfl ?_ | (refine st_nil ?_; (repeat (first | refine kp_cons rfl ?_ | refine kp_skip ?_)); refine kp_nil ?_) | refine awp_seq ?_ | refine aw_end (fun _ _ => rfl) ?_ | refine awp_block ?_ | refine aw_skipE (fun _ _ => rfl) ?_ | refine aw_exitE (fun _ _ => rfl) ?_ | refine awp_cond (t := true) rfl (fun _ => ?_) (fun e => by cases e) | refine awp_cond (t := false) rfl (fun e => by cases e) (fun _ => ?_)))
            rw [encTs_length]
            by_cases q : vks.length = ks.length
            · (rw [show decide (((vks.length : Nat) : Int) ≠ ((ks.length : Nat) : Int)) = false from decide_eq_false (by omega)])
              (repeat (first | refine st_q rfl rfl rfl ?_ | refine st_gy rfl (st_q rfl rfl rfl ?_) | refine st_gn rfl ?_ | refine st_gu rfl ?_ | (refine st_nil ?_; (repeat (first | refine kp_cons rfl ?_ | refine kp_skip ?_)); refine kp_nil ?_) | refine awp_seq ?_ | refine aw_end (fun _ _ => rfl) ?_ | refine awp_block ?_ | refine aw_skipE (fun _ _ => rfl) ?_ | refine aw_exitE (fun _ _ => rfl) ?_ | refine awp_cond (t := true) rfl (fun _ => ?_) (fun e => by cases e) | refine awp_cond (t := false) rfl (fun e => by cases e) (fun _ => ?_)))
              (refine kp_weaken (keep := [2, 3, 5]) ?_; ((repeat (first | refine kp_cons rfl ?_ | refine kp_skip ?_)); refine kp_nil ?_))
              exact hrest (by rw [hO, if_neg (by omega)])
            · (rw [show decide (((vks.length : Nat) : Int) ≠ ((ks.length : Nat) : Int)) = true from decide_eq_true (by omega)])
              (repeat (first | refine st_q rfl rfl rfl ?_ | refine st_gy rfl (st_q rfl rfl rfl ?_) | refine st_gn rfl ?_ | refine st_gu rfl ?_ | (refine st_nil ?_; (repeat (first | refine kp_cons rfl ?_ | refine kp_skip ?_)); refine kp_nil ?_) | refine awp_seq ?_ | refine aw_end (fun _ _ => rfl) ?_ | refine awp_block ?_ | refine aw_skipE (fun _ _ => rfl) ?_ | refine aw_exitE (fun _ _ => rfl) ?_ | refine awp_cond (t := true) rfl (fun _ => ?_) (fun e => by cases e) | refine awp_cond (t := false) rfl (fun e => by cases e) (fun _ => ?_)))
              exact ret 1 _ _ rfl (bad 1 (by decide) (by rw [hO, if_pos q])) fun _ _ => rfl
          by_cases k13 : k = 13
          · subst k13
            rw [if_neg (by decide), if_neg (by decide), if_neg (by decide), if_pos rfl] at hO
            (repeat (first | refine st_q rfl rfl rfl ?_ | refine st_gy rfl (st_q rfl rfl rfl ?_) | refine st_gn rfl ?_ | refine st_gu rfl ?_ | (refine st_nil ?_; (repeat (first | refine kp_cons rfl ?_ | refine kp_skip ?_)); refine kp_nil ?_) | refine awp_seq ?_ | refine aw_end (fun _ _ => rfl) ?_ | refine awp_block ?_ | refine aw_skipE (fun _ _ => rfl) ?_ | refine aw_exitE (fun _ _ => rfl) ?_ | refine awp_cond (t := true) rfl (fun _ => ?_) (fun e => by cases e) | refine awp_cond (t := false) rfl (fun e => by cases e) (fun _ => ?_)))
            by_cases q : vks.length = 1
            · (rw [show decide (((vks.length : Nat) : Int) ≠ 1) = false from decide_eq_false (by omega)])
              (repeat (first | refine st_q rfl rfl rfl ?_ | refine st_gy rfl (st_q rfl rfl rfl ?_) | refine st_gn rfl ?_ | refine st_gu rfl ?_ | (refine st_nil ?_; (repeat (first | refine kp_cons rfl ?_ | refine kp_skip ?_)); refine kp_nil ?_) | refine awp_seq ?_ | refine aw_end (fun _ _ => rfl) ?_ | refine awp_block ?_ | refine aw_skipE (fun _ _ => rfl) ?_ | refine aw_exitE (fun _ _ => rfl) ?_ | refine awp_cond (t := true) rfl (fun _ => ?_) (fun e => by cases e) | refine awp_cond (t := false) rfl (fun e => by cases e) (fun _ => ?_)))
              (refine kp_weaken (keep := [2, 3, 5]) ?_; ((repeat (first | refine kp_cons rfl ?_ | refine kp_skip ?_)); refine kp_nil ?_))
              exact hrest (by rw [hO, if_neg (by omega)])
            · (rw [show decide (((vks.length : Nat) : Int) ≠ 1) = true from decide_eq_true (by omega)])
              (repeat (first | refine st_q rfl rfl rfl ?_ | refine st_gy rfl (st_q rfl rfl rfl ?_) | refine st_gn rfl ?_ | refine st_gu rfl ?_ | (refine st_nil ?_; (repeat (first | refine kp_cons rfl ?_ | refine kp_skip ?_)); refine kp_nil ?_) | refine awp_seq ?_ | refine aw_end (fun _ _ => rfl) ?_ | refine awp_block ?_ | refine aw_skipE (fun _ _ => rfl) ?_ | refine aw_exitE (fun _ _ => rfl) ?_ | refine awp_cond (t := true) rfl (fun _ => ?_) (fun e => by cases e) | refine awp_cond (t := false) rfl (fun e => by cases e) (fun _ => ?_)))
              exact ret 1 _ _ rfl (bad 1 (by decide) (by rw [hO, if_pos q])) fun _ _ => rfl
          rw [if_neg k10, if_neg k11, if_neg k12, if_neg k13] at hO
          (repeat (first | refine st_q rfl rfl rfl ?_ | refine st_gy rfl (st_q rfl rfl rfl ?_) | refine st_gn rfl ?_ | refine st_gu rfl ?_ | (refine st_nil ?_; (repeat (first | refine kp_cons rfl ?_ | refine kp_skip ?_)); refine kp_nil ?_) | refine awp_seq ?_ | refine aw_end (fun _ _ => rfl) ?_ | refine awp_block ?_ | refine aw_skipE (fun _ _ => rfl) ?_ | refine aw_exitE (fun _ _ => rfl) ?_ | refine awp_cond (t := true) rfl (fun _ => ?_) (fun e => by cases e) | refine awp_cond (t := false) rfl (fun e => by cases e) (fun _ => ?_)))
          (rw [show decide (k = 10) = false from decide_eq_false (by omega)])
          (repeat (first | refine st_q rfl rfl rfl ?_ | refine st_gy rfl (st_q rfl rfl rfl ?_) | refine st_gn rfl ?_ | refine st_gu rfl ?_ | (refine st_nil ?_; (repeat (first | refine kp_cons rfl ?_ | refine kp_skip ?_)); refine kp_nil ?_) | refine awp_seq ?_ | refine aw_end (fun _ _ => rfl) ?_ | refine awp_block ?_ | refine aw_skipE (fun _ _ => rfl) ?_ | refine aw_exitE (fun _ _ => rfl) ?_ | refine awp_cond (t := true) rfl (fun _ => ?_) (fun e => by cases e) | refine awp_cond (t := false) rfl (fun e => by cases e) (fun _ => ?_)))
          (rw [show decide (k = 11) = false from decide_eq_false (by omega)])
          (repeat (first | refine st_q rfl rfl rfl ?_ | refine st_gy rfl (st_q rfl rfl rfl ?_) | refine st_gn rfl ?_ | refine st_gu rfl ?_ | (refine st_nil ?_; (repeat (first | refine kp_cons rfl ?_ | refine kp_skip ?_)); refine kp_nil ?_) | refine awp_seq ?_ | refine aw_end (fun _ _ => rfl) ?_ | refine awp_block ?_ | refine aw_skipE (fun _ _ => rfl) ?_ | refine aw_exitE (fun _ _ => rfl) ?_ | refine awp_cond (t := true) rfl (fun _ => ?_) (fun e => by cases e) | refine awp_cond (t := false) rfl (fun e => by cases e) (fun _ => ?_)))
          (rw [show decide (k = 12) = false from decide_eq_false (by omega)])
          (repeat (first | refine st_q rfl rfl rfl ?_ | refine st_gy rfl (st_q rfl rfl rfl ?_) | refine st_gn rfl ?_ | refine st_gu rfl ?_ | (refine st_nil ?_; (repeat (first | refine kp_cons rfl ?_ | refine kp_skip ?_)); refine kp_nil ?_) | refine awp_seq ?_ | refine aw_end (fun _ _ => rfl) ?_ | refine awp_block ?_ | refine aw_skipE (fun _ _ => rfl) ?_ | refine aw_exitE (fun _ _ => rfl) ?_ | refine awp_cond (t := true) rfl (fun _ => ?_) (fun e => by cases e) | refine awp_cond (t := false) rfl (fun e => by cases e) (fun _ => ?_)))
          (rw [show decide (k = 13) = false from decide_eq_false (by omega)])
          (repeat (first | refine st_q rfl rfl rfl ?_ | refine st_gy rfl (st_q rfl rfl rfl ?_) | refine st_gn rfl ?_ | refine st_gu rfl ?_ | (refine st_nil ?_; (repeat (first | refine kp_cons rfl ?_ | refine kp_skip ?_)); refine kp_nil ?_) | refine awp_seq ?_ | refine aw_end (fun _ _ => rfl) ?_ | refine awp_block ?_ | refine aw_skipE (fun _ _ => rfl) ?_ | refine aw_exitE (fun _ _ => rfl) ?_ | refine awp_cond (t := true) rfl (fun _ => ?_) (fun e => by cases e) | refine awp_cond (t := false) rfl (fun e => by cases e) (fun _ => ?_)))
          (refine kp_weaken (keep := [2, 3, 5]) ?_; ((repeat (first | refine kp_cons rfl ?_ | refine kp_skip ?_)); refine kp_nil ?_))
          exact hrest hO
        refine key _ fun hown => ?_
        rw [hown, if_neg (by simp)] at hX'
        (repeat (first | refine st_q rfl rfl rfl ?_ | refine st_gy rfl (st_q rfl rfl rfl ?_) | refine st_gn rfl ?_ | refine st_gu rfl ?_ | (refine st_nil ?_; (repeat (first | refine kp_cons rfl ?_ | refine kp_skip ?_)); refine kp_nil ?_) | refine awp_seq ?_ | refine aw_end (fun _ _ => rfl) ?_ | refine awp_block ?_ | refine aw_skipE (fun _ _ => rfl) ?_ | refine aw_exitE (fun _ _ => rfl) ?_ | refine awp_cond (t := true) rfl (fun _ => ?_) (fun e => by cases e) | refine awp_cond (t := false) rfl (fun e => by cases e) (fun _ => ?_)))
        refine awp_loopN (fun m F σ' => ∃ (j : Nat), F = fset 2 (some (.iptr [.int .i64 k, .slc 1 (ns.map .str) false, .slc 6 (encTs ks) false, .int .i64 l, .int .i64 p, .int .i64 s])) (fset 3 (some (.iptr [.bool false, .int .i64 i, .int .i64 n, .slc 1 (bytes bs) false, .slc 5 (encVs vks) false])) (fset 5 (some (.int .i64 (vks.length : Int))) (fset 6 (some (.int .i64 (j : Int))) fnone))) ∧
          σ2 = σ' ∧ j ≤ vks.length ∧ X = vchkL (.mk k ns ks l p s) i j (vks.drop j) ∧ m = vks.length - j) (n := vks.length)
          ⟨0, rfl, rfl, by omega, hX'.symm, rfl⟩ ?_
        rintro m F σ' ⟨j, rfl, rfl, hj, hXj, rfl⟩
        (repeat (first | refine st_q rfl rfl rfl ?_ | refine st_gy rfl (st_q rfl rfl rfl ?_) | refine st_gn rfl ?_ | refine st_gu rfl ?_ | (refine st_nil ?_; (repeat (first | refine kp_cons rfl ?_ | refine kp_skip ?_)); refine kp_nil ?_) | refine awp_seq ?_ | refine aw_end (fun _ _ => rfl) ?_ | refine awp_block ?_ | refine aw_skipE (fun _ _ => rfl) ?_ | refine aw_exitE (fun _ _ => rfl) ?_ | refine awp_cond (t := true) rfl (fun _ => ?_) (fun e => by cases e) | refine awp_cond (t := false) rfl (fun e => by cases e) (fun _ => ?_)))
        refine awp_condp (p := (j : Int) < (vks.length : Int)) rfl (fun h3 => ?_) (fun h3 => ?_)
        · have hjl : j < vks.length := by omega
          have hget : vks[j]? = some vks[j] := List.getElem?_eq_getElem hjl
          have hx : (encVs vks)[(j : Int).toNat]? = some (encV vks[j]) := encVs_get (by rw [Int.toNat_natCast, hget])
          obtain ⟨hlt, hi0⟩ := hka j hjl hown
          have hkc := hkid j (by omega) hi0 hlt
          have hvc := ih vks[j] (List.getElem_mem hjl) (hkids _ (List.getElem_mem hjl)) (kidT (.mk k ns ks l p s) i j) (hko j hlt)
          rw [vchkL_drop _ _ _ _ _ hget] at hXj
          have hX1 : (k = 11 ∧ j % 2 = 0 ∧ vks[j].null = true) → X = 1 := fun h => hXj.trans (if_pos h)
          have hX2 := fun (h : ¬ (k = 11 ∧ j % 2 = 0 ∧ vks[j].null = true)) => hXj.trans (if_neg h)
          rw [encV_eq] at hx
          simp only [encV_eq] at hvc
          refine aw_skipE (fun _ _ => rfl) ?_
          refine awp_seq ?_
          refine awp_block ?_
          refine awp_seq ?_
          refine awp_seq ?_
          refine aw_cut (fun F' σ' => σ2 = σ' ∧ ∃ d : Bool, (d = true ↔ (k = 11 ∧ j % 2 = 0 ∧ vks[j].null = true)) ∧
            KP [2, 3, 5, 6, 129] F' fun G => G = fset 2 (some (.iptr [.int .i64 k, .slc 1 (ns.map .str) false, .slc 6 (encTs ks) false, .int .i64 l, .int .i64 p, .int .i64 s])) (fset 3 (some (.iptr [.bool false, .int .i64 i, .int .i64 n, .slc 1 (bytes bs) false, .slc 5 (encVs vks) false])) (fset 5 (some (.int .i64 (vks.length : Int))) (fset 6 (some (.int .i64 (j : Int))) (fset 129 (some (.bool d)) fnone))))) ?_ ?_
          · (repeat (first | refine st_q rfl rfl rfl ?_ | refine st_gy rfl (st_q rfl rfl rfl ?_) | refine st_gn rfl ?_ | refine st_gu rfl ?_))
            by_cases q1 : k = 11
            · (rw [show decide (k = 11) = true from decide_eq_true (by omega)])
              (repeat (first | refine st_q rfl rfl rfl ?_ | refine st_gy rfl (st_q rfl rfl rfl ?_) | refine st_gn rfl ?_ | refine st_gu rfl ?_))
              have e : (j : Int).tmod 2 = ((j % 2 : Nat) : Int) := by rw [Int.tmod_eq_emod_of_nonneg (by omega)]; omega
              rw [e]
              by_cases q2 : j % 2 = 0
              · (rw [show decide (((j % 2 : Nat) : Int) = 0) = true from decide_eq_true (by omega)])
                (repeat (first | refine st_q rfl rfl rfl ?_ | refine st_gy rfl (st_q rfl rfl rfl ?_) | refine st_gn rfl ?_ | refine st_gu rfl ?_))
                refine st_gy rfl (st_iad rfl (by omega) hx ?_)
                (repeat (first | refine st_q rfl rfl rfl ?_ | refine st_gy rfl (st_q rfl rfl rfl ?_) | refine st_gn rfl ?_ | refine st_gu rfl ?_))
                refine st_nil ⟨rfl, vks[j].null, by simp [q1, q2], ?_⟩
                ((repeat (first | refine kp_cons rfl ?_ | refine kp_skip ?_)); refine kp_nil ?_)
                rfl
              · (rw [show decide (((j % 2 : Nat) : Int) = 0) = false from decide_eq_false (by omega)])
                (repeat (first | refine st_q rfl rfl rfl ?_ | refine st_gy rfl (st_q rfl rfl rfl ?_) | refine st_gn rfl ?_ | refine st_gu rfl ?_))
                refine st_nil ⟨rfl, false, by simp [q2], ?_⟩
                ((repeat (first | refine kp_cons rfl ?_ | refine kp_skip ?_)); refine kp_nil ?_)
                rfl
            · (rw [show decide (k = 11) = false from decide_eq_false (by omega)])
              (repeat (first | refine st_q rfl rfl rfl ?_ | refine st_gy rfl (st_q rfl rfl rfl ?_) | refine st_gn rfl ?_ | refine st_gu rfl ?_))
              refine st_nil ⟨rfl, false, by simp [q1], ?_⟩
              ((repeat (first | refine kp_cons rfl ?_ | refine kp_skip ?_)); refine kp_nil ?_)
              rfl
          rintro F' σ3 ⟨rfl, d, hd, G, hG, rfl⟩
          refine kp_weaken (keep := [2, 3, 5, 6, 129]) ⟨_, hG, ?_⟩
          cases d with
          | true =>
            (repeat (first | refine st_q rfl rfl rfl ?_ | refine st_gy rfl (st_q rfl rfl rfl ?_) | refine st_gn rfl ?_ | refine st_gu rfl ?_ | (refine st_nil ?_; (repeat (first | refine kp_cons rfl ?_ | refine kp_skip ?_)); refine kp_nil ?_) | refine awp_seq ?_ | refine aw_end (fun _ _ => rfl) ?_ | refine awp_block ?_ | refine aw_skipE (fun _ _ => rfl) ?_ | refine aw_exitE (fun _ _ => rfl) ?_ | refine awp_cond (t := true) rfl (fun _ => ?_) (fun e => by cases e) | refine awp_cond (t := false) rfl (fun e => by cases e) (fun _ => ?_)))
            exact ret 1 _ _ rfl (hX1 (hd.1 rfl)) fun _ _ => rfl
          | false =>
            replace hXj := hX2 (fun h => by have := hd.2 h; cases this)
            (repeat (first | refine st_q rfl rfl rfl ?_ | refine st_gy rfl (st_q rfl rfl rfl ?_) | refine st_gn rfl ?_ | refine st_gu rfl ?_ | (refine st_nil ?_; (repeat (first | refine kp_cons rfl ?_ | refine kp_skip ?_)); refine kp_nil ?_) | refine awp_seq ?_ | refine aw_end (fun _ _ => rfl) ?_ | refine awp_block ?_ | refine aw_skipE (fun _ _ => rfl) ?_ | refine aw_exitE (fun _ _ => rfl) ?_ | refine awp_cond (t := true) rfl (fun _ => ?_) (fun e => by cases e) | refine awp_cond (t := false) rfl (fun e => by cases e) (fun _ => ?_)))
            refine st_callp rfl hkc ?_
            (repeat (first | refine st_q rfl rfl rfl ?_ | refine st_gy rfl (st_q rfl rfl rfl ?_) | refine st_gn rfl ?_ | refine st_gu rfl ?_))
            refine st_iad rfl (by omega) hx ?_
            (repeat (first | refine st_q rfl rfl rfl ?_ | refine st_gy rfl (st_q rfl rfl rfl ?_) | refine st_gn rfl ?_ | refine st_gu rfl ?_))
            refine st_callv rfl (hvc _) ?_
            have hle := vchk_le vks[j] (kidT (.mk k ns ks l p s) i j)
            generalize hq : vchk (kidT (.mk k ns ks l p s) i j) vks[j] = x at hXj hle
            (repeat (first | refine st_q rfl rfl rfl ?_ | refine st_gy rfl (st_q rfl rfl rfl ?_) | refine st_gn rfl ?_ | refine st_gu rfl ?_ | (refine st_nil ?_; (repeat (first | refine kp_cons rfl ?_ | refine kp_skip ?_)); refine kp_nil ?_) | refine awp_seq ?_ | refine aw_end (fun _ _ => rfl) ?_ | refine awp_block ?_ | refine aw_skipE (fun _ _ => rfl) ?_ | refine aw_exitE (fun _ _ => rfl) ?_ | refine awp_cond (t := true) rfl (fun _ => ?_) (fun e => by cases e) | refine awp_cond (t := false) rfl (fun e => by cases e) (fun _ => ?_)))
            by_cases q : x = 0
            · rw [if_neg (by omega)] at hXj
              (rw [show decide (((x : Nat) : Int) ≠ 0) = false from decide_eq_false (by omega)])
              (repeat (first | refine st_q rfl rfl rfl ?_ | refine st_gy rfl (st_q rfl rfl rfl ?_) | refine st_gn rfl ?_ | refine st_gu rfl ?_ | (refine st_nil ?_; (repeat (first | refine kp_cons rfl ?_ | refine kp_skip ?_)); refine kp_nil ?_) | refine awp_seq ?_ | refine aw_end (fun _ _ => rfl) ?_ | refine awp_block ?_ | refine aw_skipE (fun _ _ => rfl) ?_ | refine aw_exitE (fun _ _ => rfl) ?_ | refine awp_cond (t := true) rfl (fun _ => ?_) (fun e => by cases e) | refine awp_cond (t := false) rfl (fun e => by cases e) (fun _ => ?_)))
              refine aw_round ?_
              (repeat (refine st_q rfl rfl rfl ?_))
              rw [show IntKind.wrap .i64 ((j : Int) + 1) = ((j + 1 : Nat) : Int) by rw [w64 _ (by omega) (by omega)]; omega]
              (refine st_nil ?_; (repeat (first | refine kp_cons rfl ?_ | refine kp_skip ?_)); refine kp_nil ?_)
              exact ⟨_, vks.length - (j + 1), HSub.refl _, ⟨j + 1, rfl, rfl, by omega, hXj, rfl⟩, by omega⟩
            · rw [if_pos q] at hXj
              (rw [show decide (((x : Nat) : Int) ≠ 0) = true from decide_eq_true (by omega)])
              (repeat (first | refine st_q rfl rfl rfl ?_ | refine st_gy rfl (st_q rfl rfl rfl ?_) | refine st_gn rfl ?_ | refine st_gu rfl ?_ | (refine st_nil ?_; (repeat (first | refine kp_cons rfl ?_ | refine kp_skip ?_)); refine kp_nil ?_) | refine awp_seq ?_ | refine aw_end (fun _ _ => rfl) ?_ | refine awp_block ?_ | refine aw_skipE (fun _ _ => rfl) ?_ | refine aw_exitE (fun _ _ => rfl) ?_ | refine awp_cond (t := true) rfl (fun _ => ?_) (fun e => by cases e) | refine awp_cond (t := false) rfl (fun e => by cases e) (fun _ => ?_)))
              exact ret x _ _ rfl hXj fun _ _ => rfl
        · (repeat (first | refine st_q rfl rfl rfl ?_ | refine st_gy rfl (st_q rfl rfl rfl ?_) | refine st_gn rfl ?_ | refine st_gu rfl ?_ | (refine st_nil ?_; (repeat (first | refine kp_cons rfl ?_ | refine kp_skip ?_)); refine kp_nil ?_) | refine awp_seq ?_ | refine aw_end (fun _ _ => rfl) ?_ | refine awp_block ?_ | refine aw_skipE (fun _ _ => rfl) ?_ | refine aw_exitE (fun _ _ => rfl) ?_ | refine awp_cond (t := true) rfl (fun _ => ?_) (fun e => by cases e) | refine awp_cond (t := false) rfl (fun e => by cases e) (fun _ => ?_)))
          have hd0 : vks.drop j = [] := List.drop_of_length_le (by omega)
          rw [hd0, vchkL] at hXj
          exact ret 0 _ _ rfl hXj fun _ _ => rfl
end Go.Abs

/-
  The walk of bytes.Compare: two rows of bytes compared.
-/
namespace Go.Abs
open Go Go.Proofs Go.RowKit
set_option linter.unusedVariables false
set_option linter.unusedSimpArgs false

theorem run_loadBytes {P : Program} {w : World} : ∀ (xs : List UInt8) (a : Addr) (acc : ByteArray), (∀ j, j < xs.length → w.cell? (a.add j) = some (.int .u8 (xs.getD j 0).toNat)) → (Extern.Bytes.loadBytes a xs.length acc).run P w = .ok ⟨acc.data ++ xs.toArray⟩ w
  | [], a, acc, _ => by
    simp only [List.length_nil, Extern.Bytes.loadBytes]
    rw [Sem.run_pure]
    simp
  | x :: xs, a, acc, h => by
    have h0 := h 0 (by simp)
    have ha : a.add 0 = a := by simp [Addr.add]
    rw [ha] at h0
    simp only [List.getD_cons_zero] at h0
    simp only [List.length_cons, Extern.Bytes.loadBytes, Sem.run_bind]
    rw [run_load' h0]
    simp only [Result.andThen_ok]
    have ih := run_loadBytes (P := P) (w := w) xs (a.add 1) (acc.push ((x.toNat : Int)).toNat.toUInt8) (fun j hj => by
      have := h (j + 1) (by simpa using hj)
      rw [Go.Deep.add_add, Nat.add_comm 1 j]
      simpa using this)
    rw [ih]
    congr 1
    have e : ((x.toNat : Int)).toNat.toUInt8 = x := by rw [Int.toNat_natCast]; simp
    rw [e]
    cases acc
    simp [ByteArray.push]

/-- The bytes of a value. -/
theorem run_bytesOf {P : Program} {K : Kr} {w : World} {σ : AHeap} (r : Rel K σ w) {xs : List UInt8} {f : Bool} {v : Value} (h : VR K (.slc 1 (bytes xs) f) v) : (Extern.Bytes.bytesOf v).run P w = .ok ⟨xs.toArray⟩ w := by
  unfold VR at h
  generalize hb : bytes xs = ys at h
  cases h with
  | @slc0 _ _ a cap _ _ hf _ =>
    have : xs = [] := by simpa [bytes] using hb
    subst this
    cases a with
    | none => rfl
    | some a => rfl
  | @slc _ _ _ a n cap us _ _ hn he hsp hm hvv hc hf _ =>
    subst hb
    have hxn : xs.length = n := by simpa [bytes] using hn
    have hcell : ∀ j, j < xs.length → w.cell? (a.add j) = some (.int .u8 (xs.getD j 0).toNat) := by
      intro j hj
      have hfl : ((bytes xs).flatMap AVal.cells)[j]? = some (byte (xs.getD j 0)) := by
        rw [flat_bytes, bytes_get, List.getD_eq_getElem?_getD, List.getElem?_eq_getElem hj]; rfl
      obtain ⟨u, hu, hvu⟩ := hvv.get hfl
      have := r.imm _ _ _ (hm j u hu)
      have hadd : a.add j = ⟨a.block, a.off + j, none⟩ := by
        obtain ⟨b, o, sp⟩ := a
        simp only at hsp
        subst hsp
        unfold Addr.add
        split
        · rename_i h0; subst h0; rfl
        · rfl
      rw [hadd, this]
      have := hvu.int_inv
      simpa [byte] using this
    have := run_loadBytes (P := P) (w := w) xs a .empty hcell
    simp only [Extern.Bytes.bytesOf]
    rw [← hxn, this]
    simp

set_option maxRecDepth 100000 in
theorem bytesCompare_any (v1 v2 : Value) (xs ys : List UInt8) (w : World) (h1 : (Extern.Bytes.bytesOf v1).run Try.prog w = .ok ⟨xs.toArray⟩ w) (h2 : (Extern.Bytes.bytesOf v2).run Try.prog w = .ok ⟨ys.toArray⟩ w) :
    Calls Try.prog 121 #[v1, v2] w fun e w' => e = .returned (.int .i64 (Lib.compareBytes xs ys)) ∧ w' = w := by
  have hcmp : (Extern.BytealgCompare.compare #[v1, v2]).run Try.prog w = .ok (.int .i64 (Lib.compareBytes xs ys)) w := by
    change Sem.run Try.prog (do pure (goInt (Extern.BytealgCompare.cmp (← Extern.Bytes.bytesOf v1) (← Extern.Bytes.bytesOf v2)))) w = _
    simp only [Sem.run_bind, h1, h2, Result.andThen_ok, Sem.run_pure]
    rw [Lib.cmp_eq]
    rfl
  have hcall : (callFunc 145 #[v1, v2]).run Try.prog w = .ok (.value (.int .i64 (Lib.compareBytes xs ys))) w := by
    rw [run_callFunc_extern Try.func145 (by kernel_rfl) (by kernel_rfl) (by kernel_rfl) (e := Extern.BytealgCompare.compare) (by kernel_rfl), hcmp]
    rfl
  go_enter Try.func121, Try.ntmps121
  go_wp2
  go_ret
  exact ⟨rfl, rfl⟩

theorem c_bytesCompare (xs ys : List UInt8) (f g : Bool) (σ : AHeap) : ACalls Try.prog 121 [.slc 1 (bytes xs) f, .slc 1 (bytes ys) g] σ fun r σ' => r = .int .i64 (Lib.compareBytes xs ys) ∧ σ' = σ := by
  intro K w vs hr hv
  obtain ⟨v1, vs', rfl, h1, h2⟩ := hv.ex
  obtain ⟨v2, vs', rfl, h2, h3⟩ := h2.ex
  obtain rfl := h3.nil_inv
  refine (bytesCompare_any v1 v2 xs ys w (run_bytesOf hr h1) (run_bytesOf hr h2)).mono ?_
  rintro e w' ⟨rfl, rfl⟩
  exact ⟨_, K, _, σ, rfl, Kr.le.refl K, hr, VRel.int .nil, rfl, rfl⟩
end Go.Abs

/- Contracts: values compared (value.Compare, cmp). -/
namespace Go.Abs
open Go Go.Proofs
set_option linter.unusedVariables false
set_option linter.unusedSimpArgs false
set_option maxHeartbeats 4000000
attribute [local irreducible] AWp aops KP

def cmpI (a b : Int) : Int := if a < b then -1 else if b < a then 1 else 0
def cmpV (k : Int) (a b : Vl) : Int × Bool :=
  if leafF k = false ∨ a.null = true ∨ b.null = true then (0, false)
  else if textF k = true then (Lib.compareBytes a.b b.b, true)
  else (if cmpI a.i b.i ≠ 0 then cmpI a.i b.i else cmpI a.n b.n, true)

theorem c_isNaN64 (a : Int) (σ : AHeap) : ACalls Try.prog f_cmp_isNaN_int64 [.int .i64 a] σ fun r σ' => r = .bool false ∧ σ' = σ := by
  refine acalls_enter rfl cmp_isNaN_int64_ok (Nat.le_of_ble_eq_true rfl) ?_
  (repeat (first | refine st_q rfl rfl rfl ?_ | refine st_gy rfl (st_q rfl rfl rfl ?_) | refine st_gn rfl ?_ | refine st_gu rfl ?_ | (refine st_nil ?_; (repeat (first | refine kp_cons rfl ?_ | refine kp_skip ?_)); refine kp_nil ?_) | refine awp_seq ?_ | refine aw_end (fun _ _ => rfl) ?_ | refine awp_block ?_ | refine aw_skipE (fun _ _ => rfl) ?_ | refine aw_exitE (fun _ _ => rfl) ?_ | refine awp_cond (t := true) rfl (fun _ => ?_) (fun e => by cases e) | refine awp_cond (t := false) rfl (fun e => by cases e) (fun _ => ?_)))
  rw [show decide (a ≠ a) = false from decide_eq_false (fun h => h rfl)]
  refine awp_ret ?_
  exact ares rfl (HSub.refl _) ⟨rfl, rfl⟩
theorem c_isNaN (a : Int) (σ : AHeap) : ACalls Try.prog f_cmp_isNaN_int [.int .i64 a] σ fun r σ' => r = .bool false ∧ σ' = σ := by
  refine acalls_enter rfl cmp_isNaN_int_ok (Nat.le_of_ble_eq_true rfl) ?_
  (repeat (first | refine st_q rfl rfl rfl ?_ | refine st_gy rfl (st_q rfl rfl rfl ?_) | refine st_gn rfl ?_ | refine st_gu rfl ?_ | (refine st_nil ?_; (repeat (first | refine kp_cons rfl ?_ | refine kp_skip ?_)); refine kp_nil ?_) | refine awp_seq ?_ | refine aw_end (fun _ _ => rfl) ?_ | refine awp_block ?_ | refine aw_skipE (fun _ _ => rfl) ?_ | refine aw_exitE (fun _ _ => rfl) ?_ | refine awp_cond (t := true) rfl (fun _ => ?_) (fun e => by cases e) | refine awp_cond (t := false) rfl (fun e => by cases e) (fun _ => ?_)))
  rw [show decide (a ≠ a) = false from decide_eq_false (fun h => h rfl)]
  refine awp_ret ?_
  exact ares rfl (HSub.refl _) ⟨rfl, rfl⟩

theorem c_cmp64 (a b : Int) (σ : AHeap) : ACalls Try.prog f_cmp_Compare_int64 [.int .i64 a, .int .i64 b] σ fun r σ' => r = .int .i64 (cmpI a b) ∧ σ' = σ := by
  refine acalls_enter rfl cmp_Compare_int64_ok (Nat.le_of_ble_eq_true rfl) ?_
  (repeat (first | refine st_q rfl rfl rfl ?_ | refine st_gy rfl (st_q rfl rfl rfl ?_) | refine st_gn rfl ?_ | refine st_gu rfl ?_ | (refine st_nil ?_; (repeat (first | refine kp_cons rfl ?_ | refine kp_skip ?_)); refine kp_nil ?_) | refine awp_seq ?_ | refine aw_end (fun _ _ => rfl) ?_ | refine awp_block ?_ | refine aw_skipE (fun _ _ => rfl) ?_ | refine aw_exitE (fun _ _ => rfl) ?_ | refine awp_cond (t := true) rfl (fun _ => ?_) (fun e => by cases e) | refine awp_cond (t := false) rfl (fun e => by cases e) (fun _ => ?_)))
  refine st_callv rfl (c_isNaN64 a _) ?_
  (repeat (first | refine st_q rfl rfl rfl ?_ | refine st_gy rfl (st_q rfl rfl rfl ?_) | refine st_gn rfl ?_ | refine st_gu rfl ?_ | (refine st_nil ?_; (repeat (first | refine kp_cons rfl ?_ | refine kp_skip ?_)); refine kp_nil ?_) | refine awp_seq ?_ | refine aw_end (fun _ _ => rfl) ?_ | refine awp_block ?_ | refine aw_skipE (fun _ _ => rfl) ?_ | refine aw_exitE (fun _ _ => rfl) ?_ | refine awp_cond (t := true) rfl (fun _ => ?_) (fun e => by cases e) | refine awp_cond (t := false) rfl (fun e => by cases e) (fun _ => ?_)))
  refine st_callv rfl (c_isNaN64 b _) ?_
  (repeat (first | refine st_q rfl rfl rfl ?_ | refine st_gy rfl (st_q rfl rfl rfl ?_) | refine st_gn rfl ?_ | refine st_gu rfl ?_ | (refine st_nil ?_; (repeat (first | refine kp_cons rfl ?_ | refine kp_skip ?_)); refine kp_nil ?_) | refine awp_seq ?_ | refine aw_end (fun _ _ => rfl) ?_ | refine awp_block ?_ | refine aw_skipE (fun _ _ => rfl) ?_ | refine aw_exitE (fun _ _ => rfl) ?_ | refine awp_cond (t := true) rfl (fun _ => ?_) (fun e => by cases e) | refine awp_cond (t := false) rfl (fun e => by cases e) (fun _ => ?_)))
  by_cases h1 : a < b
  · (rw [show decide (a < b) = true from decide_eq_true (by omega)])
    (repeat (first | refine st_q rfl rfl rfl ?_ | refine st_gy rfl (st_q rfl rfl rfl ?_) | refine st_gn rfl ?_ | refine st_gu rfl ?_ | (refine st_nil ?_; (repeat (first | refine kp_cons rfl ?_ | refine kp_skip ?_)); refine kp_nil ?_) | refine awp_seq ?_ | refine aw_end (fun _ _ => rfl) ?_ | refine awp_block ?_ | refine aw_skipE (fun _ _ => rfl) ?_ | refine aw_exitE (fun _ _ => rfl) ?_ | refine awp_cond (t := true) rfl (fun _ => ?_) (fun e => by cases e) | refine awp_cond (t := false) rfl (fun e => by cases e) (fun _ => ?_)))
    refine awp_ret ?_
    exact ares rfl (HSub.refl _) ⟨by rw [cmpI, if_pos h1]; rfl, rfl⟩
  (rw [show decide (a < b) = false from decide_eq_false (by omega)])
  (repeat (first | refine st_q rfl rfl rfl ?_ | refine st_gy rfl (st_q rfl rfl rfl ?_) | refine st_gn rfl ?_ | refine st_gu rfl ?_ | (refine st_nil ?_; (repeat (first | refine kp_cons rfl ?_ | refine kp_skip ?_)); refine kp_nil ?_) | refine awp_seq ?_ | refine aw_end (fun _ _ => rfl) ?_ | refine awp_block ?_ | refine aw_skipE (fun _ _ => rfl) ?_ | refine aw_exitE (fun _ _ => rfl) ?_ | refine awp_cond (t := true) rfl (fun _ => ?_) (fun e => by cases e) | refine awp_cond (t := false) rfl (fun e => by cases e) (fun _ => ?_)))
  by_cases h2 : b < a
  · (rw [show decide (b < a) = true from decide_eq_true (by omega)])
    (repeat (first | refine st_q rfl rfl rfl ?_ | refine st_gy rfl (st_q rfl rfl rfl ?_) | refine st_gn rfl ?_ | refine st_gu rfl ?_ | (refine st_nil ?_; (repeat (first | refine kp_cons rfl ?_ | refine kp_skip ?_)); refine kp_nil ?_) | refine awp_seq ?_ | refine aw_end (fun _ _ => rfl) ?_ | refine awp_block ?_ | refine aw_skipE (fun _ _ => rfl) ?_ | refine aw_exitE (fun _ _ => rfl) ?_ | refine awp_cond (t := true) rfl (fun _ => ?_) (fun e => by cases e) | refine awp_cond (t := false) rfl (fun e => by cases e) (fun _ => ?_)))
    refine awp_ret ?_
    exact ares rfl (HSub.refl _) ⟨by rw [cmpI, if_neg h1, if_pos h2]; rfl, rfl⟩
  (rw [show decide (b < a) = false from decide_eq_false (by omega)])
  (repeat (first | refine st_q rfl rfl rfl ?_ | refine st_gy rfl (st_q rfl rfl rfl ?_) | refine st_gn rfl ?_ | refine st_gu rfl ?_ | (refine st_nil ?_; (repeat (first | refine kp_cons rfl ?_ | refine kp_skip ?_)); refine kp_nil ?_) | refine awp_seq ?_ | refine aw_end (fun _ _ => rfl) ?_ | refine awp_block ?_ | refine aw_skipE (fun _ _ => rfl) ?_ | refine aw_exitE (fun _ _ => rfl) ?_ | refine awp_cond (t := true) rfl (fun _ => ?_) (fun e => by cases e) | refine awp_cond (t := false) rfl (fun e => by cases e) (fun _ => ?_)))
  refine awp_ret ?_
  exact ares rfl (HSub.refl _) ⟨by rw [cmpI, if_neg h1, if_neg h2]; rfl, rfl⟩
theorem c_cmp (a b : Int) (σ : AHeap) : ACalls Try.prog f_cmp_Compare_int [.int .i64 a, .int .i64 b] σ fun r σ' => r = .int .i64 (cmpI a b) ∧ σ' = σ := by
  refine acalls_enter rfl cmp_Compare_int_ok (Nat.le_of_ble_eq_true rfl) ?_
  (repeat (first | refine st_q rfl rfl rfl ?_ | refine st_gy rfl (st_q rfl rfl rfl ?_) | refine st_gn rfl ?_ | refine st_gu rfl ?_ | (refine st_nil ?_; (repeat (first | refine kp_cons rfl ?_ | refine kp_skip ?_)); refine kp_nil ?_) | refine awp_seq ?_ | refine aw_end (fun _ _ => rfl) ?_ | refine awp_block ?_ | refine aw_skipE (fun _ _ => rfl) ?_ | refine aw_exitE (fun _ _ => rfl) ?_ | refine awp_cond (t := true) rfl (fun _ => ?_) (fun e => by cases e) | refine awp_cond (t := false) rfl (fun e => by cases e) (fun _ => ?_)))
  refine st_callv rfl (c_isNaN a _) ?_
  (repeat (first | refine st_q rfl rfl rfl ?_ | refine st_gy rfl (st_q rfl rfl rfl ?_) | refine st_gn rfl ?_ | refine st_gu rfl ?_ | (refine st_nil ?_; (repeat (first | refine kp_cons rfl ?_ | refine kp_skip ?_)); refine kp_nil ?_) | refine awp_seq ?_ | refine aw_end (fun _ _ => rfl) ?_ | refine awp_block ?_ | refine aw_skipE (fun _ _ => rfl) ?_ | refine aw_exitE (fun _ _ => rfl) ?_ | refine awp_cond (t := true) rfl (fun _ => ?_) (fun e => by cases e) | refine awp_cond (t := false) rfl (fun e => by cases e) (fun _ => ?_)))
  refine st_callv rfl (c_isNaN b _) ?_
  (repeat (first | refine st_q rfl rfl rfl ?_ | refine st_gy rfl (st_q rfl rfl rfl ?_) | refine st_gn rfl ?_ | refine st_gu rfl ?_ | (refine st_nil ?_; (repeat (first | refine kp_cons rfl ?_ | refine kp_skip ?_)); refine kp_nil ?_) | refine awp_seq ?_ | refine aw_end (fun _ _ => rfl) ?_ | refine awp_block ?_ | refine aw_skipE (fun _ _ => rfl) ?_ | refine aw_exitE (fun _ _ => rfl) ?_ | refine awp_cond (t := true) rfl (fun _ => ?_) (fun e => by cases e) | refine awp_cond (t := false) rfl (fun e => by cases e) (fun _ => ?_)))
  by_cases h1 : a < b
  · (rw [show decide (a < b) = true from decide_eq_true (by omega)])
    (repeat (first | refine st_q rfl rfl rfl ?_ | refine st_gy rfl (st_q rfl rfl rfl ?_) | refine st_gn rfl ?_ | refine st_gu rfl ?_ | (refine st_nil ?_; (repeat (first | refine kp_cons rfl ?_ | refine kp_skip ?_)); refine kp_nil ?_) | refine awp_seq ?_ | refine aw_end (fun _ _ => rfl) ?_ | refine awp_block ?_ | refine aw_skipE (fun _ _ => rfl) ?_ | refine aw_exitE (fun _ _ => rfl) ?_ | refine awp_cond (t := true) rfl (fun _ => ?_) (fun e => by cases e) | refine awp_cond (t := false) rfl (fun e => by cases e) (fun _ => ?_)))
    refine awp_ret ?_
    exact ares rfl (HSub.refl _) ⟨by rw [cmpI, if_pos h1]; rfl, rfl⟩
  (rw [show decide (a < b) = false from decide_eq_false (by omega)])
  (repeat (first | refine st_q rfl rfl rfl ?_ | refine st_gy rfl (st_q rfl rfl rfl ?_) | refine st_gn rfl ?_ | refine st_gu rfl ?_ | (refine st_nil ?_; (repeat (first | refine kp_cons rfl ?_ | refine kp_skip ?_)); refine kp_nil ?_) | refine awp_seq ?_ | refine aw_end (fun _ _ => rfl) ?_ | refine awp_block ?_ | refine aw_skipE (fun _ _ => rfl) ?_ | refine aw_exitE (fun _ _ => rfl) ?_ | refine awp_cond (t := true) rfl (fun _ => ?_) (fun e => by cases e) | refine awp_cond (t := false) rfl (fun e => by cases e) (fun _ => ?_)))
  by_cases h2 : b < a
  · (rw [show decide (b < a) = true from decide_eq_true (by omega)])
    (repeat (first | refine st_q rfl rfl rfl ?_ | refine st_gy rfl (st_q rfl rfl rfl ?_) | refine st_gn rfl ?_ | refine st_gu rfl ?_ | (refine st_nil ?_; (repeat (first | refine kp_cons rfl ?_ | refine kp_skip ?_)); refine kp_nil ?_) | refine awp_seq ?_ | refine aw_end (fun _ _ => rfl) ?_ | refine awp_block ?_ | refine aw_skipE (fun _ _ => rfl) ?_ | refine aw_exitE (fun _ _ => rfl) ?_ | refine awp_cond (t := true) rfl (fun _ => ?_) (fun e => by cases e) | refine awp_cond (t := false) rfl (fun e => by cases e) (fun _ => ?_)))
    refine awp_ret ?_
    exact ares rfl (HSub.refl _) ⟨by rw [cmpI, if_neg h1, if_pos h2]; rfl, rfl⟩
  (rw [show decide (b < a) = false from decide_eq_false (by omega)])
  (repeat (first | refine st_q rfl rfl rfl ?_ | refine st_gy rfl (st_q rfl rfl rfl ?_) | refine st_gn rfl ?_ | refine st_gu rfl ?_ | (refine st_nil ?_; (repeat (first | refine kp_cons rfl ?_ | refine kp_skip ?_)); refine kp_nil ?_) | refine awp_seq ?_ | refine aw_end (fun _ _ => rfl) ?_ | refine awp_block ?_ | refine aw_skipE (fun _ _ => rfl) ?_ | refine aw_exitE (fun _ _ => rfl) ?_ | refine awp_cond (t := true) rfl (fun _ => ?_) (fun e => by cases e) | refine awp_cond (t := false) rfl (fun e => by cases e) (fun _ => ?_)))
  refine awp_ret ?_
  exact ares rfl (HSub.refl _) ⟨by rw [cmpI, if_neg h1, if_neg h2]; rfl, rfl⟩

theorem c_Or (a b : Int) (σ : AHeap) : ACalls Try.prog f_cmp_Or_int [.slc 1 [.int .i64 a, .int .i64 b] true] σ fun r σ' => r = .int .i64 (if a ≠ 0 then a else b) ∧ σ' = σ := by
  refine acalls_enter rfl cmp_Or_int_ok (Nat.le_of_ble_eq_true rfl) ?_
  (repeat (first | refine st_q rfl rfl rfl ?_ | refine st_gy rfl (st_q rfl rfl rfl ?_) | refine st_gn rfl ?_ | refine st_gu rfl ?_ | (refine st_nil ?_; (repeat (first | refine kp_cons rfl ?_ | refine kp_skip ?_)); refine kp_nil ?_) | refine awp_seq ?_ | refine aw_end (fun _ _ => rfl) ?_ | refine awp_block ?_ | refine aw_skipE (fun _ _ => rfl) ?_ | refine aw_exitE (fun _ _ => rfl) ?_ | refine awp_cond (t := true) rfl (fun _ => ?_) (fun e => by cases e) | refine awp_cond (t := false) rfl (fun e => by cases e) (fun _ => ?_)))
  refine awp_loopN (fun m F σ' => ∃ (i : Nat), F = fset 3 (some (.int .i64 0)) (fset 6 (some (.slc 1 [.int .i64 a, .int .i64 b] true)) (fset 7 (some (.int .i64 2)) (fset 8 (some (.int .i64 (i : Int))) fnone))) ∧ σ = σ' ∧ i ≤ 2 ∧ (1 ≤ i → a = 0) ∧ (2 ≤ i → b = 0) ∧ m = 2 - i) (n := 2)
    ⟨0, rfl, rfl, by omega, fun h => absurd h (by omega), fun h => absurd h (by omega), rfl⟩ ?_
  rintro m F σ' ⟨i, rfl, rfl, hi, ha, hb, rfl⟩
  (repeat (first | refine st_q rfl rfl rfl ?_ | refine st_gy rfl (st_q rfl rfl rfl ?_) | refine st_gn rfl ?_ | refine st_gu rfl ?_ | (refine st_nil ?_; (repeat (first | refine kp_cons rfl ?_ | refine kp_skip ?_)); refine kp_nil ?_) | refine awp_seq ?_ | refine aw_end (fun _ _ => rfl) ?_ | refine awp_block ?_ | refine aw_skipE (fun _ _ => rfl) ?_ | refine aw_exitE (fun _ _ => rfl) ?_ | refine awp_cond (t := true) rfl (fun _ => ?_) (fun e => by cases e) | refine awp_cond (t := false) rfl (fun e => by cases e) (fun _ => ?_)))
  refine awp_condp (p := (i : Int) < 2) rfl (fun h3 => ?_) (fun h3 => ?_)
  · obtain ⟨x, hx, hxv⟩ : ∃ x : Int, [AVal.int .i64 a, .int .i64 b][(i : Int).toNat]? = some (.int .i64 x) ∧ x = (if i = 0 then a else b) := by
      rw [Int.toNat_natCast]
      rcases (by omega : i = 0 ∨ i = 1) with rfl | rfl
      · exact ⟨a, rfl, rfl⟩
      · exact ⟨b, rfl, rfl⟩
    (repeat (first | refine st_q rfl rfl rfl ?_ | refine st_gy rfl (st_q rfl rfl rfl ?_) | refine st_gn rfl ?_ | refine st_gu rfl ?_ | (refine st_nil ?_; (repeat (first | refine kp_cons rfl ?_ | refine kp_skip ?_)); refine kp_nil ?_) | refine awp_seq ?_ | refine aw_end (fun _ _ => rfl) ?_ | refine awp_block ?_ | refine aw_skipE (fun _ _ => rfl) ?_ | refine aw_exitE (fun _ _ => rfl) ?_ | refine awp_cond (t := true) rfl (fun _ => ?_) (fun e => by cases e) | refine awp_cond (t := false) rfl (fun e => by cases e) (fun _ => ?_)))
    refine st_iad rfl (by omega) hx ?_
    (repeat (first | refine st_q rfl rfl rfl ?_ | refine st_gy rfl (st_q rfl rfl rfl ?_) | refine st_gn rfl ?_ | refine st_gu rfl ?_ | (refine st_nil ?_; (repeat (first | refine kp_cons rfl ?_ | refine kp_skip ?_)); refine kp_nil ?_) | refine awp_seq ?_ | refine aw_end (fun _ _ => rfl) ?_ | refine awp_block ?_ | refine aw_skipE (fun _ _ => rfl) ?_ | refine aw_exitE (fun _ _ => rfl) ?_ | refine awp_cond (t := true) rfl (fun _ => ?_) (fun e => by cases e) | refine awp_cond (t := false) rfl (fun e => by cases e) (fun _ => ?_)))
    by_cases h4 : x = 0
    · (rw [show decide (x ≠ 0) = false from decide_eq_false (by omega)])
      (repeat (first | refine st_q rfl rfl rfl ?_ | refine st_gy rfl (st_q rfl rfl rfl ?_) | refine st_gn rfl ?_ | refine st_gu rfl ?_ | (refine st_nil ?_; (repeat (first | refine kp_cons rfl ?_ | refine kp_skip ?_)); refine kp_nil ?_) | refine awp_seq ?_ | refine aw_end (fun _ _ => rfl) ?_ | refine awp_block ?_ | refine aw_skipE (fun _ _ => rfl) ?_ | refine aw_exitE (fun _ _ => rfl) ?_ | refine awp_cond (t := true) rfl (fun _ => ?_) (fun e => by cases e) | refine awp_cond (t := false) rfl (fun e => by cases e) (fun _ => ?_)))
      refine aw_round ?_
      (repeat (refine st_q rfl rfl rfl ?_))
      rw [show IntKind.wrap .i64 ((i : Int) + 1) = ((i + 1 : Nat) : Int) by rw [w64 _ (by omega) (by omega)]; omega]
      (refine st_nil ?_; (repeat (first | refine kp_cons rfl ?_ | refine kp_skip ?_)); refine kp_nil ?_)
      refine ⟨_, 2 - (i + 1), HSub.refl _, ⟨i + 1, rfl, rfl, by omega, fun _ => ?_, fun h => ?_, rfl⟩, by omega⟩
      · rcases (by omega : i = 0 ∨ i = 1) with rfl | rfl
        · simpa [h4] using hxv.symm
        · exact ha (by omega)
      · rw [if_neg (by omega)] at hxv; omega
    · (rw [show decide (x ≠ 0) = true from decide_eq_true (by omega)])
      (repeat (first | refine st_q rfl rfl rfl ?_ | refine st_gy rfl (st_q rfl rfl rfl ?_) | refine st_gn rfl ?_ | refine st_gu rfl ?_ | (refine st_nil ?_; (repeat (first | refine kp_cons rfl ?_ | refine kp_skip ?_)); refine kp_nil ?_) | refine awp_seq ?_ | refine aw_end (fun _ _ => rfl) ?_ | refine awp_block ?_ | refine aw_skipE (fun _ _ => rfl) ?_ | refine aw_exitE (fun _ _ => rfl) ?_ | refine awp_cond (t := true) rfl (fun _ => ?_) (fun e => by cases e) | refine awp_cond (t := false) rfl (fun e => by cases e) (fun _ => ?_)))
      refine awp_ret ?_
      refine ares rfl (HSub.refl _) ⟨?_, rfl⟩
      simp only [tupOf]
      congr 1
      rcases (by omega : i = 0 ∨ i = 1) with rfl | rfl
      · rw [if_pos rfl] at hxv; rw [if_pos (by omega)]; exact hxv
      · rw [if_neg (by omega)] at hxv; rw [if_neg (by rw [ha (by omega)]; simp)]; exact hxv
  · (repeat (first | refine st_q rfl rfl rfl ?_ | refine st_gy rfl (st_q rfl rfl rfl ?_) | refine st_gn rfl ?_ | refine st_gu rfl ?_ | (refine st_nil ?_; (repeat (first | refine kp_cons rfl ?_ | refine kp_skip ?_)); refine kp_nil ?_) | refine awp_seq ?_ | refine aw_end (fun _ _ => rfl) ?_ | refine awp_block ?_ | refine aw_skipE (fun _ _ => rfl) ?_ | refine aw_exitE (fun _ _ => rfl) ?_ | refine awp_cond (t := true) rfl (fun _ => ?_) (fun e => by cases e) | refine awp_cond (t := false) rfl (fun e => by cases e) (fun _ => ?_)))
    refine awp_ret ?_
    exact ares rfl (HSub.refl _) ⟨by rw [ha (by omega), hb (by omega)]; rfl, rfl⟩

theorem c_text (k : Int) (σ : AHeap) : ACalls Try.prog f_value_text [.int .i64 k] σ fun r σ' => r = .bool (textF k) ∧ σ' = σ := by
  refine acalls_enter rfl value_text_ok (Nat.le_of_ble_eq_true rfl) ?_
  by_cases h7 : k = 7
  · subst h7; (repeat (first | refine st_q rfl rfl rfl ?_ | refine st_gy rfl (st_q rfl rfl rfl ?_) | refine st_gn rfl ?_ | refine st_gu rfl ?_ | (refine st_nil ?_; (repeat (first | refine kp_cons rfl ?_ | refine kp_skip ?_)); refine kp_nil ?_) | refine awp_seq ?_ | refine aw_end (fun _ _ => rfl) ?_ | refine awp_block ?_ | refine aw_skipE (fun _ _ => rfl) ?_ | refine aw_exitE (fun _ _ => rfl) ?_ | refine awp_cond (t := true) rfl (fun _ => ?_) (fun e => by cases e) | refine awp_cond (t := false) rfl (fun e => by cases e) (fun _ => ?_))); refine awp_ret ?_; exact ares rfl (HSub.refl _) ⟨rfl, rfl⟩
  by_cases h16 : k = 16
  · subst h16; (repeat (first | refine st_q rfl rfl rfl ?_ | refine st_gy rfl (st_q rfl rfl rfl ?_) | refine st_gn rfl ?_ | refine st_gu rfl ?_ | (refine st_nil ?_; (repeat (first | refine kp_cons rfl ?_ | refine kp_skip ?_)); refine kp_nil ?_) | refine awp_seq ?_ | refine aw_end (fun _ _ => rfl) ?_ | refine awp_block ?_ | refine aw_skipE (fun _ _ => rfl) ?_ | refine aw_exitE (fun _ _ => rfl) ?_ | refine awp_cond (t := true) rfl (fun _ => ?_) (fun e => by cases e) | refine awp_cond (t := false) rfl (fun e => by cases e) (fun _ => ?_))); refine awp_ret ?_; exact ares rfl (HSub.refl _) ⟨rfl, rfl⟩
  by_cases h17 : k = 17
  · subst h17; (repeat (first | refine st_q rfl rfl rfl ?_ | refine st_gy rfl (st_q rfl rfl rfl ?_) | refine st_gn rfl ?_ | refine st_gu rfl ?_ | (refine st_nil ?_; (repeat (first | refine kp_cons rfl ?_ | refine kp_skip ?_)); refine kp_nil ?_) | refine awp_seq ?_ | refine aw_end (fun _ _ => rfl) ?_ | refine awp_block ?_ | refine aw_skipE (fun _ _ => rfl) ?_ | refine aw_exitE (fun _ _ => rfl) ?_ | refine awp_cond (t := true) rfl (fun _ => ?_) (fun e => by cases e) | refine awp_cond (t := false) rfl (fun e => by cases e) (fun _ => ?_))); refine awp_ret ?_; exact ares rfl (HSub.refl _) ⟨rfl, rfl⟩
  by_cases h8 : k = 8
  · subst h8; (repeat (first | refine st_q rfl rfl rfl ?_ | refine st_gy rfl (st_q rfl rfl rfl ?_) | refine st_gn rfl ?_ | refine st_gu rfl ?_ | (refine st_nil ?_; (repeat (first | refine kp_cons rfl ?_ | refine kp_skip ?_)); refine kp_nil ?_) | refine awp_seq ?_ | refine aw_end (fun _ _ => rfl) ?_ | refine awp_block ?_ | refine aw_skipE (fun _ _ => rfl) ?_ | refine aw_exitE (fun _ _ => rfl) ?_ | refine awp_cond (t := true) rfl (fun _ => ?_) (fun e => by cases e) | refine awp_cond (t := false) rfl (fun e => by cases e) (fun _ => ?_))); refine awp_ret ?_; exact ares rfl (HSub.refl _) ⟨rfl, rfl⟩
  (repeat (first | refine st_q rfl rfl rfl ?_ | refine st_gy rfl (st_q rfl rfl rfl ?_) | refine st_gn rfl ?_ | refine st_gu rfl ?_ | (refine st_nil ?_; (repeat (first | refine kp_cons rfl ?_ | refine kp_skip ?_)); refine kp_nil ?_) | refine awp_seq ?_ | refine aw_end (fun _ _ => rfl) ?_ | refine awp_block ?_ | refine aw_skipE (fun _ _ => rfl) ?_ | refine aw_exitE (fun _ _ => rfl) ?_ | refine awp_cond (t := true) rfl (fun _ => ?_) (fun e => by cases e) | refine awp_cond (t := false) rfl (fun e => by cases e) (fun _ => ?_)))
  (rw [show decide (k = 7) = false from decide_eq_false (by omega)])
  (repeat (first | refine st_q rfl rfl rfl ?_ | refine st_gy rfl (st_q rfl rfl rfl ?_) | refine st_gn rfl ?_ | refine st_gu rfl ?_ | (refine st_nil ?_; (repeat (first | refine kp_cons rfl ?_ | refine kp_skip ?_)); refine kp_nil ?_) | refine awp_seq ?_ | refine aw_end (fun _ _ => rfl) ?_ | refine awp_block ?_ | refine aw_skipE (fun _ _ => rfl) ?_ | refine aw_exitE (fun _ _ => rfl) ?_ | refine awp_cond (t := true) rfl (fun _ => ?_) (fun e => by cases e) | refine awp_cond (t := false) rfl (fun e => by cases e) (fun _ => ?_)))
  (rw [show decide (k = 8) = false from decide_eq_false (by omega)])
  (repeat (first | refine st_q rfl rfl rfl ?_ | refine st_gy rfl (st_q rfl rfl rfl ?_) | refine st_gn rfl ?_ | refine st_gu rfl ?_ | (refine st_nil ?_; (repeat (first | refine kp_cons rfl ?_ | refine kp_skip ?_)); refine kp_nil ?_) | refine awp_seq ?_ | refine aw_end (fun _ _ => rfl) ?_ | refine awp_block ?_ | refine aw_skipE (fun _ _ => rfl) ?_ | refine aw_exitE (fun _ _ => rfl) ?_ | refine awp_cond (t := true) rfl (fun _ => ?_) (fun e => by cases e) | refine awp_cond (t := false) rfl (fun e => by cases e) (fun _ => ?_)))
  (rw [show decide (k = 16) = false from decide_eq_false (by omega)])
  (repeat (first | refine st_q rfl rfl rfl ?_ | refine st_gy rfl (st_q rfl rfl rfl ?_) | refine st_gn rfl ?_ | refine st_gu rfl ?_ | (refine st_nil ?_; (repeat (first | refine kp_cons rfl ?_ | refine kp_skip ?_)); refine kp_nil ?_) | refine awp_seq ?_ | refine aw_end (fun _ _ => rfl) ?_ | refine awp_block ?_ | refine aw_skipE (fun _ _ => rfl) ?_ | refine aw_exitE (fun _ _ => rfl) ?_ | refine awp_cond (t := true) rfl (fun _ => ?_) (fun e => by cases e) | refine awp_cond (t := false) rfl (fun e => by cases e) (fun _ => ?_)))
  (rw [show decide (k = 17) = false from decide_eq_false (by omega)])
  (repeat (first | refine st_q rfl rfl rfl ?_ | refine st_gy rfl (st_q rfl rfl rfl ?_) | refine st_gn rfl ?_ | refine st_gu rfl ?_ | (refine st_nil ?_; (repeat (first | refine kp_cons rfl ?_ | refine kp_skip ?_)); refine kp_nil ?_) | refine awp_seq ?_ | refine aw_end (fun _ _ => rfl) ?_ | refine awp_block ?_ | refine aw_skipE (fun _ _ => rfl) ?_ | refine aw_exitE (fun _ _ => rfl) ?_ | refine awp_cond (t := true) rfl (fun _ => ?_) (fun e => by cases e) | refine awp_cond (t := false) rfl (fun e => by cases e) (fun _ => ?_)))
  refine awp_ret ?_
  exact ares rfl (HSub.refl _) ⟨by simp [textF, tupOf, h7, h16, h17, h8], rfl⟩

theorem c_Compare (t : List AVal) (k : Int) (ht : t.length = 6) (hk : t[0]? = some (.int .i64 k)) (ht1 : ∀ c ∈ t, c.one = true) (a b : Vl) (σ : AHeap) : ACalls Try.prog f_value_Compare [.agg t, encV a, encV b] σ fun r σ' => r = .tup [.int .i64 (cmpV k a b).1, .bool (cmpV k a b).2] ∧ σ' = σ := by
  match t, ht with
  | [t0, t1, t2, t3, t4, t5], _ =>
  simp only [List.getElem?_cons_zero, Option.some.injEq] at hk
  subst hk
  obtain ⟨an, ai, a_n, ab, ak⟩ := a
  obtain ⟨bn, bi, b_n, bb, bk⟩ := b
  simp only [encV]
  refine acalls_enter rfl value_Compare_ok (Nat.le_of_ble_eq_true rfl) ?_
  refine aw_region ?_
  refine st_box rfl ⟨rfl, ht1⟩ fun b1 hb1 => ?_
  refine st_box rfl (AVal.fit_iff.1 rfl) fun b2 hb2 => ?_
  refine st_box rfl (AVal.fit_iff.1 rfl) fun b3 hb3 => ?_
  (repeat (refine st_q rfl rfl rfl ?_))
  (refine st_nil ?_; (repeat (first | refine kp_cons rfl ?_ | refine kp_skip ?_)); refine kp_nil ?_)
  refine awp_freezeP (d := 5) (cs := [.bool bn, .int .i64 bi, .int .i64 b_n, .slc 1 (bytes bb) false, .slc 5 (encVs bk) false]) rfl ?_
  refine awp_freezeP (d := 4) (cs := [.bool an, .int .i64 ai, .int .i64 a_n, .slc 1 (bytes ab) false, .slc 5 (encVs ak) false]) rfl ?_
  refine awp_freezeP (d := 3) (cs := [.int .i64 k, t1, t2, t3, t4, t5]) rfl ?_
  (repeat (first | refine st_q rfl rfl rfl ?_ | refine st_gy rfl (st_q rfl rfl rfl ?_) | refine st_gn rfl ?_ | refine st_gu rfl ?_ | (refine st_nil ?_; (repeat (first | refine kp_cons rfl ?_ | refine kp_skip ?_)); refine kp_nil ?_) | refine awp_seq ?_ | refine aw_end (fun _ _ => rfl) ?_ | refine awp_block ?_ | refine aw_skipE (fun _ _ => rfl) ?_ | refine aw_exitE (fun _ _ => rfl) ?_ | refine awp_cond (t := true) rfl (fun _ => ?_) (fun e => by cases e) | refine awp_cond (t := false) rfl (fun e => by cases e) (fun _ => ?_)))
  refine st_callv rfl (c_Leaf k _) ?_
  cases hl : leafF k with
  | false =>
    (repeat (first | refine st_q rfl rfl rfl ?_ | refine st_gy rfl (st_q rfl rfl rfl ?_) | refine st_gn rfl ?_ | refine st_gu rfl ?_ | (refine st_nil ?_; (repeat (first | refine kp_cons rfl ?_ | refine kp_skip ?_)); refine kp_nil ?_) | refine awp_seq ?_ | refine aw_end (fun _ _ => rfl) ?_ | refine awp_block ?_ | refine aw_skipE (fun _ _ => rfl) ?_ | refine aw_exitE (fun _ _ => rfl) ?_ | refine awp_cond (t := true) rfl (fun _ => ?_) (fun e => by cases e) | refine awp_cond (t := false) rfl (fun e => by cases e) (fun _ => ?_)))
    refine awp_ret ?_
    exact ares rfl (HSub.refl _) ⟨by rw [cmpV, if_pos (.inl hl)]; rfl, rfl⟩
  | true =>
    cases an with
    | true =>
      (repeat (first | refine st_q rfl rfl rfl ?_ | refine st_gy rfl (st_q rfl rfl rfl ?_) | refine st_gn rfl ?_ | refine st_gu rfl ?_ | (refine st_nil ?_; (repeat (first | refine kp_cons rfl ?_ | refine kp_skip ?_)); refine kp_nil ?_) | refine awp_seq ?_ | refine aw_end (fun _ _ => rfl) ?_ | refine awp_block ?_ | refine aw_skipE (fun _ _ => rfl) ?_ | refine aw_exitE (fun _ _ => rfl) ?_ | refine awp_cond (t := true) rfl (fun _ => ?_) (fun e => by cases e) | refine awp_cond (t := false) rfl (fun e => by cases e) (fun _ => ?_)))
      refine awp_ret ?_
      exact ares rfl (HSub.refl _) ⟨by rw [cmpV, if_pos (.inr (.inl rfl))]; rfl, rfl⟩
    | false =>
      cases bn with
      | true =>
        (repeat (first | refine st_q rfl rfl rfl ?_ | refine st_gy rfl (st_q rfl rfl rfl ?_) | refine st_gn rfl ?_ | refine st_gu rfl ?_ | (refine st_nil ?_; (repeat (first | refine kp_cons rfl ?_ | refine kp_skip ?_)); refine kp_nil ?_) | refine awp_seq ?_ | refine aw_end (fun _ _ => rfl) ?_ | refine awp_block ?_ | refine aw_skipE (fun _ _ => rfl) ?_ | refine aw_exitE (fun _ _ => rfl) ?_ | refine awp_cond (t := true) rfl (fun _ => ?_) (fun e => by cases e) | refine awp_cond (t := false) rfl (fun e => by cases e) (fun _ => ?_)))
        refine awp_ret ?_
        exact ares rfl (HSub.refl _) ⟨by rw [cmpV, if_pos (.inr (.inr rfl))]; rfl, rfl⟩
      | false =>
        have hc : ¬ (leafF k = false ∨ (Vl.mk false ai a_n ab ak).null = true ∨ (Vl.mk false bi b_n bb bk).null = true) := by simp [hl, Vl.null]
        rw [cmpV, if_neg hc]
        (repeat (first | refine st_q rfl rfl rfl ?_ | refine st_gy rfl (st_q rfl rfl rfl ?_) | refine st_gn rfl ?_ | refine st_gu rfl ?_ | (refine st_nil ?_; (repeat (first | refine kp_cons rfl ?_ | refine kp_skip ?_)); refine kp_nil ?_) | refine awp_seq ?_ | refine aw_end (fun _ _ => rfl) ?_ | refine awp_block ?_ | refine aw_skipE (fun _ _ => rfl) ?_ | refine aw_exitE (fun _ _ => rfl) ?_ | refine awp_cond (t := true) rfl (fun _ => ?_) (fun e => by cases e) | refine awp_cond (t := false) rfl (fun e => by cases e) (fun _ => ?_)))
        refine st_callv rfl (c_text k _) ?_
        cases ht : textF k with
        | true =>
          (repeat (first | refine st_q rfl rfl rfl ?_ | refine st_gy rfl (st_q rfl rfl rfl ?_) | refine st_gn rfl ?_ | refine st_gu rfl ?_ | (refine st_nil ?_; (repeat (first | refine kp_cons rfl ?_ | refine kp_skip ?_)); refine kp_nil ?_) | refine awp_seq ?_ | refine aw_end (fun _ _ => rfl) ?_ | refine awp_block ?_ | refine aw_skipE (fun _ _ => rfl) ?_ | refine aw_exitE (fun _ _ => rfl) ?_ | refine awp_cond (t := true) rfl (fun _ => ?_) (fun e => by cases e) | refine awp_cond (t := false) rfl (fun e => by cases e) (fun _ => ?_)))
          refine st_callv rfl (c_bytesCompare ab bb false false _) ?_
          (repeat (first | refine st_q rfl rfl rfl ?_ | refine st_gy rfl (st_q rfl rfl rfl ?_) | refine st_gn rfl ?_ | refine st_gu rfl ?_ | (refine st_nil ?_; (repeat (first | refine kp_cons rfl ?_ | refine kp_skip ?_)); refine kp_nil ?_) | refine awp_seq ?_ | refine aw_end (fun _ _ => rfl) ?_ | refine awp_block ?_ | refine aw_skipE (fun _ _ => rfl) ?_ | refine aw_exitE (fun _ _ => rfl) ?_ | refine awp_cond (t := true) rfl (fun _ => ?_) (fun e => by cases e) | refine awp_cond (t := false) rfl (fun e => by cases e) (fun _ => ?_)))
          refine awp_ret ?_
          exact ares rfl (HSub.refl _) ⟨rfl, rfl⟩
        | false =>
          (repeat (first | refine st_q rfl rfl rfl ?_ | refine st_gy rfl (st_q rfl rfl rfl ?_) | refine st_gn rfl ?_ | refine st_gu rfl ?_ | (refine st_nil ?_; (repeat (first | refine kp_cons rfl ?_ | refine kp_skip ?_)); refine kp_nil ?_) | refine awp_seq ?_ | refine aw_end (fun _ _ => rfl) ?_ | refine awp_block ?_ | refine aw_skipE (fun _ _ => rfl) ?_ | refine aw_exitE (fun _ _ => rfl) ?_ | refine awp_cond (t := true) rfl (fun _ => ?_) (fun e => by cases e) | refine awp_cond (t := false) rfl (fun e => by cases e) (fun _ => ?_)))
          refine st_callp rfl (c_cmp64 ai bi) ?_
          (repeat (first | refine st_q rfl rfl rfl ?_ | refine st_gy rfl (st_q rfl rfl rfl ?_) | refine st_gn rfl ?_ | refine st_gu rfl ?_ | (refine st_nil ?_; (repeat (first | refine kp_cons rfl ?_ | refine kp_skip ?_)); refine kp_nil ?_) | refine awp_seq ?_ | refine aw_end (fun _ _ => rfl) ?_ | refine awp_block ?_ | refine aw_skipE (fun _ _ => rfl) ?_ | refine aw_exitE (fun _ _ => rfl) ?_ | refine awp_cond (t := true) rfl (fun _ => ?_) (fun e => by cases e) | refine awp_cond (t := false) rfl (fun e => by cases e) (fun _ => ?_)))
          refine st_callv rfl (c_cmp a_n b_n _) ?_
          (repeat (first | refine st_q rfl rfl rfl ?_ | refine st_gy rfl (st_q rfl rfl rfl ?_) | refine st_gn rfl ?_ | refine st_gu rfl ?_ | (refine st_nil ?_; (repeat (first | refine kp_cons rfl ?_ | refine kp_skip ?_)); refine kp_nil ?_) | refine awp_seq ?_ | refine aw_end (fun _ _ => rfl) ?_ | refine awp_block ?_ | refine aw_skipE (fun _ _ => rfl) ?_ | refine aw_exitE (fun _ _ => rfl) ?_ | refine awp_cond (t := true) rfl (fun _ => ?_) (fun e => by cases e) | refine awp_cond (t := false) rfl (fun e => by cases e) (fun _ => ?_)))
          refine st_callv rfl (c_Or _ _ _) ?_
          (repeat (first | refine st_q rfl rfl rfl ?_ | refine st_gy rfl (st_q rfl rfl rfl ?_) | refine st_gn rfl ?_ | refine st_gu rfl ?_ | (refine st_nil ?_; (repeat (first | refine kp_cons rfl ?_ | refine kp_skip ?_)); refine kp_nil ?_) | refine awp_seq ?_ | refine aw_end (fun _ _ => rfl) ?_ | refine awp_block ?_ | refine aw_skipE (fun _ _ => rfl) ?_ | refine aw_exitE (fun _ _ => rfl) ?_ | refine awp_cond (t := true) rfl (fun _ => ?_) (fun e => by cases e) | refine awp_cond (t := false) rfl (fun e => by cases e) (fun _ => ?_)))
          refine awp_ret ?_
          exact ares rfl (HSub.refl _) ⟨rfl, rfl⟩
end Go.Abs

/- Contracts: slices.Clip, slices.Clone of bytes, values; value.Clone. -/
namespace Go.Abs
open Go Go.Proofs
set_option linter.unusedVariables false
set_option linter.unusedSimpArgs false
set_option maxHeartbeats 4000000
attribute [local irreducible] AWp aops KP

theorem c_Clip_byte_byte (xs : List AVal) (f : Bool) (σ : AHeap) : ACalls Try.prog f_slices_Clip_byte_byte [.slc 1 xs f] σ fun r σ' => r = .slc 1 xs true ∧ σ' = σ := by
  refine acalls_enter rfl slices_Clip_byte_byte_ok (Nat.le_of_ble_eq_true rfl) ?_
  (repeat (first | refine st_q rfl rfl rfl ?_ | refine st_gy rfl (st_q rfl rfl rfl ?_) | refine st_gn rfl ?_ | refine st_gu rfl ?_ | (refine st_nil ?_; (repeat (first | refine kp_cons rfl ?_ | refine kp_skip ?_)); refine kp_nil ?_) | refine awp_seq ?_ | refine aw_end (fun _ _ => rfl) ?_ | refine awp_block ?_ | refine aw_skipE (fun _ _ => rfl) ?_ | refine aw_exitE (fun _ _ => rfl) ?_ | refine awp_cond (t := true) rfl (fun _ => ?_) (fun e => by cases e) | refine awp_cond (t := false) rfl (fun e => by cases e) (fun _ => ?_)))
  refine st_clip_slc rfl (by omega) (by omega) ?_
  rw [Int.toNat_natCast, List.take_length]
  (repeat (first | refine st_q rfl rfl rfl ?_ | refine st_gy rfl (st_q rfl rfl rfl ?_) | refine st_gn rfl ?_ | refine st_gu rfl ?_ | (refine st_nil ?_; (repeat (first | refine kp_cons rfl ?_ | refine kp_skip ?_)); refine kp_nil ?_) | refine awp_seq ?_ | refine aw_end (fun _ _ => rfl) ?_ | refine awp_block ?_ | refine aw_skipE (fun _ _ => rfl) ?_ | refine aw_exitE (fun _ _ => rfl) ?_ | refine awp_cond (t := true) rfl (fun _ => ?_) (fun e => by cases e) | refine awp_cond (t := false) rfl (fun e => by cases e) (fun _ => ?_)))
  refine awp_ret ?_
  exact ares rfl (HSub.refl _) ⟨rfl, rfl⟩
theorem c_ClipG_byte_byte {v : AVal} {xs : List AVal} {β : AHeap} (ho : GrowG 1 v xs β) (σ : AHeap) : ACalls Try.prog f_slices_Clip_byte_byte [v] (β ++ σ) fun r σ' => r = .slc 1 xs true ∧ σ' = σ := by
  rcases ho with ⟨⟨z, rfl⟩, rfl, rfl⟩ | ⟨b, rfl, rfl⟩
  · exact ACalls.args (VRle.nil_slc z 1 true) (c_Clip_byte_byte [] true σ)
  refine acalls_enter rfl slices_Clip_byte_byte_ok (Nat.le_of_ble_eq_true rfl) ?_
  (repeat (first | refine st_q rfl rfl rfl ?_ | refine st_gy rfl (st_q rfl rfl rfl ?_) | refine st_gn rfl ?_ | refine st_gu rfl ?_ | (refine st_nil ?_; (repeat (first | refine kp_cons rfl ?_ | refine kp_skip ?_)); refine kp_nil ?_) | refine awp_seq ?_ | refine aw_end (fun _ _ => rfl) ?_ | refine awp_block ?_ | refine aw_skipE (fun _ _ => rfl) ?_ | refine aw_exitE (fun _ _ => rfl) ?_ | refine awp_cond (t := true) rfl (fun _ => ?_) (fun e => by cases e) | refine awp_cond (t := false) rfl (fun e => by cases e) (fun _ => ?_)))
  refine st_clip rfl hget_head (by omega) (by omega) (by omega) hdel_head ?_
  rw [List.drop_zero, Int.toNat_natCast, List.take_length]
  (repeat (first | refine st_q rfl rfl rfl ?_ | refine st_gy rfl (st_q rfl rfl rfl ?_) | refine st_gn rfl ?_ | refine st_gu rfl ?_ | (refine st_nil ?_; (repeat (first | refine kp_cons rfl ?_ | refine kp_skip ?_)); refine kp_nil ?_) | refine awp_seq ?_ | refine aw_end (fun _ _ => rfl) ?_ | refine awp_block ?_ | refine aw_skipE (fun _ _ => rfl) ?_ | refine aw_exitE (fun _ _ => rfl) ?_ | refine awp_cond (t := true) rfl (fun _ => ?_) (fun e => by cases e) | refine awp_cond (t := false) rfl (fun e => by cases e) (fun _ => ?_)))
  refine awp_ret ?_
  exact ares rfl (HSub.refl _) ⟨rfl, rfl⟩

theorem c_Clip_api_Value_api_Value (xs : List AVal) (f : Bool) (σ : AHeap) : ACalls Try.prog f_slices_Clip_api_Value_api_Value [.slc 5 xs f] σ fun r σ' => r = .slc 5 xs true ∧ σ' = σ := by
  refine acalls_enter rfl slices_Clip_api_Value_api_Value_ok (Nat.le_of_ble_eq_true rfl) ?_
  (repeat (first | refine st_q rfl rfl rfl ?_ | refine st_gy rfl (st_q rfl rfl rfl ?_) | refine st_gn rfl ?_ | refine st_gu rfl ?_ | (refine st_nil ?_; (repeat (first | refine kp_cons rfl ?_ | refine kp_skip ?_)); refine kp_nil ?_) | refine awp_seq ?_ | refine aw_end (fun _ _ => rfl) ?_ | refine awp_block ?_ | refine aw_skipE (fun _ _ => rfl) ?_ | refine aw_exitE (fun _ _ => rfl) ?_ | refine awp_cond (t := true) rfl (fun _ => ?_) (fun e => by cases e) | refine awp_cond (t := false) rfl (fun e => by cases e) (fun _ => ?_)))
  refine st_clip_slc rfl (by omega) (by omega) ?_
  rw [Int.toNat_natCast, List.take_length]
  (repeat (first | refine st_q rfl rfl rfl ?_ | refine st_gy rfl (st_q rfl rfl rfl ?_) | refine st_gn rfl ?_ | refine st_gu rfl ?_ | (refine st_nil ?_; (repeat (first | refine kp_cons rfl ?_ | refine kp_skip ?_)); refine kp_nil ?_) | refine awp_seq ?_ | refine aw_end (fun _ _ => rfl) ?_ | refine awp_block ?_ | refine aw_skipE (fun _ _ => rfl) ?_ | refine aw_exitE (fun _ _ => rfl) ?_ | refine awp_cond (t := true) rfl (fun _ => ?_) (fun e => by cases e) | refine awp_cond (t := false) rfl (fun e => by cases e) (fun _ => ?_)))
  refine awp_ret ?_
  exact ares rfl (HSub.refl _) ⟨rfl, rfl⟩
theorem c_ClipG_api_Value_api_Value {v : AVal} {xs : List AVal} {β : AHeap} (ho : GrowG 5 v xs β) (σ : AHeap) : ACalls Try.prog f_slices_Clip_api_Value_api_Value [v] (β ++ σ) fun r σ' => r = .slc 5 xs true ∧ σ' = σ := by
  rcases ho with ⟨⟨z, rfl⟩, rfl, rfl⟩ | ⟨b, rfl, rfl⟩
  · exact ACalls.args (VRle.nil_slc z 5 true) (c_Clip_api_Value_api_Value [] true σ)
  refine acalls_enter rfl slices_Clip_api_Value_api_Value_ok (Nat.le_of_ble_eq_true rfl) ?_
  (repeat (first | refine st_q rfl rfl rfl ?_ | refine st_gy rfl (st_q rfl rfl rfl ?_) | refine st_gn rfl ?_ | refine st_gu rfl ?_ | (refine st_nil ?_; (repeat (first | refine kp_cons rfl ?_ | refine kp_skip ?_)); refine kp_nil ?_) | refine awp_seq ?_ | refine aw_end (fun _ _ => rfl) ?_ | refine awp_block ?_ | refine aw_skipE (fun _ _ => rfl) ?_ | refine aw_exitE (fun _ _ => rfl) ?_ | refine awp_cond (t := true) rfl (fun _ => ?_) (fun e => by cases e) | refine awp_cond (t := false) rfl (fun e => by cases e) (fun _ => ?_)))
  refine st_clip rfl hget_head (by omega) (by omega) (by omega) hdel_head ?_
  rw [List.drop_zero, Int.toNat_natCast, List.take_length]
  (repeat (first | refine st_q rfl rfl rfl ?_ | refine st_gy rfl (st_q rfl rfl rfl ?_) | refine st_gn rfl ?_ | refine st_gu rfl ?_ | (refine st_nil ?_; (repeat (first | refine kp_cons rfl ?_ | refine kp_skip ?_)); refine kp_nil ?_) | refine awp_seq ?_ | refine aw_end (fun _ _ => rfl) ?_ | refine awp_block ?_ | refine aw_skipE (fun _ _ => rfl) ?_ | refine aw_exitE (fun _ _ => rfl) ?_ | refine awp_cond (t := true) rfl (fun _ => ?_) (fun e => by cases e) | refine awp_cond (t := false) rfl (fun e => by cases e) (fun _ => ?_)))
  refine awp_ret ?_
  exact ares rfl (HSub.refl _) ⟨rfl, rfl⟩

theorem c_Clone_byte_byte (xs : List AVal) (f : Bool) (he : ∀ x ∈ xs, x.elem 1) (hb : xs.length * 1 ≤ 140737488355328) (σ : AHeap) : ACalls Try.prog f_slices_Clone_byte_byte [.slc 1 xs f] σ fun r σ' => r = .slc 1 xs false ∧ σ' = σ := by
  refine acalls_enter rfl slices_Clone_byte_byte_ok (Nat.le_of_ble_eq_true rfl) ?_
  have key : ∀ t : Bool, (t = true → xs = []) → AWp Try.prog slices_Clone_byte_byte.n (.cond (.t 4) (.seq (.region slices_Clone_byte_byte_r2 [2]) .ret) .skip) (AThen Try.prog slices_Clone_byte_byte.n (slices_Clone_byte_byte.code.snd 2) (ARet slices_Clone_byte_byte.res fun r σ' => r = .slc 1 xs false ∧ σ' = σ))
      (fset 0 (some (.slc 1 xs f)) (fset 4 (some (.bool t)) fnone)) σ := by
    intro t ht
    cases t with
    | true =>
      (repeat (first | refine st_q rfl rfl rfl ?_ | refine st_gy rfl (st_q rfl rfl rfl ?_) | refine st_gn rfl ?_ | refine st_gu rfl ?_ | (refine st_nil ?_; (repeat (first | refine kp_cons rfl ?_ | refine kp_skip ?_)); refine kp_nil ?_) | refine awp_seq ?_ | refine aw_end (fun _ _ => rfl) ?_ | refine awp_block ?_ | refine aw_skipE (fun _ _ => rfl) ?_ | refine aw_exitE (fun _ _ => rfl) ?_ | refine awp_cond (t := true) rfl (fun _ => ?_) (fun e => by cases e) | refine awp_cond (t := false) rfl (fun e => by cases e) (fun _ => ?_)))
      refine awp_ret ?_
      refine ares_v rfl ?_ (HSub.refl _) ⟨rfl, rfl⟩
      rw [ht rfl]
      exact VRle.trans (VRle.nil_slc 0 1 true) VRle.full
    | false =>
      (repeat (first | refine st_q rfl rfl rfl ?_ | refine st_gy rfl (st_q rfl rfl rfl ?_) | refine st_gn rfl ?_ | refine st_gu rfl ?_ | (refine st_nil ?_; (repeat (first | refine kp_cons rfl ?_ | refine kp_skip ?_)); refine kp_nil ?_) | refine awp_seq ?_ | refine aw_end (fun _ _ => rfl) ?_ | refine awp_block ?_ | refine aw_skipE (fun _ _ => rfl) ?_ | refine aw_exitE (fun _ _ => rfl) ?_ | refine awp_cond (t := true) rfl (fun _ => ?_) (fun e => by cases e) | refine awp_cond (t := false) rfl (fun e => by cases e) (fun _ => ?_)))
      refine st_app0 rfl (ys := xs) (by simp [elemsOf]) (by simpa using hb) fun b hb => ?_
      (repeat (first | refine st_q rfl rfl rfl ?_ | refine st_gy rfl (st_q rfl rfl rfl ?_) | refine st_gn rfl ?_ | refine st_gu rfl ?_ | (refine st_nil ?_; (repeat (first | refine kp_cons rfl ?_ | refine kp_skip ?_)); refine kp_nil ?_) | refine awp_seq ?_ | refine aw_end (fun _ _ => rfl) ?_ | refine awp_block ?_ | refine aw_skipE (fun _ _ => rfl) ?_ | refine aw_exitE (fun _ _ => rfl) ?_ | refine awp_cond (t := true) rfl (fun _ => ?_) (fun e => by cases e) | refine awp_cond (t := false) rfl (fun e => by cases e) (fun _ => ?_)))
      refine awp_ret ?_
      exact ares_s rfl (VShiftL.one (VShiftL.freeze rfl)) ⟨rfl, rfl⟩
  (repeat (first | refine st_q rfl rfl rfl ?_ | refine st_gy rfl (st_q rfl rfl rfl ?_) | refine st_gn rfl ?_ | refine st_gu rfl ?_ | (refine st_nil ?_; (repeat (first | refine kp_cons rfl ?_ | refine kp_skip ?_)); refine kp_nil ?_) | refine awp_seq ?_ | refine aw_end (fun _ _ => rfl) ?_ | refine awp_block ?_ | refine aw_skipE (fun _ _ => rfl) ?_ | refine aw_exitE (fun _ _ => rfl) ?_ | refine awp_cond (t := true) rfl (fun _ => ?_) (fun e => by cases e) | refine awp_cond (t := false) rfl (fun e => by cases e) (fun _ => ?_)))
  refine st_any rfl ?_
  refine ⟨fun _ => ?_, fun hx t => ?_⟩
  · (refine st_nil ?_; (repeat (first | refine kp_cons rfl ?_ | refine kp_skip ?_)); refine kp_nil ?_)
    exact key false (fun h => by cases h)
  · (refine st_nil ?_; (repeat (first | refine kp_cons rfl ?_ | refine kp_skip ?_)); refine kp_nil ?_)
    exact key t (fun _ => hx)

/-- Values that can be copied. -/
inductive Vl.Cl : Vl → Prop
  | mk {v : Vl} (h1 : v.b.length ≤ 140737488355328) (h2 : v.kids.length ≤ 1000000000) (h : ∀ k ∈ v.kids, Vl.Cl k) : Vl.Cl v

theorem bytes_elem (b : List UInt8) : ∀ x ∈ bytes b, x.elem 1 := fun x hx => by
  obtain ⟨c, _, rfl⟩ := List.mem_map.1 hx
  exact ⟨rfl, fun c hc => by rw [List.mem_singleton.1 hc]; rfl⟩

theorem c_VClone : ∀ (v : Vl), v.Cl → ∀ σ, ACalls Try.prog f_value_Clone [encV v] σ fun r σ' => r = encV v ∧ σ' = σ := by
  refine Vl.ind fun nu i n bs ks ih hcl σ => ?_
  cases hcl with
  | mk hb hk hkids =>
  simp only [encV, Vl.b, Vl.kids] at *
  refine acalls_enter rfl value_Clone_ok (Nat.le_of_ble_eq_true rfl) ?_
  refine aw_region ?_
  refine st_box rfl (AVal.fit_iff.1 rfl) fun b1 hb1 => ?_
  refine st_alloc (by simp [AVal.cells, AVal.one]) fun b2 hb2 => ?_
  have hne : b1 ≠ b2 := fun e => hb2 (by rw [e]; simp [keys])
  (refine st_nil ?_; (repeat (first | refine kp_cons rfl ?_ | refine kp_skip ?_)); refine kp_nil ?_)
  refine awp_weaken (FSub.refl _) (HSub.swap _ _ _) ?_
  refine aw_region ?_
  refine st_q rfl rfl rfl ?_
  refine st_ldp rfl hget_head rfl rfl ?_
  refine st_callv rfl (c_Clone_byte_byte (bytes bs) false (bytes_elem bs) (by rw [bytes_length]; omega) _) ?_
  refine st_callv rfl (c_Clip_byte_byte (bytes bs) false _) ?_
  refine st_q rfl rfl rfl ?_
  refine st_store rfl hget_head rfl (by decide) (AVal.fit_iff.1 rfl) (fun h => by cases h) hset_head ?_
  (refine st_nil ?_; (repeat (first | refine kp_cons rfl ?_ | refine kp_skip ?_)); refine kp_nil ?_)
  change AWp _ _ _ _ _ ((b1, .cells 5 [.agg [.bool nu, .int .i64 i, .int .i64 n, .slc 1 (bytes bs) true, .slc 5 (encVs ks) false]]) :: (b2, .cells 5 [.agg [.bool false, .int .i64 0, .int .i64 0, .slc 0 [] true, .slc 0 [] true]]) :: σ)
  refine aw_region ?_
  (repeat (refine st_q rfl rfl rfl ?_))
  (refine st_nil ?_; (repeat (first | refine kp_cons rfl ?_ | refine kp_skip ?_)); refine kp_nil ?_)
  refine awp_seq ?_
  refine awp_seq ?_
  refine aw_end (fun _ _ => rfl) ?_
  refine st_q rfl rfl rfl ?_
  refine st_ldp rfl hget_head rfl rfl ?_
  (repeat (refine st_q rfl rfl rfl ?_))
  rw [encVs_length]
  (refine st_nil ?_; (repeat (first | refine kp_cons rfl ?_ | refine kp_skip ?_)); refine kp_nil ?_)
  refine awp_block ?_
  generalize hτ : (b1, ABlk.cells 5 [.agg [.bool nu, .int .i64 i, .int .i64 n, .slc 1 (bytes bs) true, .slc 5 (encVs ks) false]]) :: (b2, ABlk.cells 5 [.agg [.bool false, .int .i64 0, .int .i64 0, .slc 0 [] true, .slc 0 [] true]]) :: σ = τ
  refine awp_loopN (fun m F σ' => ∃ (j : Nat) (vk : AVal) (βk : AHeap), F = fset 1 (some (.ptr b1 0 0)) (fset 2 (some (.ptr b2 0 0)) (fset 3 (some vk) (fset 12 (some (.slc 5 (encVs ks) false)) (fset 13 (some (.int .i64 (ks.length : Int))) (fset 14 (some (.int .i64 (j : Int))) fnone))))) ∧
    σ' = βk ++ τ ∧ GrowG 5 vk (encVs (ks.take j)) βk ∧ j ≤ ks.length ∧ m = ks.length - j) (n := ks.length)
    ⟨0, _, [], rfl, rfl, GrowG.nil 5 0, by omega, rfl⟩ ?_
  rintro m F σ' ⟨j, vk, βk, rfl, rfl, hok, hj, rfl⟩
  (repeat (first | refine st_q rfl rfl rfl ?_ | refine st_gy rfl (st_q rfl rfl rfl ?_) | refine st_gn rfl ?_ | refine st_gu rfl ?_ | (refine st_nil ?_; (repeat (first | refine kp_cons rfl ?_ | refine kp_skip ?_)); refine kp_nil ?_) | refine awp_seq ?_ | refine aw_end (fun _ _ => rfl) ?_ | refine awp_block ?_ | refine aw_skipE (fun _ _ => rfl) ?_ | refine aw_exitE (fun _ _ => rfl) ?_ | refine awp_cond (t := true) rfl (fun _ => ?_) (fun e => by cases e) | refine awp_cond (t := false) rfl (fun e => by cases e) (fun _ => ?_)))
  refine awp_condp (p := (j : Int) < (ks.length : Int)) rfl (fun h3 => ?_) (fun h3 => ?_)
  · have hjl : j < ks.length := by omega
    have hget : ks[j]? = some ks[j] := List.getElem?_eq_getElem hjl
    have hx : (encVs ks)[(j : Int).toNat]? = some (encV ks[j]) := encVs_get (by rw [Int.toNat_natCast, hget])
    have htk : encVs (ks.take (j + 1)) = encVs (ks.take j) ++ [encV ks[j]] := by rw [List.take_add_one, hget, encVs_eq, encVs_eq, List.map_append]; rfl
    have hcv := ih ks[j] (List.getElem_mem hjl) (hkids _ (List.getElem_mem hjl))
    rw [encV_eq] at hx hcv htk
    (repeat (first | refine st_q rfl rfl rfl ?_ | refine st_gy rfl (st_q rfl rfl rfl ?_) | refine st_gn rfl ?_ | refine st_gu rfl ?_ | (refine st_nil ?_; (repeat (first | refine kp_cons rfl ?_ | refine kp_skip ?_)); refine kp_nil ?_) | refine awp_seq ?_ | refine aw_end (fun _ _ => rfl) ?_ | refine awp_block ?_ | refine aw_skipE (fun _ _ => rfl) ?_ | refine aw_exitE (fun _ _ => rfl) ?_ | refine awp_cond (t := true) rfl (fun _ => ?_) (fun e => by cases e) | refine awp_cond (t := false) rfl (fun e => by cases e) (fun _ => ?_)))
    refine st_iad rfl (by omega) hx ?_
    (repeat (first | refine st_q rfl rfl rfl ?_ | refine st_gy rfl (st_q rfl rfl rfl ?_) | refine st_gn rfl ?_ | refine st_gu rfl ?_ | (refine st_nil ?_; (repeat (first | refine kp_cons rfl ?_ | refine kp_skip ?_)); refine kp_nil ?_) | refine awp_seq ?_ | refine aw_end (fun _ _ => rfl) ?_ | refine awp_block ?_ | refine aw_skipE (fun _ _ => rfl) ?_ | refine aw_exitE (fun _ _ => rfl) ?_ | refine awp_cond (t := true) rfl (fun _ => ?_) (fun e => by cases e) | refine awp_cond (t := false) rfl (fun e => by cases e) (fun _ => ?_)))
    refine st_alloc (by simp [AVal.cells, AVal.one]) fun vb hvb => ?_
    refine st_store rfl hget_head rfl (by decide) (AVal.fit_iff.1 rfl) (fun h => by cases h) hset_head ?_
    (refine st_nil ?_; (repeat (first | refine kp_cons rfl ?_ | refine kp_skip ?_)); refine kp_nil ?_)
    refine awp_freezeP (d := 5) (cs := cellsV ks[j]) rfl ?_
    refine awp_region ?_
    (repeat (refine st_q rfl rfl rfl ?_))
    refine st_callv rfl (hcv _) ?_
    (repeat (refine st_q rfl rfl rfl ?_))
    refine st_appG (ys := [.agg (cellsV ks[j])]) hok rfl rfl (by
      rw [encVs_length, List.length_take]; simp only [List.length_cons, List.length_nil]; omega) fun b' hb' => ?_
    (repeat (refine st_q rfl rfl rfl ?_))
    refine st_nil ?_
    refine kp_weaken (keep := [1, 2, 3, 12, 13, 14]) ?_
    ((repeat (first | refine kp_cons rfl ?_ | refine kp_skip ?_)); refine kp_nil ?_)
    rw [← htk]
    refine aw_round ?_
    (repeat (refine st_q rfl rfl rfl ?_))
    rw [show IntKind.wrap .i64 ((j : Int) + 1) = ((j + 1 : Nat) : Int) by rw [w64 _ (by omega) (by omega)]; omega]
    (refine st_nil ?_; (repeat (first | refine kp_cons rfl ?_ | refine kp_skip ?_)); refine kp_nil ?_)
    exact ⟨_, ks.length - (j + 1), HSub.refl _, ⟨j + 1, _, _, rfl, rfl, GrowG.mk, by omega, rfl⟩, by omega⟩
  · have hje : j = ks.length := by omega
    subst hje
    rw [List.take_length] at hok
    refine aw_exitE (fun _ _ => rfl) ?_
    refine aw_region ?_
    (repeat (refine st_q rfl rfl rfl ?_))
    refine st_callv rfl (c_ClipG_api_Value_api_Value hok τ) ?_
    rw [← hτ]
    refine st_q rfl rfl rfl ?_
    refine st_store rfl hget_head rfl (by decide) (AVal.fit_iff.1 rfl) (fun h => by cases h) hset_head ?_
    (refine st_nil ?_; (repeat (first | refine kp_cons rfl ?_ | refine kp_skip ?_)); refine kp_nil ?_)
    change AWp _ _ _ _ _ ((b1, .cells 5 [.agg [.bool nu, .int .i64 i, .int .i64 n, .slc 1 (bytes bs) true, .slc 5 (encVs ks) true]]) :: (b2, .cells 5 [.agg [.bool false, .int .i64 0, .int .i64 0, .slc 0 [] true, .slc 0 [] true]]) :: σ)
    refine aw_region ?_
    refine st_ldp rfl hget_head rfl rfl ?_
    refine st_store rfl (hget_tail hne hget_head) rfl (by decide) (AVal.fit_iff.1 rfl) (fun h => by cases h) (hset_tail hne hset_head) ?_
    (refine st_nil ?_; (repeat (first | refine kp_cons rfl ?_ | refine kp_skip ?_)); refine kp_nil ?_)
    refine awp_weaken (FSub.refl _) (HSub.swap _ _ _) ?_
    refine awp_freezeP (d := 2) (cs := [.bool nu, .int .i64 i, .int .i64 n, .slc 1 (bytes bs) true, .slc 5 (encVs ks) true]) rfl ?_
    refine awp_ret ?_
    refine ares_v rfl ?_ (HSub.tail _ _) ⟨rfl, rfl⟩
    refine VRle.agg (by simp [AVal.one]) (VRle.same (VRle.same (VRle.same (VRle.cons VRle.full VRle.full))))
end Go.Abs

