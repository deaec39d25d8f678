/- The small code of functions, printed by program. -/
import Derived.Test.YtgmefkhincnajaaDoorAbsC
import Derived.Test.YtgmefkhincnajaaDoorAbsD
import Derived.Test.YtgmefkhincnajaaDoorANum
namespace Go.Abs
open Go
def ingotlaw13_known_r0 : List AOper := [
  ⟨some 0, .mov, [.c (.bool false)], none⟩]
def ingotlaw13_known_r1 : List AOper := [
  ⟨some 7, (.bsl 1), [.c (.str [97]), .c (.str [98])], none⟩,
  ⟨some 8, (.bld [(.int .i64 0), (.slc 0 [] true), (.slc 0 [] true), (.int .i64 0), (.int .i64 0), (.int .i64 0)] [(0, 1)]), [.c (.int .i64 3)], none⟩,
  ⟨some 9, (.bld [(.int .i64 0), (.slc 0 [] true), (.slc 0 [] true), (.int .i64 0), (.int .i64 0), (.int .i64 0)] [(0, 1)]), [.c (.int .i64 7)], none⟩,
  ⟨some 10, (.bsl 6), [.t 9], none⟩,
  ⟨some 11, (.bld [(.int .i64 0), (.slc 0 [] true), (.slc 0 [] true), (.int .i64 0), (.int .i64 0), (.int .i64 0)] [(0, 1), (2, 1)]), [.c (.int .i64 10), .t 10], none⟩,
  ⟨some 12, (.bsl 6), [.t 8, .t 11], none⟩,
  ⟨some 13, (.bld [(.int .i64 0), (.slc 0 [] true), (.slc 0 [] true), (.int .i64 0), (.int .i64 0), (.int .i64 0)] [(0, 1), (1, 1), (2, 1)]), [.c (.int .i64 12), .t 7, .t 12], none⟩,
  ⟨some 1, (.alloc (.agg [(.int .i64 0), (.slc 0 [] true), (.slc 0 [] true), (.int .i64 0), (.int .i64 0), (.int .i64 0)])), [], none⟩,
  ⟨none, (.store 6), [.t 1, .t 13], none⟩]
def ingotlaw13_known_r2 : List AOper := [
  ⟨some 14, (.load true 6), [.t 1], none⟩,
  ⟨some 15, (.call f_types_Flatten), [.t 14], none⟩,
  ⟨some 2, .mov, [.t 15], none⟩]
def ingotlaw13_known_r3 : List AOper := [
  ⟨some 16, .mov, [.t 2], none⟩,
  ⟨some 17, .lens, [.t 16], none⟩,
  ⟨some 18, (.bin .neq), [.t 17, .c (.int .i64 4)], none⟩]
def ingotlaw13_known_r4 : List AOper := [
  ⟨some 0, .mov, [.c (.bool false)], none⟩]
def ingotlaw13_known_r5 : List AOper := [
  ⟨some 20, .mov, [.t 2], none⟩,
  ⟨some 21, (.call f_types_Build), [.t 20], none⟩,
  ⟨some 19, .mov, [.t 21], none⟩,
  ⟨some 22, (.ext 0), [.t 19], none⟩,
  ⟨some 23, (.ext 1), [.t 19], none⟩,
  ⟨some 3, (.alloc (.agg [(.int .i64 0), (.slc 0 [] true), (.slc 0 [] true), (.int .i64 0), (.int .i64 0), (.int .i64 0)])), [], none⟩,
  ⟨none, (.store 6), [.t 3, .t 22], none⟩,
  ⟨some 4, .mov, [.t 23], none⟩]
def ingotlaw13_known_r6 : List AOper := [
  ⟨some 25, .mov, [.t 2], none⟩,
  ⟨some 26, (.bsl 1), [.c (.int .i64 1)], none⟩,
  ⟨some 27, (.call f_types_Close), [.t 25, .t 26], none⟩,
  ⟨some 24, .mov, [.t 27], none⟩,
  ⟨some 28, (.ext 0), [.t 24], none⟩,
  ⟨some 29, (.ext 1), [.t 24], none⟩,
  ⟨some 5, .mov, [.t 28], none⟩,
  ⟨some 6, .mov, [.t 29], none⟩]
def ingotlaw13_known_r7 : List AOper := [
  ⟨some 30, (.load true 6), [.t 1], none⟩,
  ⟨some 31, (.call f_types_Check), [.t 30], none⟩,
  ⟨some 32, (.bin .eql), [.t 31, .c (.int .i64 0)], none⟩,
  ⟨some 33, .mov, [.t 32], none⟩,
  ⟨some 34, .mov, [.t 2], some (33, true)⟩,
  ⟨some 35, (.iad 8), [.t 34, .c (.int .i64 3)], some (33, true)⟩,
  ⟨some 36, (.fad 6), [.t 35], some (33, true)⟩,
  ⟨some 37, (.load false 1), [.t 36], some (33, true)⟩,
  ⟨some 38, (.bin .eql), [.t 37, .c (.int .i64 2)], some (33, true)⟩,
  ⟨some 39, .pick, [.t 33, .t 38, .c (.bool false)], none⟩,
  ⟨some 40, .mov, [.t 39], none⟩,
  ⟨some 41, .mov, [.t 2], some (40, true)⟩,
  ⟨some 42, (.iad 8), [.t 41, .c (.int .i64 0)], some (40, true)⟩,
  ⟨some 43, (.fad 1), [.t 42], some (40, true)⟩,
  ⟨some 44, (.load false 1), [.t 43], some (40, true)⟩,
  ⟨some 45, (.iad 1), [.t 44, .c (.int .i64 1)], some (40, true)⟩,
  ⟨some 46, (.load false 1), [.t 45], some (40, true)⟩,
  ⟨some 47, (.bin .eql), [.t 46, .c (.int .i64 2)], some (40, true)⟩,
  ⟨some 48, .pick, [.t 40, .t 47, .c (.bool false)], none⟩,
  ⟨some 49, .mov, [.t 48], none⟩,
  ⟨some 50, .mov, [.t 4], some (49, true)⟩,
  ⟨some 51, .mov, [.t 6], some (49, true)⟩,
  ⟨some 52, (.bin .add), [.t 50, .t 51], some (49, true)⟩,
  ⟨some 53, (.bin .eql), [.t 52, .c (.int .i64 0)], some (49, true)⟩,
  ⟨some 54, .pick, [.t 49, .t 53, .c (.bool false)], none⟩,
  ⟨some 55, .mov, [.t 54], none⟩,
  ⟨some 56, (.load true 6), [.t 1], some (55, true)⟩,
  ⟨some 57, (.load true 6), [.t 3], some (55, true)⟩,
  ⟨some 58, (.call f_types_Same), [.t 56, .t 57], some (55, true)⟩,
  ⟨some 59, .pick, [.t 55, .t 58, .c (.bool false)], none⟩,
  ⟨some 60, .mov, [.t 59], none⟩,
  ⟨some 61, (.load true 6), [.t 1], some (60, true)⟩,
  ⟨some 62, (.call f_types_Count), [.t 61], some (60, true)⟩,
  ⟨some 63, (.bin .eql), [.t 62, .c (.int .i64 4)], some (60, true)⟩,
  ⟨some 64, .pick, [.t 60, .t 63, .c (.bool false)], none⟩,
  ⟨some 65, .mov, [.t 64], none⟩,
  ⟨some 66, .mov, [.t 5], some (65, true)⟩,
  ⟨some 67, .lens, [.t 66], some (65, true)⟩,
  ⟨some 68, (.bin .eql), [.t 67, .c (.int .i64 4)], some (65, true)⟩,
  ⟨some 69, .pick, [.t 65, .t 68, .c (.bool false)], none⟩,
  ⟨some 70, .mov, [.t 69], none⟩,
  ⟨some 71, .mov, [.t 5], some (70, true)⟩,
  ⟨some 72, (.iad 1), [.t 71, .c (.int .i64 0)], some (70, true)⟩,
  ⟨some 73, (.load false 1), [.t 72], some (70, true)⟩,
  ⟨some 74, .pick, [.t 70, .t 73, .c (.bool false)], none⟩,
  ⟨some 75, .mov, [.t 74], none⟩,
  ⟨some 76, .mov, [.t 5], some (75, true)⟩,
  ⟨some 77, (.iad 1), [.t 76, .c (.int .i64 1)], some (75, true)⟩,
  ⟨some 78, (.load false 1), [.t 77], some (75, true)⟩,
  ⟨some 79, .pick, [.t 75, .t 78, .c (.bool false)], none⟩,
  ⟨some 80, .mov, [.t 79], none⟩,
  ⟨some 81, .mov, [.t 5], some (80, true)⟩,
  ⟨some 82, (.iad 1), [.t 81, .c (.int .i64 2)], some (80, true)⟩,
  ⟨some 83, (.load false 1), [.t 82], some (80, true)⟩,
  ⟨some 84, .unot, [.t 83], some (80, true)⟩,
  ⟨some 85, .pick, [.t 80, .t 84, .c (.bool false)], none⟩,
  ⟨some 86, .mov, [.t 85], none⟩,
  ⟨some 87, (.load true 6), [.t 1], some (86, true)⟩,
  ⟨some 88, (.call f_types_Text), [.t 87], some (86, true)⟩,
  ⟨some 89, (.bin .eql), [.t 88, .c (.str [115, 116, 114, 117, 99, 116, 60, 97, 58, 105, 110, 116, 44, 98, 58, 97, 114, 114, 97, 121, 60, 115, 116, 114, 105, 110, 103, 62, 62])], some (86, true)⟩,
  ⟨some 90, .pick, [.t 86, .t 89, .c (.bool false)], none⟩,
  ⟨some 91, .mov, [.t 90], none⟩,
  ⟨some 92, (.call f_types_Leaf), [.c (.int .i64 15)], some (91, true)⟩,
  ⟨some 93, .pick, [.t 91, .t 92, .c (.bool false)], none⟩,
  ⟨some 94, .mov, [.t 93], none⟩,
  ⟨some 95, (.call f_types_Word), [.c (.int .i64 4)], some (94, true)⟩,
  ⟨some 96, (.bin .eql), [.t 95, .c (.str [98, 105, 103, 105, 110, 116])], some (94, true)⟩,
  ⟨some 97, .pick, [.t 94, .t 96, .c (.bool false)], none⟩,
  ⟨some 98, .mov, [.t 97], none⟩,
  ⟨some 99, (.bld [(.int .i64 0), (.slc 0 [] true), (.slc 0 [] true), (.int .i64 0), (.int .i64 0), (.int .i64 0)] [(0, 1)]), [.c (.int .i64 5)], some (98, true)⟩,
  ⟨some 100, (.call f_types_Check), [.t 99], some (98, true)⟩,
  ⟨some 101, (.bin .eql), [.t 100, .c (.int .i64 5)], some (98, true)⟩,
  ⟨some 102, .pick, [.t 98, .t 101, .c (.bool false)], none⟩,
  ⟨some 0, .mov, [.t 102], none⟩]
def ingotlaw13_known : AFunc := ⟨103, (.seq (.region ingotlaw13_known_r0 []) (.seq (.region ingotlaw13_known_r1 [1]) (.seq (.region ingotlaw13_known_r2 [1, 2]) (.seq (.seq (.region ingotlaw13_known_r3 [1, 2, 18]) (.cond (.t 18) (.seq (.region ingotlaw13_known_r4 [0]) .ret) .skip)) (.seq (.region ingotlaw13_known_r5 [1, 2, 3, 4]) (.seq (.region ingotlaw13_known_r6 [1, 2, 3, 4, 5, 6]) (.seq (.region ingotlaw13_known_r7 [0]) .ret))))))), [.t 0]⟩
def ingotlaw13_same_r0 : List AOper := [
  ⟨some 2, (.box 8), [.t 0], none⟩,
  ⟨some 3, (.box 9), [.t 1], none⟩,
  ⟨some 4, .mov, [.c (.bool false)], none⟩]
def ingotlaw13_same_r1 : List AOper := [
  ⟨some 7, (.fad 0), [.t 2], none⟩,
  ⟨some 8, (.load false 1), [.t 7], none⟩,
  ⟨some 9, (.fad 0), [.t 3], none⟩,
  ⟨some 10, (.fad 0), [.t 9], none⟩,
  ⟨some 11, (.load false 1), [.t 10], none⟩,
  ⟨some 12, (.bin .neq), [.t 8, .t 11], none⟩,
  ⟨some 13, .mov, [.t 12], none⟩,
  ⟨some 14, (.fad 3), [.t 2], some (13, false)⟩,
  ⟨some 15, (.load false 1), [.t 14], some (13, false)⟩,
  ⟨some 16, (.fad 0), [.t 3], some (13, false)⟩,
  ⟨some 17, (.fad 3), [.t 16], some (13, false)⟩,
  ⟨some 18, (.load false 1), [.t 17], some (13, false)⟩,
  ⟨some 19, (.bin .neq), [.t 15, .t 18], some (13, false)⟩,
  ⟨some 20, .pick, [.t 13, .c (.bool true), .t 19], none⟩,
  ⟨some 21, .mov, [.t 20], none⟩,
  ⟨some 22, (.fad 4), [.t 2], some (21, false)⟩,
  ⟨some 23, (.load false 1), [.t 22], some (21, false)⟩,
  ⟨some 24, (.fad 0), [.t 3], some (21, false)⟩,
  ⟨some 25, (.fad 4), [.t 24], some (21, false)⟩,
  ⟨some 26, (.load false 1), [.t 25], some (21, false)⟩,
  ⟨some 27, (.bin .neq), [.t 23, .t 26], some (21, false)⟩,
  ⟨some 28, .pick, [.t 21, .c (.bool true), .t 27], none⟩,
  ⟨some 29, .mov, [.t 28], none⟩,
  ⟨some 30, (.fad 5), [.t 2], some (29, false)⟩,
  ⟨some 31, (.load false 1), [.t 30], some (29, false)⟩,
  ⟨some 32, (.fad 0), [.t 3], some (29, false)⟩,
  ⟨some 33, (.fad 5), [.t 32], some (29, false)⟩,
  ⟨some 34, (.load false 1), [.t 33], some (29, false)⟩,
  ⟨some 35, (.bin .neq), [.t 31, .t 34], some (29, false)⟩,
  ⟨some 36, .pick, [.t 29, .c (.bool true), .t 35], none⟩,
  ⟨some 37, .mov, [.t 36], none⟩,
  ⟨some 38, (.fad 6), [.t 2], some (37, false)⟩,
  ⟨some 39, (.load false 1), [.t 38], some (37, false)⟩,
  ⟨some 40, (.fad 7), [.t 3], some (37, false)⟩,
  ⟨some 41, (.load false 1), [.t 40], some (37, false)⟩,
  ⟨some 42, (.bin .neq), [.t 39, .t 41], some (37, false)⟩,
  ⟨some 43, .pick, [.t 37, .c (.bool true), .t 42], none⟩,
  ⟨some 44, .mov, [.t 43], none⟩,
  ⟨some 45, (.fad 7), [.t 2], some (44, false)⟩,
  ⟨some 46, (.load false 1), [.t 45], some (44, false)⟩,
  ⟨some 47, (.fad 8), [.t 3], some (44, false)⟩,
  ⟨some 48, (.load false 1), [.t 47], some (44, false)⟩,
  ⟨some 49, (.bin .neq), [.t 46, .t 48], some (44, false)⟩,
  ⟨some 50, .pick, [.t 44, .c (.bool true), .t 49], none⟩,
  ⟨some 51, .mov, [.t 50], none⟩,
  ⟨some 52, (.fad 1), [.t 2], some (51, false)⟩,
  ⟨some 53, (.load false 1), [.t 52], some (51, false)⟩,
  ⟨some 54, .lens, [.t 53], some (51, false)⟩,
  ⟨some 55, (.fad 6), [.t 3], some (51, false)⟩,
  ⟨some 56, (.load false 1), [.t 55], some (51, false)⟩,
  ⟨some 57, .lens, [.t 56], some (51, false)⟩,
  ⟨some 58, (.bin .neq), [.t 54, .t 57], some (51, false)⟩,
  ⟨some 59, .pick, [.t 51, .c (.bool true), .t 58], none⟩,
  ⟨some 60, .mov, [.t 59], none⟩,
  ⟨some 61, (.fad 2), [.t 2], some (60, false)⟩,
  ⟨some 62, (.load false 1), [.t 61], some (60, false)⟩,
  ⟨some 63, .lens, [.t 62], some (60, false)⟩,
  ⟨some 64, (.fad 0), [.t 3], some (60, false)⟩,
  ⟨some 65, (.fad 1), [.t 64], some (60, false)⟩,
  ⟨some 66, (.load false 1), [.t 65], some (60, false)⟩,
  ⟨some 67, .lens, [.t 66], some (60, false)⟩,
  ⟨some 68, (.bin .neq), [.t 63, .t 67], some (60, false)⟩,
  ⟨some 69, .pick, [.t 60, .c (.bool true), .t 68], none⟩]
def ingotlaw13_same_r2 : List AOper := [
  ⟨some 4, .mov, [.c (.bool false)], none⟩]
def ingotlaw13_same_r3 : List AOper := [
  ⟨some 5, .mov, [.c (.int .i64 0)], none⟩]
def ingotlaw13_same_r4 : List AOper := [
  ⟨some 70, .mov, [.t 5], none⟩,
  ⟨some 71, (.fad 1), [.t 2], none⟩,
  ⟨some 72, (.load false 1), [.t 71], none⟩,
  ⟨some 73, .lens, [.t 72], none⟩,
  ⟨some 74, (.bin .lss), [.t 70, .t 73], none⟩]
def ingotlaw13_same_r5 : List AOper := [
  ⟨some 77, (.fad 1), [.t 2], none⟩,
  ⟨some 78, (.load false 1), [.t 77], none⟩,
  ⟨some 79, .mov, [.t 5], none⟩,
  ⟨some 80, (.iad 1), [.t 78, .t 79], none⟩,
  ⟨some 81, (.load false 1), [.t 80], none⟩,
  ⟨some 82, (.fad 6), [.t 3], none⟩,
  ⟨some 83, (.load false 1), [.t 82], none⟩,
  ⟨some 84, .mov, [.t 5], none⟩,
  ⟨some 85, (.iad 1), [.t 83, .t 84], none⟩,
  ⟨some 86, (.load false 1), [.t 85], none⟩,
  ⟨some 87, (.bin .neq), [.t 81, .t 86], none⟩]
def ingotlaw13_same_r6 : List AOper := [
  ⟨some 4, .mov, [.c (.bool false)], none⟩]
def ingotlaw13_same_r7 : List AOper := [
  ⟨some 75, .mov, [.t 5], none⟩,
  ⟨some 76, (.bin .add), [.t 75, .c (.int .i64 1)], none⟩,
  ⟨some 5, .mov, [.t 76], none⟩]
def ingotlaw13_same_l0 : ACode := (.seq (.seq (.region ingotlaw13_same_r4 [2, 3, 5, 74]) (.cond (.t 74) .skip (.exit 0))) (.seq (.block 1 (.seq (.region ingotlaw13_same_r5 [2, 3, 5, 87]) (.cond (.t 87) (.seq (.region ingotlaw13_same_r6 [4]) .ret) .skip))) (.region ingotlaw13_same_r7 [2, 3, 5])))
def ingotlaw13_same_r8 : List AOper := [
  ⟨some 6, .mov, [.c (.int .i64 0)], none⟩]
def ingotlaw13_same_r9 : List AOper := [
  ⟨some 88, .mov, [.t 6], none⟩,
  ⟨some 89, (.fad 2), [.t 2], none⟩,
  ⟨some 90, (.load false 1), [.t 89], none⟩,
  ⟨some 91, .lens, [.t 90], none⟩,
  ⟨some 92, (.bin .lss), [.t 88, .t 91], none⟩]
def ingotlaw13_same_r10 : List AOper := [
  ⟨some 95, (.fad 2), [.t 2], none⟩,
  ⟨some 96, (.load false 1), [.t 95], none⟩,
  ⟨some 97, .mov, [.t 6], none⟩,
  ⟨some 98, (.iad 1), [.t 96, .t 97], none⟩,
  ⟨some 99, (.load false 1), [.t 98], none⟩,
  ⟨some 100, (.fad 0), [.t 3], none⟩,
  ⟨some 101, (.fad 1), [.t 100], none⟩,
  ⟨some 102, (.load false 1), [.t 101], none⟩,
  ⟨some 103, .mov, [.t 6], none⟩,
  ⟨some 104, (.iad 1), [.t 102, .t 103], none⟩,
  ⟨some 105, (.load false 1), [.t 104], none⟩,
  ⟨some 106, (.bin .neq), [.t 99, .t 105], none⟩]
def ingotlaw13_same_r11 : List AOper := [
  ⟨some 4, .mov, [.c (.bool false)], none⟩]
def ingotlaw13_same_r12 : List AOper := [
  ⟨some 93, .mov, [.t 6], none⟩,
  ⟨some 94, (.bin .add), [.t 93, .c (.int .i64 1)], none⟩,
  ⟨some 6, .mov, [.t 94], none⟩]
def ingotlaw13_same_l1 : ACode := (.seq (.seq (.region ingotlaw13_same_r9 [2, 3, 6, 92]) (.cond (.t 92) .skip (.exit 2))) (.seq (.block 3 (.seq (.region ingotlaw13_same_r10 [2, 3, 6, 106]) (.cond (.t 106) (.seq (.region ingotlaw13_same_r11 [4]) .ret) .skip))) (.region ingotlaw13_same_r12 [2, 3, 6])))
def ingotlaw13_same_r13 : List AOper := [
  ⟨some 4, .mov, [.c (.bool true)], none⟩]
def ingotlaw13_same : AFunc := ⟨107, (.seq (.region ingotlaw13_same_r0 [2, 3]) (.seq (.seq (.region ingotlaw13_same_r1 [2, 3, 69]) (.cond (.t 69) (.seq (.region ingotlaw13_same_r2 [4]) .ret) .skip)) (.seq (.seq (.region ingotlaw13_same_r3 [2, 3, 5]) (.block 0 (.loop ingotlaw13_same_l0))) (.seq (.seq (.region ingotlaw13_same_r8 [2, 3, 6]) (.block 2 (.loop ingotlaw13_same_l1))) (.seq (.region ingotlaw13_same_r13 [4]) .ret))))), [.t 4]⟩
def ingotlaw13_chain_r0 : List AOper := [
  ⟨some 2, (.alloc (.agg [(.int .i64 0), (.slc 0 [] true), (.slc 0 [] true), (.int .i64 0), (.int .i64 0), (.int .i64 0)])), [], none⟩]
def ingotlaw13_chain_r1 : List AOper := [
  ⟨some 5, (.bld [(.int .i64 0), (.slc 0 [] true), (.slc 0 [] true), (.int .i64 0), (.int .i64 0), (.int .i64 0)] [(0, 1)]), [.c (.int .i64 3)], none⟩,
  ⟨some 3, (.alloc (.agg [(.int .i64 0), (.slc 0 [] true), (.slc 0 [] true), (.int .i64 0), (.int .i64 0), (.int .i64 0)])), [], none⟩,
  ⟨none, (.store 6), [.t 3, .t 5], none⟩]
def ingotlaw13_chain_r2 : List AOper := [
  ⟨some 4, .mov, [.c (.int .i64 0)], none⟩]
def ingotlaw13_chain_r3 : List AOper := [
  ⟨some 6, .mov, [.t 4], none⟩,
  ⟨some 7, .mov, [.t 0], none⟩,
  ⟨some 8, (.bin .lss), [.t 6, .t 7], none⟩]
def ingotlaw13_chain_r4 : List AOper := [
  ⟨some 11, (.load true 6), [.t 3], none⟩,
  ⟨some 12, (.bsl 6), [.t 11], none⟩,
  ⟨some 13, (.bld [(.int .i64 0), (.slc 0 [] true), (.slc 0 [] true), (.int .i64 0), (.int .i64 0), (.int .i64 0)] [(0, 1), (2, 1)]), [.c (.int .i64 10), .t 12], none⟩,
  ⟨none, (.store 6), [.t 3, .t 13], none⟩]
def ingotlaw13_chain_r5 : List AOper := [
  ⟨some 9, .mov, [.t 4], none⟩,
  ⟨some 10, (.bin .add), [.t 9, .c (.int .i64 1)], none⟩,
  ⟨some 4, .mov, [.t 10], none⟩]
def ingotlaw13_chain_l0 : ACode := (.seq (.seq (.region ingotlaw13_chain_r3 [0, 2, 3, 4, 8]) (.cond (.t 8) .skip (.exit 0))) (.seq (.block 1 (.region ingotlaw13_chain_r4 [0, 2, 3, 4])) (.region ingotlaw13_chain_r5 [0, 2, 3, 4])))
def ingotlaw13_chain_r6 : List AOper := [
  ⟨some 14, (.load true 6), [.t 3], none⟩,
  ⟨none, (.store 6), [.t 2, .t 14], none⟩]
def ingotlaw13_chain : AFunc := ⟨15, (.seq (.region ingotlaw13_chain_r0 [0, 2]) (.seq (.region ingotlaw13_chain_r1 [0, 2, 3]) (.seq (.seq (.region ingotlaw13_chain_r2 [0, 2, 3, 4]) (.block 0 (.loop ingotlaw13_chain_l0))) (.seq (.region ingotlaw13_chain_r6 [2]) .ret)))), [.cell 2 true 6]⟩
def ingotlaw13_TypeTrees_r0 : List AOper := [
  ⟨some 1, (.box 6), [.t 0], none⟩,
  ⟨some 2, .mov, [.c (.bool false)], none⟩]
def ingotlaw13_TypeTrees_r1 : List AOper := [
  ⟨some 9, (.call f_ingotlaw13_known), [], none⟩,
  ⟨some 10, .unot, [.t 9], none⟩]
def ingotlaw13_TypeTrees_r2 : List AOper := [
  ⟨some 2, .mov, [.c (.bool false)], none⟩]
def ingotlaw13_TypeTrees_r3 : List AOper := [
  ⟨some 11, (.load true 6), [.t 1], none⟩,
  ⟨some 12, (.call f_ingotlaw13_Few), [.t 11], none⟩,
  ⟨some 13, .unot, [.t 12], none⟩]
def ingotlaw13_TypeTrees_r4 : List AOper := [
  ⟨some 2, .mov, [.c (.bool true)], none⟩]
def ingotlaw13_TypeTrees_r5 : List AOper := [
  ⟨some 14, (.load true 6), [.t 1], none⟩,
  ⟨some 15, (.call f_types_Check), [.t 14], none⟩,
  ⟨some 3, .mov, [.t 15], none⟩]
def ingotlaw13_TypeTrees_r6 : List AOper := [
  ⟨some 16, (.load true 6), [.t 1], none⟩,
  ⟨some 17, (.call f_types_Flatten), [.t 16], none⟩,
  ⟨some 4, .mov, [.t 17], none⟩]
def ingotlaw13_TypeTrees_r7 : List AOper := [
  ⟨some 18, (.load true 6), [.t 1], none⟩,
  ⟨some 19, (.call f_ingotref13_Flatten), [.t 18], none⟩,
  ⟨some 5, .mov, [.t 19], none⟩]
def ingotlaw13_TypeTrees_r8 : List AOper := [
  ⟨some 20, .mov, [.t 3], none⟩,
  ⟨some 21, (.load true 6), [.t 1], none⟩,
  ⟨some 22, (.call f_ingotref13_Check), [.t 21], none⟩,
  ⟨some 23, (.bin .neq), [.t 20, .t 22], none⟩,
  ⟨some 24, .mov, [.t 23], none⟩,
  ⟨some 25, .mov, [.t 4], some (24, false)⟩,
  ⟨some 26, .lens, [.t 25], some (24, false)⟩,
  ⟨some 27, .mov, [.t 5], some (24, false)⟩,
  ⟨some 28, .lens, [.t 27], some (24, false)⟩,
  ⟨some 29, (.bin .neq), [.t 26, .t 28], some (24, false)⟩,
  ⟨some 30, .pick, [.t 24, .c (.bool true), .t 29], none⟩,
  ⟨some 31, .mov, [.t 30], none⟩,
  ⟨some 32, (.load true 6), [.t 1], some (31, false)⟩,
  ⟨some 33, (.callp f_types_Count), [.t 32], some (31, false)⟩,
  ⟨some 34, (.load true 6), [.t 1], some (31, false)⟩,
  ⟨some 35, (.call f_ingotref13_Count), [.t 34], some (31, false)⟩,
  ⟨some 36, (.bin .neq), [.t 33, .t 35], some (31, false)⟩,
  ⟨some 37, .pick, [.t 31, .c (.bool true), .t 36], none⟩]
def ingotlaw13_TypeTrees_r9 : List AOper := [
  ⟨some 2, .mov, [.c (.bool false)], none⟩]
def ingotlaw13_TypeTrees_r10 : List AOper := [
  ⟨some 6, .mov, [.c (.int .i64 0)], none⟩]
def ingotlaw13_TypeTrees_r11 : List AOper := [
  ⟨some 38, .mov, [.t 6], none⟩,
  ⟨some 39, .mov, [.t 4], none⟩,
  ⟨some 40, .lens, [.t 39], none⟩,
  ⟨some 41, (.bin .lss), [.t 38, .t 40], none⟩]
def ingotlaw13_TypeTrees_r12 : List AOper := [
  ⟨some 44, .mov, [.t 4], none⟩,
  ⟨some 45, .mov, [.t 6], none⟩,
  ⟨some 46, (.iad 8), [.t 44, .t 45], none⟩,
  ⟨some 47, (.load true 8), [.t 46], none⟩,
  ⟨some 48, .mov, [.t 5], none⟩,
  ⟨some 49, .mov, [.t 6], none⟩,
  ⟨some 50, (.iad 9), [.t 48, .t 49], none⟩,
  ⟨some 51, (.load true 9), [.t 50], none⟩,
  ⟨some 52, (.call f_ingotlaw13_same), [.t 47, .t 51], none⟩,
  ⟨some 53, .unot, [.t 52], none⟩]
def ingotlaw13_TypeTrees_r13 : List AOper := [
  ⟨some 2, .mov, [.c (.bool false)], none⟩]
def ingotlaw13_TypeTrees_r14 : List AOper := [
  ⟨some 42, .mov, [.t 6], none⟩,
  ⟨some 43, (.bin .add), [.t 42, .c (.int .i64 1)], none⟩,
  ⟨some 6, .mov, [.t 43], none⟩]
def ingotlaw13_TypeTrees_l0 : ACode := (.seq (.seq (.region ingotlaw13_TypeTrees_r11 [1, 3, 4, 5, 6, 41]) (.cond (.t 41) .skip (.exit 0))) (.seq (.block 1 (.seq (.region ingotlaw13_TypeTrees_r12 [1, 3, 4, 5, 6, 53]) (.cond (.t 53) (.seq (.region ingotlaw13_TypeTrees_r13 [2]) .ret) .skip))) (.region ingotlaw13_TypeTrees_r14 [1, 3, 4, 5, 6])))
def ingotlaw13_TypeTrees_r15 : List AOper := [
  ⟨some 54, .mov, [.t 3], none⟩,
  ⟨some 55, (.bin .neq), [.t 54, .c (.int .i64 0)], none⟩]
def ingotlaw13_TypeTrees_r16 : List AOper := [
  ⟨some 2, .mov, [.c (.bool true)], none⟩]
def ingotlaw13_TypeTrees_r17 : List AOper := [
  ⟨some 57, .mov, [.t 4], none⟩,
  ⟨some 58, (.call f_types_Build), [.t 57], none⟩,
  ⟨some 56, .mov, [.t 58], none⟩,
  ⟨some 59, (.ext 0), [.t 56], none⟩,
  ⟨some 60, (.ext 1), [.t 56], none⟩,
  ⟨some 7, (.alloc (.agg [(.int .i64 0), (.slc 0 [] true), (.slc 0 [] true), (.int .i64 0), (.int .i64 0), (.int .i64 0)])), [], none⟩,
  ⟨none, (.store 6), [.t 7, .t 59], none⟩,
  ⟨some 8, .mov, [.t 60], none⟩]
def ingotlaw13_TypeTrees_r18 : List AOper := [
  ⟨some 61, .mov, [.t 8], none⟩,
  ⟨some 62, (.bin .eql), [.t 61, .c (.int .i64 0)], none⟩,
  ⟨some 63, .mov, [.t 62], none⟩,
  ⟨some 64, (.load true 6), [.t 7], some (63, true)⟩,
  ⟨some 65, (.load true 6), [.t 1], some (63, true)⟩,
  ⟨some 66, (.call f_ingotref13_Same), [.t 64, .t 65], some (63, true)⟩,
  ⟨some 67, .pick, [.t 63, .t 66, .c (.bool false)], none⟩,
  ⟨some 68, .mov, [.t 67], none⟩,
  ⟨some 69, (.load true 6), [.t 7], some (68, true)⟩,
  ⟨some 70, (.load true 6), [.t 1], some (68, true)⟩,
  ⟨some 71, (.call f_types_Same), [.t 69, .t 70], some (68, true)⟩,
  ⟨some 72, .pick, [.t 68, .t 71, .c (.bool false)], none⟩,
  ⟨some 73, .mov, [.t 72], none⟩,
  ⟨some 74, (.load true 6), [.t 1], some (73, true)⟩,
  ⟨some 75, (.callp f_types_Text), [.t 74], some (73, true)⟩,
  ⟨some 76, (.load true 6), [.t 1], some (73, true)⟩,
  ⟨some 77, (.call f_ingotref13_Text), [.t 76], some (73, true)⟩,
  ⟨some 78, (.bin .eql), [.t 75, .t 77], some (73, true)⟩,
  ⟨some 79, .pick, [.t 73, .t 78, .c (.bool false)], none⟩,
  ⟨some 80, .mov, [.t 79], none⟩,
  ⟨some 81, .mov, [.t 4], some (80, true)⟩,
  ⟨some 82, .lens, [.t 81], some (80, true)⟩,
  ⟨some 83, (.load true 6), [.t 1], some (80, true)⟩,
  ⟨some 84, (.call f_types_Count), [.t 83], some (80, true)⟩,
  ⟨some 85, (.bin .eql), [.t 82, .t 84], some (80, true)⟩,
  ⟨some 86, .pick, [.t 80, .t 85, .c (.bool false)], none⟩,
  ⟨some 2, .mov, [.t 86], none⟩]
def ingotlaw13_TypeTrees : AFunc := ⟨87, (.seq (.region ingotlaw13_TypeTrees_r0 [1]) (.seq (.seq (.region ingotlaw13_TypeTrees_r1 [1, 10]) (.cond (.t 10) (.seq (.region ingotlaw13_TypeTrees_r2 [2]) .ret) .skip)) (.seq (.seq (.region ingotlaw13_TypeTrees_r3 [1, 13]) (.cond (.t 13) (.seq (.region ingotlaw13_TypeTrees_r4 [2]) .ret) .skip)) (.seq (.region ingotlaw13_TypeTrees_r5 [1, 3]) (.seq (.region ingotlaw13_TypeTrees_r6 [1, 3, 4]) (.seq (.region ingotlaw13_TypeTrees_r7 [1, 3, 4, 5]) (.seq (.seq (.region ingotlaw13_TypeTrees_r8 [1, 3, 4, 5, 37]) (.cond (.t 37) (.seq (.region ingotlaw13_TypeTrees_r9 [2]) .ret) .skip)) (.seq (.seq (.region ingotlaw13_TypeTrees_r10 [1, 3, 4, 5, 6]) (.block 0 (.loop ingotlaw13_TypeTrees_l0))) (.seq (.seq (.region ingotlaw13_TypeTrees_r15 [1, 4, 55]) (.cond (.t 55) (.seq (.region ingotlaw13_TypeTrees_r16 [2]) .ret) .skip)) (.seq (.region ingotlaw13_TypeTrees_r17 [1, 4, 7, 8]) (.seq (.region ingotlaw13_TypeTrees_r18 [2]) .ret))))))))))), [.t 2]⟩
def ingotlaw13_TypeCloses_r0 : List AOper := [
  ⟨some 2, (.box 6), [.t 0], none⟩,
  ⟨some 4, .mov, [.c (.bool false)], none⟩]
def ingotlaw13_TypeCloses_r1 : List AOper := [
  ⟨some 18, (.call f_ingotlaw13_known), [], none⟩,
  ⟨some 19, .unot, [.t 18], none⟩]
def ingotlaw13_TypeCloses_r2 : List AOper := [
  ⟨some 4, .mov, [.c (.bool false)], none⟩]
def ingotlaw13_TypeCloses_r3 : List AOper := [
  ⟨some 20, (.load true 6), [.t 2], none⟩,
  ⟨some 21, (.call f_ingotlaw13_Few), [.t 20], none⟩,
  ⟨some 22, .unot, [.t 21], none⟩,
  ⟨some 23, .mov, [.t 22], none⟩,
  ⟨some 24, .mov, [.t 1], some (23, false)⟩,
  ⟨some 25, .lens, [.t 24], some (23, false)⟩,
  ⟨some 26, (.bin .gtr), [.t 25, .c (.int .i64 30)], some (23, false)⟩,
  ⟨some 27, .pick, [.t 23, .c (.bool true), .t 26], none⟩,
  ⟨some 28, .mov, [.t 27], none⟩,
  ⟨some 29, (.load true 6), [.t 2], some (28, false)⟩,
  ⟨some 30, (.call f_ingotref13_Check), [.t 29], some (28, false)⟩,
  ⟨some 31, (.bin .neq), [.t 30, .c (.int .i64 0)], some (28, false)⟩,
  ⟨some 32, .pick, [.t 28, .c (.bool true), .t 31], none⟩]
def ingotlaw13_TypeCloses_r4 : List AOper := [
  ⟨some 4, .mov, [.c (.bool true)], none⟩]
def ingotlaw13_TypeCloses_r5 : List AOper := [
  ⟨some 33, (.load true 6), [.t 2], none⟩,
  ⟨some 34, (.call f_types_Flatten), [.t 33], none⟩,
  ⟨some 5, .mov, [.t 34], none⟩]
def ingotlaw13_TypeCloses_r6 : List AOper := [
  ⟨some 35, (.load true 6), [.t 2], none⟩,
  ⟨some 36, (.call f_ingotref13_Flatten), [.t 35], none⟩,
  ⟨some 6, .mov, [.t 36], none⟩]
def ingotlaw13_TypeCloses_r7 : List AOper := [
  ⟨some 38, .mov, [.t 5], none⟩,
  ⟨some 39, .mov, [.t 1], none⟩,
  ⟨some 40, (.call f_types_Close), [.t 38, .t 39], none⟩,
  ⟨some 37, .mov, [.t 40], none⟩,
  ⟨some 41, (.ext 0), [.t 37], none⟩,
  ⟨some 42, (.ext 1), [.t 37], none⟩,
  ⟨some 7, .mov, [.t 41], none⟩,
  ⟨some 8, .mov, [.t 42], none⟩]
def ingotlaw13_TypeCloses_r8 : List AOper := [
  ⟨some 44, .mov, [.t 6], none⟩,
  ⟨some 45, .mov, [.t 1], none⟩,
  ⟨some 46, (.call f_ingotref13_Close), [.t 44, .t 45], none⟩,
  ⟨some 43, .mov, [.t 46], none⟩,
  ⟨some 47, (.ext 0), [.t 43], none⟩,
  ⟨some 48, (.ext 1), [.t 43], none⟩,
  ⟨some 9, .mov, [.t 47], none⟩,
  ⟨some 10, .mov, [.t 48], none⟩]
def ingotlaw13_TypeCloses_r9 : List AOper := [
  ⟨some 49, .mov, [.t 8], none⟩,
  ⟨some 50, .mov, [.t 10], none⟩,
  ⟨some 51, (.bin .neq), [.t 49, .t 50], none⟩,
  ⟨some 52, .mov, [.t 51], none⟩,
  ⟨some 53, .mov, [.t 7], some (52, false)⟩,
  ⟨some 54, .lens, [.t 53], some (52, false)⟩,
  ⟨some 55, .mov, [.t 9], some (52, false)⟩,
  ⟨some 56, .lens, [.t 55], some (52, false)⟩,
  ⟨some 57, (.bin .neq), [.t 54, .t 56], some (52, false)⟩,
  ⟨some 58, .pick, [.t 52, .c (.bool true), .t 57], none⟩]
def ingotlaw13_TypeCloses_r10 : List AOper := [
  ⟨some 4, .mov, [.c (.bool false)], none⟩]
def ingotlaw13_TypeCloses_r11 : List AOper := [
  ⟨some 11, .mov, [.c (.int .i64 0)], none⟩]
def ingotlaw13_TypeCloses_r12 : List AOper := [
  ⟨some 59, .mov, [.t 11], none⟩,
  ⟨some 60, .mov, [.t 7], none⟩,
  ⟨some 61, .lens, [.t 60], none⟩,
  ⟨some 62, (.bin .lss), [.t 59, .t 61], none⟩]
def ingotlaw13_TypeCloses_r13 : List AOper := [
  ⟨some 65, .mov, [.t 7], none⟩,
  ⟨some 66, .mov, [.t 11], none⟩,
  ⟨some 67, (.iad 1), [.t 65, .t 66], none⟩,
  ⟨some 68, (.load false 1), [.t 67], none⟩,
  ⟨some 69, .mov, [.t 9], none⟩,
  ⟨some 70, .mov, [.t 11], none⟩,
  ⟨some 71, (.iad 1), [.t 69, .t 70], none⟩,
  ⟨some 72, (.load false 1), [.t 71], none⟩,
  ⟨some 73, (.binb .neq), [.t 68, .t 72], none⟩,
  ⟨some 74, .mov, [.t 73], none⟩,
  ⟨some 75, .mov, [.t 7], some (74, false)⟩,
  ⟨some 76, .mov, [.t 11], some (74, false)⟩,
  ⟨some 77, (.iad 1), [.t 75, .t 76], some (74, false)⟩,
  ⟨some 78, (.load false 1), [.t 77], some (74, false)⟩,
  ⟨some 79, .mov, [.t 78], some (74, false)⟩,
  ⟨some 80, .mov, [.t 6], some (79, true)⟩,
  ⟨some 81, .mov, [.t 11], some (79, true)⟩,
  ⟨some 82, (.iad 9), [.t 80, .t 81], some (79, true)⟩,
  ⟨some 83, (.fad 7), [.t 82], some (79, true)⟩,
  ⟨some 84, (.load false 1), [.t 83], some (79, true)⟩,
  ⟨some 85, (.bin .geq), [.t 84, .c (.int .i64 0)], some (79, true)⟩,
  ⟨some 86, .pick, [.t 79, .t 85, .c (.bool false)], some (74, false)⟩,
  ⟨some 87, .mov, [.t 86], some (74, false)⟩,
  ⟨some 88, .mov, [.t 7], some (87, true)⟩,
  ⟨some 89, .mov, [.t 6], some (87, true)⟩,
  ⟨some 90, .mov, [.t 11], some (87, true)⟩,
  ⟨some 91, (.iad 9), [.t 89, .t 90], some (87, true)⟩,
  ⟨some 92, (.fad 7), [.t 91], some (87, true)⟩,
  ⟨some 93, (.load false 1), [.t 92], some (87, true)⟩,
  ⟨some 94, (.iad 1), [.t 88, .t 93], some (87, true)⟩,
  ⟨some 95, (.load false 1), [.t 94], some (87, true)⟩,
  ⟨some 96, .unot, [.t 95], some (87, true)⟩,
  ⟨some 97, .pick, [.t 87, .t 96, .c (.bool false)], some (74, false)⟩,
  ⟨some 98, .pick, [.t 74, .c (.bool true), .t 97], none⟩]
def ingotlaw13_TypeCloses_r14 : List AOper := [
  ⟨some 4, .mov, [.c (.bool false)], none⟩]
def ingotlaw13_TypeCloses_r15 : List AOper := [
  ⟨some 99, .mov, [.t 7], none⟩,
  ⟨some 100, .mov, [.t 11], none⟩,
  ⟨some 101, (.iad 1), [.t 99, .t 100], none⟩,
  ⟨some 102, (.load false 1), [.t 101], none⟩,
  ⟨some 103, .mov, [.t 102], none⟩,
  ⟨some 104, .mov, [.t 6], some (103, true)⟩,
  ⟨some 105, .mov, [.t 11], some (103, true)⟩,
  ⟨some 106, (.iad 9), [.t 104, .t 105], some (103, true)⟩,
  ⟨some 107, (.fad 0), [.t 106], some (103, true)⟩,
  ⟨some 108, (.fad 0), [.t 107], some (103, true)⟩,
  ⟨some 109, (.load false 1), [.t 108], some (103, true)⟩,
  ⟨some 110, (.bin .neq), [.t 109, .c (.int .i64 12)], some (103, true)⟩,
  ⟨some 111, .pick, [.t 103, .t 110, .c (.bool false)], none⟩]
def ingotlaw13_TypeCloses_r16 : List AOper := [
  ⟨some 12, .mov, [.c (.int .i64 0)], none⟩]
def ingotlaw13_TypeCloses_r17 : List AOper := [
  ⟨some 112, .mov, [.t 12], none⟩,
  ⟨some 113, .mov, [.t 6], none⟩,
  ⟨some 114, .mov, [.t 11], none⟩,
  ⟨some 115, (.iad 9), [.t 113, .t 114], none⟩,
  ⟨some 116, (.fad 6), [.t 115], none⟩,
  ⟨some 117, (.load false 1), [.t 116], none⟩,
  ⟨some 118, .lens, [.t 117], none⟩,
  ⟨some 119, (.bin .lss), [.t 112, .t 118], none⟩]
def ingotlaw13_TypeCloses_r18 : List AOper := [
  ⟨some 122, .mov, [.t 7], none⟩,
  ⟨some 123, .mov, [.t 6], none⟩,
  ⟨some 124, .mov, [.t 11], none⟩,
  ⟨some 125, (.iad 9), [.t 123, .t 124], none⟩,
  ⟨some 126, (.fad 6), [.t 125], none⟩,
  ⟨some 127, (.load false 1), [.t 126], none⟩,
  ⟨some 128, .mov, [.t 12], none⟩,
  ⟨some 129, (.iad 1), [.t 127, .t 128], none⟩,
  ⟨some 130, (.load false 1), [.t 129], none⟩,
  ⟨some 131, (.iad 1), [.t 122, .t 130], none⟩,
  ⟨some 132, (.load false 1), [.t 131], none⟩,
  ⟨some 133, .unot, [.t 132], none⟩]
def ingotlaw13_TypeCloses_r19 : List AOper := [
  ⟨some 4, .mov, [.c (.bool false)], none⟩]
def ingotlaw13_TypeCloses_r20 : List AOper := [
  ⟨some 120, .mov, [.t 12], none⟩,
  ⟨some 121, (.bin .add), [.t 120, .c (.int .i64 1)], none⟩,
  ⟨some 12, .mov, [.t 121], none⟩]
def ingotlaw13_TypeCloses_l0 : ACode := (.seq (.seq (.region ingotlaw13_TypeCloses_r17 [5, 6, 7, 9, 10, 11, 12, 119]) (.cond (.t 119) .skip (.exit 2))) (.seq (.block 3 (.seq (.region ingotlaw13_TypeCloses_r18 [5, 6, 7, 9, 10, 11, 12, 133]) (.cond (.t 133) (.seq (.region ingotlaw13_TypeCloses_r19 [4]) .ret) .skip))) (.region ingotlaw13_TypeCloses_r20 [5, 6, 7, 9, 10, 11, 12])))
def ingotlaw13_TypeCloses_r21 : List AOper := [
  ⟨some 63, .mov, [.t 11], none⟩,
  ⟨some 64, (.bin .add), [.t 63, .c (.int .i64 1)], none⟩,
  ⟨some 11, .mov, [.t 64], none⟩]
def ingotlaw13_TypeCloses_l1 : ACode := (.seq (.seq (.region ingotlaw13_TypeCloses_r12 [5, 6, 7, 9, 10, 11, 62]) (.cond (.t 62) .skip (.exit 0))) (.seq (.block 1 (.seq (.seq (.region ingotlaw13_TypeCloses_r13 [5, 6, 7, 9, 10, 11, 98]) (.cond (.t 98) (.seq (.region ingotlaw13_TypeCloses_r14 [4]) .ret) .skip)) (.seq (.region ingotlaw13_TypeCloses_r15 [5, 6, 7, 9, 10, 11, 111]) (.cond (.t 111) (.seq (.region ingotlaw13_TypeCloses_r16 [5, 6, 7, 9, 10, 11, 12]) (.block 2 (.loop ingotlaw13_TypeCloses_l0))) .skip)))) (.region ingotlaw13_TypeCloses_r21 [5, 6, 7, 9, 10, 11])))
def ingotlaw13_TypeCloses_r22 : List AOper := [
  ⟨some 134, .mov, [.t 10], none⟩,
  ⟨some 135, (.bin .neq), [.t 134, .c (.int .i64 0)], none⟩]
def ingotlaw13_TypeCloses_r23 : List AOper := [
  ⟨some 4, .mov, [.c (.bool true)], none⟩]
def ingotlaw13_TypeCloses_r24 : List AOper := [
  ⟨some 13, .mov, [.c (.slc 0 [] true)], none⟩]
def ingotlaw13_TypeCloses_r25 : List AOper := [
  ⟨some 14, .mov, [.c (.int .i64 0)], none⟩]
def ingotlaw13_TypeCloses_r26 : List AOper := [
  ⟨some 136, .mov, [.t 14], none⟩,
  ⟨some 137, .mov, [.t 7], none⟩,
  ⟨some 138, .lens, [.t 137], none⟩,
  ⟨some 139, (.bin .lss), [.t 136, .t 138], none⟩]
def ingotlaw13_TypeCloses_r27 : List AOper := [
  ⟨some 142, .mov, [.t 7], none⟩,
  ⟨some 143, .mov, [.t 14], none⟩,
  ⟨some 144, (.iad 1), [.t 142, .t 143], none⟩,
  ⟨some 145, (.load false 1), [.t 144], none⟩,
  ⟨some 146, .mov, [.t 145], none⟩,
  ⟨some 147, .mov, [.t 6], some (146, true)⟩,
  ⟨some 148, .mov, [.t 14], some (146, true)⟩,
  ⟨some 149, (.iad 9), [.t 147, .t 148], some (146, true)⟩,
  ⟨some 150, (.fad 0), [.t 149], some (146, true)⟩,
  ⟨some 151, (.fad 0), [.t 150], some (146, true)⟩,
  ⟨some 152, (.load false 1), [.t 151], some (146, true)⟩,
  ⟨some 153, (.call f_ingotref13_Leaf), [.t 152], some (146, true)⟩,
  ⟨some 154, .mov, [.t 153], some (146, true)⟩,
  ⟨some 155, .mov, [.t 6], some (154, false)⟩,
  ⟨some 156, .mov, [.t 14], some (154, false)⟩,
  ⟨some 157, (.iad 9), [.t 155, .t 156], some (154, false)⟩,
  ⟨some 158, (.fad 0), [.t 157], some (154, false)⟩,
  ⟨some 159, (.fad 0), [.t 158], some (154, false)⟩,
  ⟨some 160, (.load false 1), [.t 159], some (154, false)⟩,
  ⟨some 161, (.bin .neq), [.t 160, .c (.int .i64 12)], some (154, false)⟩,
  ⟨some 162, .pick, [.t 154, .c (.bool true), .t 161], some (146, true)⟩,
  ⟨some 163, .pick, [.t 146, .t 162, .c (.bool false)], none⟩]
def ingotlaw13_TypeCloses_r28 : List AOper := [
  ⟨some 164, .mov, [.t 13], none⟩,
  ⟨some 165, .mov, [.t 14], none⟩,
  ⟨some 166, (.bsl 1), [.t 165], none⟩,
  ⟨some 167, (.app 1 8), [.t 164, .t 166], none⟩,
  ⟨some 13, .mov, [.t 167], none⟩]
def ingotlaw13_TypeCloses_r29 : List AOper := [
  ⟨some 140, .mov, [.t 14], none⟩,
  ⟨some 141, (.bin .add), [.t 140, .c (.int .i64 1)], none⟩,
  ⟨some 14, .mov, [.t 141], none⟩]
def ingotlaw13_TypeCloses_l2 : ACode := (.seq (.seq (.region ingotlaw13_TypeCloses_r26 [5, 6, 7, 13, 14, 139]) (.cond (.t 139) .skip (.exit 4))) (.seq (.block 5 (.seq (.region ingotlaw13_TypeCloses_r27 [5, 6, 7, 13, 14, 163]) (.cond (.t 163) (.region ingotlaw13_TypeCloses_r28 [5, 6, 7, 13, 14]) .skip))) (.region ingotlaw13_TypeCloses_r29 [5, 6, 7, 13, 14])))
def ingotlaw13_TypeCloses_r30 : List AOper := [
  ⟨some 169, .mov, [.t 5], none⟩,
  ⟨some 170, .mov, [.t 13], none⟩,
  ⟨some 171, (.call f_types_Close), [.t 169, .t 170], none⟩,
  ⟨some 168, .mov, [.t 171], none⟩,
  ⟨some 172, (.ext 0), [.t 168], none⟩,
  ⟨some 173, (.ext 1), [.t 168], none⟩,
  ⟨some 15, .mov, [.t 172], none⟩,
  ⟨some 16, .mov, [.t 173], none⟩]
def ingotlaw13_TypeCloses_r31 : List AOper := [
  ⟨some 174, .mov, [.t 15], none⟩,
  ⟨some 175, .lens, [.t 174], none⟩,
  ⟨some 176, .mov, [.t 7], none⟩,
  ⟨some 177, .lens, [.t 176], none⟩,
  ⟨some 178, (.bin .gtr), [.t 175, .t 177], none⟩]
def ingotlaw13_TypeCloses_r32 : List AOper := [
  ⟨some 4, .mov, [.c (.bool false)], none⟩]
def ingotlaw13_TypeCloses_r33 : List AOper := [
  ⟨some 17, .mov, [.c (.int .i64 0)], none⟩]
def ingotlaw13_TypeCloses_r34 : List AOper := [
  ⟨some 179, .mov, [.t 17], none⟩,
  ⟨some 180, .mov, [.t 15], none⟩,
  ⟨some 181, .lens, [.t 180], none⟩,
  ⟨some 182, (.bin .lss), [.t 179, .t 181], none⟩,
  ⟨some 183, .mov, [.t 182], none⟩,
  ⟨some 184, .mov, [.t 13], some (183, true)⟩,
  ⟨some 185, .lens, [.t 184], some (183, true)⟩,
  ⟨some 186, (.bin .gtr), [.t 185, .c (.int .i64 0)], some (183, true)⟩,
  ⟨some 187, .pick, [.t 183, .t 186, .c (.bool false)], none⟩]
def ingotlaw13_TypeCloses_r35 : List AOper := [
  ⟨some 190, .mov, [.t 15], none⟩,
  ⟨some 191, .mov, [.t 17], none⟩,
  ⟨some 192, (.iad 1), [.t 190, .t 191], none⟩,
  ⟨some 193, (.load false 1), [.t 192], none⟩,
  ⟨some 194, .mov, [.t 193], none⟩,
  ⟨some 195, .mov, [.t 7], some (194, true)⟩,
  ⟨some 196, .mov, [.t 17], some (194, true)⟩,
  ⟨some 197, (.iad 1), [.t 195, .t 196], some (194, true)⟩,
  ⟨some 198, (.load false 1), [.t 197], some (194, true)⟩,
  ⟨some 199, .unot, [.t 198], some (194, true)⟩,
  ⟨some 200, .pick, [.t 194, .t 199, .c (.bool false)], none⟩]
def ingotlaw13_TypeCloses_r36 : List AOper := [
  ⟨some 4, .mov, [.c (.bool false)], none⟩]
def ingotlaw13_TypeCloses_r37 : List AOper := [
  ⟨some 188, .mov, [.t 17], none⟩,
  ⟨some 189, (.bin .add), [.t 188, .c (.int .i64 1)], none⟩,
  ⟨some 17, .mov, [.t 189], none⟩]
def ingotlaw13_TypeCloses_l3 : ACode := (.seq (.seq (.region ingotlaw13_TypeCloses_r34 [7, 13, 15, 16, 17, 187]) (.cond (.t 187) .skip (.exit 6))) (.seq (.block 7 (.seq (.region ingotlaw13_TypeCloses_r35 [7, 13, 15, 16, 17, 200]) (.cond (.t 200) (.seq (.region ingotlaw13_TypeCloses_r36 [4]) .ret) .skip))) (.region ingotlaw13_TypeCloses_r37 [7, 13, 15, 16, 17])))
def ingotlaw13_TypeCloses_r38 : List AOper := [
  ⟨some 201, .mov, [.t 16], none⟩,
  ⟨some 202, (.bin .eql), [.t 201, .c (.int .i64 0)], none⟩,
  ⟨some 4, .mov, [.t 202], none⟩]
def ingotlaw13_TypeCloses : AFunc := ⟨203, (.seq (.region ingotlaw13_TypeCloses_r0 [1, 2]) (.seq (.seq (.region ingotlaw13_TypeCloses_r1 [1, 2, 19]) (.cond (.t 19) (.seq (.region ingotlaw13_TypeCloses_r2 [4]) .ret) .skip)) (.seq (.seq (.region ingotlaw13_TypeCloses_r3 [1, 2, 32]) (.cond (.t 32) (.seq (.region ingotlaw13_TypeCloses_r4 [4]) .ret) .skip)) (.seq (.region ingotlaw13_TypeCloses_r5 [1, 2, 5]) (.seq (.region ingotlaw13_TypeCloses_r6 [1, 5, 6]) (.seq (.region ingotlaw13_TypeCloses_r7 [1, 5, 6, 7, 8]) (.seq (.region ingotlaw13_TypeCloses_r8 [5, 6, 7, 8, 9, 10]) (.seq (.seq (.region ingotlaw13_TypeCloses_r9 [5, 6, 7, 9, 10, 58]) (.cond (.t 58) (.seq (.region ingotlaw13_TypeCloses_r10 [4]) .ret) .skip)) (.seq (.seq (.region ingotlaw13_TypeCloses_r11 [5, 6, 7, 9, 10, 11]) (.block 0 (.loop ingotlaw13_TypeCloses_l1))) (.seq (.seq (.region ingotlaw13_TypeCloses_r22 [5, 6, 7, 135]) (.cond (.t 135) (.seq (.region ingotlaw13_TypeCloses_r23 [4]) .ret) .skip)) (.seq (.region ingotlaw13_TypeCloses_r24 [5, 6, 7, 13]) (.seq (.seq (.region ingotlaw13_TypeCloses_r25 [5, 6, 7, 13, 14]) (.block 4 (.loop ingotlaw13_TypeCloses_l2))) (.seq (.region ingotlaw13_TypeCloses_r30 [7, 13, 15, 16]) (.seq (.seq (.region ingotlaw13_TypeCloses_r31 [7, 13, 15, 16, 178]) (.cond (.t 178) (.seq (.region ingotlaw13_TypeCloses_r32 [4]) .ret) .skip)) (.seq (.seq (.region ingotlaw13_TypeCloses_r33 [7, 13, 15, 16, 17]) (.block 6 (.loop ingotlaw13_TypeCloses_l3))) (.seq (.region ingotlaw13_TypeCloses_r38 [4]) .ret)))))))))))))))), [.t 4]⟩
def ingotlaw13_TypeTwo_r0 : List AOper := [
  ⟨some 3, (.box 6), [.t 0], none⟩,
  ⟨some 4, (.box 6), [.t 1], none⟩,
  ⟨some 6, .mov, [.c (.bool false)], none⟩]
def ingotlaw13_TypeTwo_r1 : List AOper := [
  ⟨some 8, (.call f_ingotlaw13_known), [], none⟩,
  ⟨some 9, .unot, [.t 8], none⟩]
def ingotlaw13_TypeTwo_r2 : List AOper := [
  ⟨some 6, .mov, [.c (.bool false)], none⟩]
def ingotlaw13_TypeTwo_r3 : List AOper := [
  ⟨some 10, (.load true 6), [.t 3], none⟩,
  ⟨some 11, (.call f_ingotlaw13_Few), [.t 10], none⟩,
  ⟨some 12, .unot, [.t 11], none⟩,
  ⟨some 13, .mov, [.t 12], none⟩,
  ⟨some 14, (.load true 6), [.t 4], some (13, false)⟩,
  ⟨some 15, (.call f_ingotlaw13_Few), [.t 14], some (13, false)⟩,
  ⟨some 16, .unot, [.t 15], some (13, false)⟩,
  ⟨some 17, .pick, [.t 13, .c (.bool true), .t 16], none⟩]
def ingotlaw13_TypeTwo_r4 : List AOper := [
  ⟨some 6, .mov, [.c (.bool true)], none⟩]
def ingotlaw13_TypeTwo_r5 : List AOper := [
  ⟨some 18, (.load true 6), [.t 3], none⟩,
  ⟨some 19, (.load true 6), [.t 4], none⟩,
  ⟨some 20, (.call f_types_Same), [.t 18, .t 19], none⟩,
  ⟨some 7, .mov, [.t 20], none⟩]
def ingotlaw13_TypeTwo_r6 : List AOper := [
  ⟨some 21, .mov, [.t 7], none⟩,
  ⟨some 22, (.load true 6), [.t 3], none⟩,
  ⟨some 23, (.load true 6), [.t 4], none⟩,
  ⟨some 24, (.call f_ingotref13_Same), [.t 22, .t 23], none⟩,
  ⟨some 25, (.binb .neq), [.t 21, .t 24], none⟩,
  ⟨some 26, .mov, [.t 25], none⟩,
  ⟨some 27, .mov, [.t 7], some (26, false)⟩,
  ⟨some 28, (.load true 6), [.t 4], some (26, false)⟩,
  ⟨some 29, (.load true 6), [.t 3], some (26, false)⟩,
  ⟨some 30, (.call f_types_Same), [.t 28, .t 29], some (26, false)⟩,
  ⟨some 31, (.binb .neq), [.t 27, .t 30], some (26, false)⟩,
  ⟨some 32, .pick, [.t 26, .c (.bool true), .t 31], none⟩,
  ⟨some 33, .mov, [.t 32], none⟩,
  ⟨some 34, (.load true 6), [.t 3], some (33, false)⟩,
  ⟨some 35, (.load true 6), [.t 3], some (33, false)⟩,
  ⟨some 36, (.call f_types_Same), [.t 34, .t 35], some (33, false)⟩,
  ⟨some 37, .unot, [.t 36], some (33, false)⟩,
  ⟨some 38, .pick, [.t 33, .c (.bool true), .t 37], none⟩,
  ⟨some 39, .mov, [.t 38], none⟩,
  ⟨some 40, .mov, [.t 2], some (39, false)⟩,
  ⟨some 41, (.call f_types_Word), [.t 40], some (39, false)⟩,
  ⟨some 42, .mov, [.t 2], some (39, false)⟩,
  ⟨some 43, (.call f_ingotref13_Word), [.t 42], some (39, false)⟩,
  ⟨some 44, (.bin .neq), [.t 41, .t 43], some (39, false)⟩,
  ⟨some 45, .pick, [.t 39, .c (.bool true), .t 44], none⟩,
  ⟨some 46, .mov, [.t 45], none⟩,
  ⟨some 47, .mov, [.t 2], some (46, false)⟩,
  ⟨some 48, (.call f_types_Leaf), [.t 47], some (46, false)⟩,
  ⟨some 49, .mov, [.t 2], some (46, false)⟩,
  ⟨some 50, (.call f_ingotref13_Leaf), [.t 49], some (46, false)⟩,
  ⟨some 51, (.binb .neq), [.t 48, .t 50], some (46, false)⟩,
  ⟨some 52, .pick, [.t 46, .c (.bool true), .t 51], none⟩]
def ingotlaw13_TypeTwo_r7 : List AOper := [
  ⟨some 6, .mov, [.c (.bool false)], none⟩]
def ingotlaw13_TypeTwo_r8 : List AOper := [
  ⟨some 53, .mov, [.t 7], none⟩,
  ⟨some 54, .unot, [.t 53], none⟩,
  ⟨some 55, .mov, [.t 54], none⟩,
  ⟨some 56, (.load true 6), [.t 3], some (55, false)⟩,
  ⟨some 57, (.callp f_types_Check), [.t 56], some (55, false)⟩,
  ⟨some 58, (.load true 6), [.t 4], some (55, false)⟩,
  ⟨some 59, (.call f_types_Check), [.t 58], some (55, false)⟩,
  ⟨some 60, (.bin .eql), [.t 57, .t 59], some (55, false)⟩,
  ⟨some 61, .mov, [.t 60], some (55, false)⟩,
  ⟨some 62, (.load true 6), [.t 3], some (61, true)⟩,
  ⟨some 63, (.callp f_types_Count), [.t 62], some (61, true)⟩,
  ⟨some 64, (.load true 6), [.t 4], some (61, true)⟩,
  ⟨some 65, (.call f_types_Count), [.t 64], some (61, true)⟩,
  ⟨some 66, (.bin .eql), [.t 63, .t 65], some (61, true)⟩,
  ⟨some 67, .pick, [.t 61, .t 66, .c (.bool false)], some (55, false)⟩,
  ⟨some 68, .pick, [.t 55, .c (.bool true), .t 67], none⟩,
  ⟨some 6, .mov, [.t 68], none⟩]
def ingotlaw13_TypeTwo : AFunc := ⟨69, (.seq (.region ingotlaw13_TypeTwo_r0 [2, 3, 4]) (.seq (.seq (.region ingotlaw13_TypeTwo_r1 [2, 3, 4, 9]) (.cond (.t 9) (.seq (.region ingotlaw13_TypeTwo_r2 [6]) .ret) .skip)) (.seq (.seq (.region ingotlaw13_TypeTwo_r3 [2, 3, 4, 17]) (.cond (.t 17) (.seq (.region ingotlaw13_TypeTwo_r4 [6]) .ret) .skip)) (.seq (.region ingotlaw13_TypeTwo_r5 [2, 3, 4, 7]) (.seq (.seq (.region ingotlaw13_TypeTwo_r6 [3, 4, 7, 52]) (.cond (.t 52) (.seq (.region ingotlaw13_TypeTwo_r7 [6]) .ret) .skip)) (.seq (.region ingotlaw13_TypeTwo_r8 [6]) .ret)))))), [.t 6]⟩
def ingotlaw13_TypeDepths_r0 : List AOper := [
  ⟨some 2, .mov, [.c (.bool false)], none⟩]
def ingotlaw13_TypeDepths_r1 : List AOper := [
  ⟨some 6, (.call f_ingotlaw13_known), [], none⟩,
  ⟨some 7, .unot, [.t 6], none⟩]
def ingotlaw13_TypeDepths_r2 : List AOper := [
  ⟨some 2, .mov, [.c (.bool false)], none⟩]
def ingotlaw13_TypeDepths_r3 : List AOper := [
  ⟨some 8, .mov, [.t 0], none⟩,
  ⟨some 9, (.bin .lss), [.t 8, .c (.int .i64 0)], none⟩,
  ⟨some 10, .mov, [.t 9], none⟩,
  ⟨some 11, .mov, [.t 0], some (10, false)⟩,
  ⟨some 12, (.bin .gtr), [.t 11, .c (.int .i64 30)], some (10, false)⟩,
  ⟨some 13, .pick, [.t 10, .c (.bool true), .t 12], none⟩]
def ingotlaw13_TypeDepths_r4 : List AOper := [
  ⟨some 2, .mov, [.c (.bool true)], none⟩]
def ingotlaw13_TypeDepths_r5 : List AOper := [
  ⟨some 14, .mov, [.t 0], none⟩,
  ⟨some 15, (.call f_ingotlaw13_chain), [.t 14], none⟩,
  ⟨some 3, (.alloc (.agg [(.int .i64 0), (.slc 0 [] true), (.slc 0 [] true), (.int .i64 0), (.int .i64 0), (.int .i64 0)])), [], none⟩,
  ⟨none, (.store 6), [.t 3, .t 15], none⟩]
def ingotlaw13_TypeDepths_r6 : List AOper := [
  ⟨some 16, (.load true 6), [.t 3], none⟩,
  ⟨some 17, (.call f_types_Check), [.t 16], none⟩,
  ⟨some 4, .mov, [.t 17], none⟩]
def ingotlaw13_TypeDepths_r7 : List AOper := [
  ⟨some 18, (.load true 6), [.t 3], none⟩,
  ⟨some 19, (.call f_types_Flatten), [.t 18], none⟩,
  ⟨some 5, .mov, [.t 19], none⟩]
def ingotlaw13_TypeDepths_r8 : List AOper := [
  ⟨some 20, .mov, [.t 0], none⟩,
  ⟨some 21, (.bin .add), [.t 20, .c (.int .i64 1)], none⟩,
  ⟨some 22, (.bin .gtr), [.t 21, .c (.int .i64 16)], none⟩]
def ingotlaw13_TypeDepths_r9 : List AOper := [
  ⟨some 23, .mov, [.t 4], none⟩,
  ⟨some 24, (.bin .eql), [.t 23, .c (.int .i64 4)], none⟩,
  ⟨some 25, .mov, [.t 24], none⟩,
  ⟨some 26, .mov, [.t 5], some (25, true)⟩,
  ⟨some 27, .lens, [.t 26], some (25, true)⟩,
  ⟨some 28, (.bin .eql), [.t 27, .c (.int .i64 0)], some (25, true)⟩,
  ⟨some 29, .pick, [.t 25, .t 28, .c (.bool false)], none⟩,
  ⟨some 2, .mov, [.t 29], none⟩]
def ingotlaw13_TypeDepths_r10 : List AOper := [
  ⟨some 30, .mov, [.t 4], none⟩,
  ⟨some 31, (.bin .eql), [.t 30, .c (.int .i64 0)], none⟩,
  ⟨some 32, .mov, [.t 31], none⟩,
  ⟨some 33, .mov, [.t 5], some (32, true)⟩,
  ⟨some 34, .lens, [.t 33], some (32, true)⟩,
  ⟨some 35, .mov, [.t 0], some (32, true)⟩,
  ⟨some 36, (.bin .add), [.t 35, .c (.int .i64 1)], some (32, true)⟩,
  ⟨some 37, (.bin .eql), [.t 34, .t 36], some (32, true)⟩,
  ⟨some 38, .pick, [.t 32, .t 37, .c (.bool false)], none⟩,
  ⟨some 39, .mov, [.t 38], none⟩,
  ⟨some 40, .mov, [.t 5], some (39, true)⟩,
  ⟨some 41, .mov, [.t 0], some (39, true)⟩,
  ⟨some 42, (.iad 8), [.t 40, .t 41], some (39, true)⟩,
  ⟨some 43, (.fad 7), [.t 42], some (39, true)⟩,
  ⟨some 44, (.load false 1), [.t 43], some (39, true)⟩,
  ⟨some 45, .mov, [.t 0], some (39, true)⟩,
  ⟨some 46, (.bin .add), [.t 45, .c (.int .i64 1)], some (39, true)⟩,
  ⟨some 47, (.bin .eql), [.t 44, .t 46], some (39, true)⟩,
  ⟨some 48, .pick, [.t 39, .t 47, .c (.bool false)], none⟩,
  ⟨some 49, .mov, [.t 48], none⟩,
  ⟨some 50, .mov, [.t 5], some (49, true)⟩,
  ⟨some 51, .mov, [.t 0], some (49, true)⟩,
  ⟨some 52, (.iad 8), [.t 50, .t 51], some (49, true)⟩,
  ⟨some 53, (.fad 6), [.t 52], some (49, true)⟩,
  ⟨some 54, (.load false 1), [.t 53], some (49, true)⟩,
  ⟨some 55, .mov, [.t 0], some (49, true)⟩,
  ⟨some 56, (.bin .sub), [.t 55, .c (.int .i64 1)], some (49, true)⟩,
  ⟨some 57, (.bin .eql), [.t 54, .t 56], some (49, true)⟩,
  ⟨some 58, .pick, [.t 49, .t 57, .c (.bool false)], none⟩,
  ⟨some 2, .mov, [.t 58], none⟩]
def ingotlaw13_TypeDepths : AFunc := ⟨59, (.seq (.region ingotlaw13_TypeDepths_r0 [0]) (.seq (.seq (.region ingotlaw13_TypeDepths_r1 [0, 7]) (.cond (.t 7) (.seq (.region ingotlaw13_TypeDepths_r2 [2]) .ret) .skip)) (.seq (.seq (.region ingotlaw13_TypeDepths_r3 [0, 13]) (.cond (.t 13) (.seq (.region ingotlaw13_TypeDepths_r4 [2]) .ret) .skip)) (.seq (.region ingotlaw13_TypeDepths_r5 [0, 3]) (.seq (.region ingotlaw13_TypeDepths_r6 [0, 3, 4]) (.seq (.region ingotlaw13_TypeDepths_r7 [0, 4, 5]) (.seq (.seq (.region ingotlaw13_TypeDepths_r8 [0, 4, 5, 22]) (.cond (.t 22) (.seq (.region ingotlaw13_TypeDepths_r9 [2]) .ret) .skip)) (.seq (.region ingotlaw13_TypeDepths_r10 [2]) .ret)))))))), [.t 2]⟩
def ingotlaw13_TypeCounts_r0 : List AOper := [
  ⟨some 2, .mov, [.c (.bool false)], none⟩]
def ingotlaw13_TypeCounts_r1 : List AOper := [
  ⟨some 6, (.call f_ingotlaw13_known), [], none⟩,
  ⟨some 7, .unot, [.t 6], none⟩]
def ingotlaw13_TypeCounts_r2 : List AOper := [
  ⟨some 2, .mov, [.c (.bool false)], none⟩]
def ingotlaw13_TypeCounts_r3 : List AOper := [
  ⟨some 8, .mov, [.t 0], none⟩,
  ⟨some 9, (.bin .lss), [.t 8, .c (.int .i64 0)], none⟩,
  ⟨some 10, .mov, [.t 9], none⟩,
  ⟨some 11, .mov, [.t 0], some (10, false)⟩,
  ⟨some 12, (.bin .gtr), [.t 11, .c (.int .i64 130)], some (10, false)⟩,
  ⟨some 13, .pick, [.t 10, .c (.bool true), .t 12], none⟩]
def ingotlaw13_TypeCounts_r4 : List AOper := [
  ⟨some 2, .mov, [.c (.bool true)], none⟩]
def ingotlaw13_TypeCounts_r5 : List AOper := [
  ⟨some 14, (.bld [(.int .i64 0), (.slc 0 [] true), (.slc 0 [] true), (.int .i64 0), (.int .i64 0), (.int .i64 0)] [(0, 1)]), [.c (.int .i64 12)], none⟩,
  ⟨some 3, (.alloc (.agg [(.int .i64 0), (.slc 0 [] true), (.slc 0 [] true), (.int .i64 0), (.int .i64 0), (.int .i64 0)])), [], none⟩,
  ⟨none, (.store 6), [.t 3, .t 14], none⟩]
def ingotlaw13_TypeCounts_r6 : List AOper := [
  ⟨some 4, .mov, [.c (.int .i64 0)], none⟩]
def ingotlaw13_TypeCounts_r7 : List AOper := [
  ⟨some 15, .mov, [.t 4], none⟩,
  ⟨some 16, .mov, [.t 0], none⟩,
  ⟨some 17, (.bin .lss), [.t 15, .t 16], none⟩]
def ingotlaw13_TypeCounts_r8 : List AOper := [
  ⟨some 20, (.fad 1), [.t 3], none⟩,
  ⟨some 21, (.load false 1), [.t 20], none⟩,
  ⟨some 22, .mov, [.t 4], none⟩,
  ⟨some 23, (.bin .quo), [.t 22, .c (.int .i64 100)], none⟩,
  ⟨some 24, (.bin .add), [.c (.int .i64 48), .t 23], none⟩,
  ⟨some 25, (.conv .u8), [.t 24], none⟩,
  ⟨some 26, .mov, [.t 4], none⟩,
  ⟨some 27, (.bin .quo), [.t 26, .c (.int .i64 10)], none⟩,
  ⟨some 28, (.bin .rem), [.t 27, .c (.int .i64 10)], none⟩,
  ⟨some 29, (.bin .add), [.c (.int .i64 48), .t 28], none⟩,
  ⟨some 30, (.conv .u8), [.t 29], none⟩,
  ⟨some 31, .mov, [.t 4], none⟩,
  ⟨some 32, (.bin .rem), [.t 31, .c (.int .i64 10)], none⟩,
  ⟨some 33, (.bin .add), [.c (.int .i64 48), .t 32], none⟩,
  ⟨some 34, (.conv .u8), [.t 33], none⟩,
  ⟨some 35, (.bsl 1), [.t 25, .t 30, .t 34], none⟩,
  ⟨some 36, .b2s, [.t 35], none⟩,
  ⟨some 37, (.bin .add), [.c (.str [102]), .t 36], none⟩,
  ⟨some 38, (.bsl 1), [.t 37], none⟩,
  ⟨some 39, (.app 1 16), [.t 21, .t 38], none⟩,
  ⟨some 40, (.fad 1), [.t 3], none⟩,
  ⟨none, (.store 1), [.t 40, .t 39], none⟩]
def ingotlaw13_TypeCounts_r9 : List AOper := [
  ⟨some 41, (.fad 2), [.t 3], none⟩,
  ⟨some 42, (.load false 1), [.t 41], none⟩,
  ⟨some 43, (.bld [(.int .i64 0), (.slc 0 [] true), (.slc 0 [] true), (.int .i64 0), (.int .i64 0), (.int .i64 0)] [(0, 1)]), [.c (.int .i64 1)], none⟩,
  ⟨some 44, (.bsl 6), [.t 43], none⟩,
  ⟨some 45, (.app 6 80), [.t 42, .t 44], none⟩,
  ⟨some 46, (.fad 2), [.t 3], none⟩,
  ⟨none, (.store 1), [.t 46, .t 45], none⟩]
def ingotlaw13_TypeCounts_r10 : List AOper := [
  ⟨some 18, .mov, [.t 4], none⟩,
  ⟨some 19, (.bin .add), [.t 18, .c (.int .i64 1)], none⟩,
  ⟨some 4, .mov, [.t 19], none⟩]
def ingotlaw13_TypeCounts_l0 : ACode := (.seq (.seq (.region ingotlaw13_TypeCounts_r7 [0, 3, 4, 17]) (.cond (.t 17) .skip (.exit 0))) (.seq (.block 1 (.seq (.region ingotlaw13_TypeCounts_r8 [0, 3, 4]) (.region ingotlaw13_TypeCounts_r9 [0, 3, 4]))) (.region ingotlaw13_TypeCounts_r10 [0, 3, 4])))
def ingotlaw13_TypeCounts_r11 : List AOper := [
  ⟨some 47, (.load true 6), [.t 3], none⟩,
  ⟨some 48, (.call f_types_Check), [.t 47], none⟩,
  ⟨some 5, .mov, [.t 48], none⟩]
def ingotlaw13_TypeCounts_r12 : List AOper := [
  ⟨some 49, .mov, [.t 0], none⟩,
  ⟨some 50, (.bin .add), [.t 49, .c (.int .i64 1)], none⟩,
  ⟨some 51, (.bin .gtr), [.t 50, .c (.int .i64 100)], none⟩]
def ingotlaw13_TypeCounts_r13 : List AOper := [
  ⟨some 52, .mov, [.t 5], none⟩,
  ⟨some 53, (.bin .eql), [.t 52, .c (.int .i64 4)], none⟩,
  ⟨some 54, .mov, [.t 53], none⟩,
  ⟨some 55, (.load true 6), [.t 3], some (54, true)⟩,
  ⟨some 56, (.call f_types_Flatten), [.t 55], some (54, true)⟩,
  ⟨some 57, .lens, [.t 56], some (54, true)⟩,
  ⟨some 58, (.bin .eql), [.t 57, .c (.int .i64 0)], some (54, true)⟩,
  ⟨some 59, .pick, [.t 54, .t 58, .c (.bool false)], none⟩,
  ⟨some 2, .mov, [.t 59], none⟩]
def ingotlaw13_TypeCounts_r14 : List AOper := [
  ⟨some 60, .mov, [.t 5], none⟩,
  ⟨some 61, (.bin .eql), [.t 60, .c (.int .i64 0)], none⟩,
  ⟨some 62, .mov, [.t 61], none⟩,
  ⟨some 63, (.load true 6), [.t 3], some (62, true)⟩,
  ⟨some 64, (.call f_types_Flatten), [.t 63], some (62, true)⟩,
  ⟨some 65, .lens, [.t 64], some (62, true)⟩,
  ⟨some 66, .mov, [.t 0], some (62, true)⟩,
  ⟨some 67, (.bin .add), [.t 66, .c (.int .i64 1)], some (62, true)⟩,
  ⟨some 68, (.bin .eql), [.t 65, .t 67], some (62, true)⟩,
  ⟨some 69, .pick, [.t 62, .t 68, .c (.bool false)], none⟩,
  ⟨some 70, .mov, [.t 69], none⟩,
  ⟨some 71, (.load true 6), [.t 3], some (70, true)⟩,
  ⟨some 72, (.call f_types_Count), [.t 71], some (70, true)⟩,
  ⟨some 73, .mov, [.t 0], some (70, true)⟩,
  ⟨some 74, (.bin .add), [.t 73, .c (.int .i64 1)], some (70, true)⟩,
  ⟨some 75, (.bin .eql), [.t 72, .t 74], some (70, true)⟩,
  ⟨some 76, .pick, [.t 70, .t 75, .c (.bool false)], none⟩,
  ⟨some 2, .mov, [.t 76], none⟩]
def ingotlaw13_TypeCounts : AFunc := ⟨77, (.seq (.region ingotlaw13_TypeCounts_r0 [0]) (.seq (.seq (.region ingotlaw13_TypeCounts_r1 [0, 7]) (.cond (.t 7) (.seq (.region ingotlaw13_TypeCounts_r2 [2]) .ret) .skip)) (.seq (.seq (.region ingotlaw13_TypeCounts_r3 [0, 13]) (.cond (.t 13) (.seq (.region ingotlaw13_TypeCounts_r4 [2]) .ret) .skip)) (.seq (.region ingotlaw13_TypeCounts_r5 [0, 3]) (.seq (.seq (.region ingotlaw13_TypeCounts_r6 [0, 3, 4]) (.block 0 (.loop ingotlaw13_TypeCounts_l0))) (.seq (.region ingotlaw13_TypeCounts_r11 [0, 3, 5]) (.seq (.seq (.region ingotlaw13_TypeCounts_r12 [0, 3, 5, 51]) (.cond (.t 51) (.seq (.region ingotlaw13_TypeCounts_r13 [2]) .ret) .skip)) (.seq (.region ingotlaw13_TypeCounts_r14 [2]) .ret)))))))), [.t 2]⟩
def ingotlaw13_TypeFields_r0 : List AOper := [
  ⟨some 2, .mov, [.c (.bool false)], none⟩]
def ingotlaw13_TypeFields_r1 : List AOper := [
  ⟨some 8, (.call f_ingotlaw13_known), [], none⟩,
  ⟨some 9, .unot, [.t 8], none⟩]
def ingotlaw13_TypeFields_r2 : List AOper := [
  ⟨some 2, .mov, [.c (.bool false)], none⟩]
def ingotlaw13_TypeFields_r3 : List AOper := [
  ⟨some 10, .mov, [.t 0], none⟩,
  ⟨some 11, .lens, [.t 10], none⟩,
  ⟨some 12, (.bin .gtr), [.t 11, .c (.int .i64 40)], none⟩]
def ingotlaw13_TypeFields_r4 : List AOper := [
  ⟨some 2, .mov, [.c (.bool true)], none⟩]
def ingotlaw13_TypeFields_r5 : List AOper := [
  ⟨some 13, .mov, [.t 0], none⟩,
  ⟨some 14, (.bld [(.int .i64 0), (.slc 0 [] true), (.slc 0 [] true), (.int .i64 0), (.int .i64 0), (.int .i64 0)] [(0, 1), (1, 1)]), [.c (.int .i64 12), .t 13], none⟩,
  ⟨some 3, (.alloc (.agg [(.int .i64 0), (.slc 0 [] true), (.slc 0 [] true), (.int .i64 0), (.int .i64 0), (.int .i64 0)])), [], none⟩,
  ⟨none, (.store 6), [.t 3, .t 14], none⟩]
def ingotlaw13_TypeFields_r6 : List AOper := [
  ⟨some 4, .mov, [.c (.bool true)], none⟩]
def ingotlaw13_TypeFields_r7 : List AOper := [
  ⟨some 5, .mov, [.c (.int .i64 0)], none⟩]
def ingotlaw13_TypeFields_r8 : List AOper := [
  ⟨some 15, .mov, [.t 5], none⟩,
  ⟨some 16, .mov, [.t 0], none⟩,
  ⟨some 17, .lens, [.t 16], none⟩,
  ⟨some 18, (.bin .lss), [.t 15, .t 17], none⟩]
def ingotlaw13_TypeFields_r9 : List AOper := [
  ⟨some 21, .mov, [.t 0], none⟩,
  ⟨some 22, .mov, [.t 5], none⟩,
  ⟨some 23, (.iad 1), [.t 21, .t 22], none⟩,
  ⟨some 24, (.load false 1), [.t 23], none⟩,
  ⟨some 25, .lent, [.t 24], none⟩,
  ⟨some 26, (.bin .gtr), [.t 25, .c (.int .i64 300)], none⟩]
def ingotlaw13_TypeFields_r10 : List AOper := [
  ⟨some 2, .mov, [.c (.bool true)], none⟩]
def ingotlaw13_TypeFields_r11 : List AOper := [
  ⟨some 27, (.fad 2), [.t 3], none⟩,
  ⟨some 28, (.load false 1), [.t 27], none⟩,
  ⟨some 29, (.bld [(.int .i64 0), (.slc 0 [] true), (.slc 0 [] true), (.int .i64 0), (.int .i64 0), (.int .i64 0)] [(0, 1)]), [.c (.int .i64 15)], none⟩,
  ⟨some 30, (.bsl 6), [.t 29], none⟩,
  ⟨some 31, (.app 6 80), [.t 28, .t 30], none⟩,
  ⟨some 32, (.fad 2), [.t 3], none⟩,
  ⟨none, (.store 1), [.t 32, .t 31], none⟩]
def ingotlaw13_TypeFields_r12 : List AOper := [
  ⟨some 33, .mov, [.t 4], none⟩,
  ⟨some 34, .mov, [.t 33], none⟩,
  ⟨some 35, .mov, [.t 0], some (34, true)⟩,
  ⟨some 36, .mov, [.t 5], some (34, true)⟩,
  ⟨some 37, (.iad 1), [.t 35, .t 36], some (34, true)⟩,
  ⟨some 38, (.load false 1), [.t 37], some (34, true)⟩,
  ⟨some 39, (.bin .neq), [.t 38, .c (.str [])], some (34, true)⟩,
  ⟨some 40, .pick, [.t 34, .t 39, .c (.bool false)], none⟩,
  ⟨some 41, .mov, [.t 40], none⟩,
  ⟨some 42, .mov, [.t 0], some (41, true)⟩,
  ⟨some 43, .mov, [.t 5], some (41, true)⟩,
  ⟨some 44, (.iad 1), [.t 42, .t 43], some (41, true)⟩,
  ⟨some 45, (.load false 1), [.t 44], some (41, true)⟩,
  ⟨some 46, .lent, [.t 45], some (41, true)⟩,
  ⟨some 47, (.bin .leq), [.t 46, .c (.int .i64 100)], some (41, true)⟩,
  ⟨some 48, .pick, [.t 41, .t 47, .c (.bool false)], none⟩,
  ⟨some 4, .mov, [.t 48], none⟩]
def ingotlaw13_TypeFields_r13 : List AOper := [
  ⟨some 6, .mov, [.c (.int .i64 0)], none⟩]
def ingotlaw13_TypeFields_r14 : List AOper := [
  ⟨some 49, .mov, [.t 6], none⟩,
  ⟨some 50, .mov, [.t 5], none⟩,
  ⟨some 51, (.bin .lss), [.t 49, .t 50], none⟩]
def ingotlaw13_TypeFields_r15 : List AOper := [
  ⟨some 54, .mov, [.t 4], none⟩,
  ⟨some 55, .mov, [.t 54], none⟩,
  ⟨some 56, .mov, [.t 0], some (55, true)⟩,
  ⟨some 57, .mov, [.t 6], some (55, true)⟩,
  ⟨some 58, (.iad 1), [.t 56, .t 57], some (55, true)⟩,
  ⟨some 59, (.load false 1), [.t 58], some (55, true)⟩,
  ⟨some 60, .mov, [.t 0], some (55, true)⟩,
  ⟨some 61, .mov, [.t 5], some (55, true)⟩,
  ⟨some 62, (.iad 1), [.t 60, .t 61], some (55, true)⟩,
  ⟨some 63, (.load false 1), [.t 62], some (55, true)⟩,
  ⟨some 64, (.bin .neq), [.t 59, .t 63], some (55, true)⟩,
  ⟨some 65, .pick, [.t 55, .t 64, .c (.bool false)], none⟩,
  ⟨some 4, .mov, [.t 65], none⟩]
def ingotlaw13_TypeFields_r16 : List AOper := [
  ⟨some 52, .mov, [.t 6], none⟩,
  ⟨some 53, (.bin .add), [.t 52, .c (.int .i64 1)], none⟩,
  ⟨some 6, .mov, [.t 53], none⟩]
def ingotlaw13_TypeFields_l0 : ACode := (.seq (.seq (.region ingotlaw13_TypeFields_r14 [0, 3, 4, 5, 6, 51]) (.cond (.t 51) .skip (.exit 2))) (.seq (.block 3 (.region ingotlaw13_TypeFields_r15 [0, 3, 4, 5, 6])) (.region ingotlaw13_TypeFields_r16 [0, 3, 4, 5, 6])))
def ingotlaw13_TypeFields_r17 : List AOper := [
  ⟨some 19, .mov, [.t 5], none⟩,
  ⟨some 20, (.bin .add), [.t 19, .c (.int .i64 1)], none⟩,
  ⟨some 5, .mov, [.t 20], none⟩]
def ingotlaw13_TypeFields_l1 : ACode := (.seq (.seq (.region ingotlaw13_TypeFields_r8 [0, 3, 4, 5, 18]) (.cond (.t 18) .skip (.exit 0))) (.seq (.block 1 (.seq (.seq (.region ingotlaw13_TypeFields_r9 [0, 3, 4, 5, 26]) (.cond (.t 26) (.seq (.region ingotlaw13_TypeFields_r10 [2]) .ret) .skip)) (.seq (.region ingotlaw13_TypeFields_r11 [0, 3, 4, 5]) (.seq (.region ingotlaw13_TypeFields_r12 [0, 3, 4, 5]) (.seq (.region ingotlaw13_TypeFields_r13 [0, 3, 4, 5, 6]) (.block 2 (.loop ingotlaw13_TypeFields_l0))))))) (.region ingotlaw13_TypeFields_r17 [0, 3, 4, 5])))
def ingotlaw13_TypeFields_r18 : List AOper := [
  ⟨some 66, (.load true 6), [.t 3], none⟩,
  ⟨some 67, (.call f_types_Check), [.t 66], none⟩,
  ⟨some 7, .mov, [.t 67], none⟩]
def ingotlaw13_TypeFields_r19 : List AOper := [
  ⟨some 68, .mov, [.t 4], none⟩,
  ⟨some 69, .mov, [.t 68], none⟩,
  ⟨some 70, .mov, [.t 7], some (69, true)⟩,
  ⟨some 71, (.bin .eql), [.t 70, .c (.int .i64 0)], some (69, true)⟩,
  ⟨some 72, .pick, [.t 69, .t 71, .c (.bool false)], none⟩,
  ⟨some 73, .mov, [.t 72], none⟩,
  ⟨some 74, .mov, [.t 4], some (73, false)⟩,
  ⟨some 75, .unot, [.t 74], some (73, false)⟩,
  ⟨some 76, .mov, [.t 75], some (73, false)⟩,
  ⟨some 77, .mov, [.t 7], some (76, true)⟩,
  ⟨some 78, (.bin .eql), [.t 77, .c (.int .i64 1)], some (76, true)⟩,
  ⟨some 79, .pick, [.t 76, .t 78, .c (.bool false)], some (73, false)⟩,
  ⟨some 80, .pick, [.t 73, .c (.bool true), .t 79], none⟩,
  ⟨some 2, .mov, [.t 80], none⟩]
def ingotlaw13_TypeFields : AFunc := ⟨81, (.seq (.region ingotlaw13_TypeFields_r0 [0]) (.seq (.seq (.region ingotlaw13_TypeFields_r1 [0, 9]) (.cond (.t 9) (.seq (.region ingotlaw13_TypeFields_r2 [2]) .ret) .skip)) (.seq (.seq (.region ingotlaw13_TypeFields_r3 [0, 12]) (.cond (.t 12) (.seq (.region ingotlaw13_TypeFields_r4 [2]) .ret) .skip)) (.seq (.region ingotlaw13_TypeFields_r5 [0, 3]) (.seq (.region ingotlaw13_TypeFields_r6 [0, 3, 4]) (.seq (.seq (.region ingotlaw13_TypeFields_r7 [0, 3, 4, 5]) (.block 0 (.loop ingotlaw13_TypeFields_l1))) (.seq (.region ingotlaw13_TypeFields_r18 [4, 7]) (.seq (.region ingotlaw13_TypeFields_r19 [2]) .ret)))))))), [.t 2]⟩
def ingotlaw13_TypeParents_r0 : List AOper := [
  ⟨some 1, (.box 6), [.t 0], none⟩,
  ⟨some 2, .mov, [.c (.bool false)], none⟩]
def ingotlaw13_TypeParents_r1 : List AOper := [
  ⟨some 9, (.call f_ingotlaw13_known), [], none⟩,
  ⟨some 10, .unot, [.t 9], none⟩]
def ingotlaw13_TypeParents_r2 : List AOper := [
  ⟨some 2, .mov, [.c (.bool false)], none⟩]
def ingotlaw13_TypeParents_r3 : List AOper := [
  ⟨some 11, (.load true 6), [.t 1], none⟩,
  ⟨some 12, (.call f_ingotlaw13_Few), [.t 11], none⟩,
  ⟨some 13, .unot, [.t 12], none⟩,
  ⟨some 14, .mov, [.t 13], none⟩,
  ⟨some 15, (.load true 6), [.t 1], some (14, false)⟩,
  ⟨some 16, (.call f_ingotref13_Check), [.t 15], some (14, false)⟩,
  ⟨some 17, (.bin .neq), [.t 16, .c (.int .i64 0)], some (14, false)⟩,
  ⟨some 18, .pick, [.t 14, .c (.bool true), .t 17], none⟩]
def ingotlaw13_TypeParents_r4 : List AOper := [
  ⟨some 2, .mov, [.c (.bool true)], none⟩]
def ingotlaw13_TypeParents_r5 : List AOper := [
  ⟨some 19, (.load true 6), [.t 1], none⟩,
  ⟨some 20, (.call f_types_Flatten), [.t 19], none⟩,
  ⟨some 3, .mov, [.t 20], none⟩]
def ingotlaw13_TypeParents_r6 : List AOper := [
  ⟨some 21, .mov, [.t 3], none⟩,
  ⟨some 22, .lens, [.t 21], none⟩,
  ⟨some 23, (.bin .eql), [.t 22, .c (.int .i64 0)], none⟩,
  ⟨some 24, .mov, [.t 23], none⟩,
  ⟨some 25, .mov, [.t 3], some (24, false)⟩,
  ⟨some 26, (.iad 8), [.t 25, .c (.int .i64 0)], some (24, false)⟩,
  ⟨some 27, (.fad 6), [.t 26], some (24, false)⟩,
  ⟨some 28, (.load false 1), [.t 27], some (24, false)⟩,
  ⟨some 29, (.bin .neq), [.t 28, .c (.int .i64 (-1))], some (24, false)⟩,
  ⟨some 30, .pick, [.t 24, .c (.bool true), .t 29], none⟩,
  ⟨some 31, .mov, [.t 30], none⟩,
  ⟨some 32, .mov, [.t 3], some (31, false)⟩,
  ⟨some 33, (.iad 8), [.t 32, .c (.int .i64 0)], some (31, false)⟩,
  ⟨some 34, (.fad 7), [.t 33], some (31, false)⟩,
  ⟨some 35, (.load false 1), [.t 34], some (31, false)⟩,
  ⟨some 36, (.bin .neq), [.t 35, .c (.int .i64 1)], some (31, false)⟩,
  ⟨some 37, .pick, [.t 31, .c (.bool true), .t 36], none⟩]
def ingotlaw13_TypeParents_r7 : List AOper := [
  ⟨some 2, .mov, [.c (.bool false)], none⟩]
def ingotlaw13_TypeParents_r8 : List AOper := [
  ⟨some 4, .mov, [.c (.int .i64 1)], none⟩]
def ingotlaw13_TypeParents_r9 : List AOper := [
  ⟨some 38, .mov, [.t 4], none⟩,
  ⟨some 39, .mov, [.t 3], none⟩,
  ⟨some 40, .lens, [.t 39], none⟩,
  ⟨some 41, (.bin .lss), [.t 38, .t 40], none⟩]
def ingotlaw13_TypeParents_r10 : List AOper := [
  ⟨some 44, .mov, [.t 3], none⟩,
  ⟨some 45, .mov, [.t 4], none⟩,
  ⟨some 46, (.iad 8), [.t 44, .t 45], none⟩,
  ⟨some 47, (.fad 6), [.t 46], none⟩,
  ⟨some 48, (.load false 1), [.t 47], none⟩,
  ⟨some 5, .mov, [.t 48], none⟩]
def ingotlaw13_TypeParents_r11 : List AOper := [
  ⟨some 49, .mov, [.t 5], none⟩,
  ⟨some 50, (.bin .lss), [.t 49, .c (.int .i64 0)], none⟩,
  ⟨some 51, .mov, [.t 50], none⟩,
  ⟨some 52, .mov, [.t 5], some (51, false)⟩,
  ⟨some 53, .mov, [.t 4], some (51, false)⟩,
  ⟨some 54, (.bin .geq), [.t 52, .t 53], some (51, false)⟩,
  ⟨some 55, .pick, [.t 51, .c (.bool true), .t 54], none⟩,
  ⟨some 56, .mov, [.t 55], none⟩,
  ⟨some 57, .mov, [.t 3], some (56, false)⟩,
  ⟨some 58, .mov, [.t 4], some (56, false)⟩,
  ⟨some 59, (.iad 8), [.t 57, .t 58], some (56, false)⟩,
  ⟨some 60, (.fad 7), [.t 59], some (56, false)⟩,
  ⟨some 61, (.load false 1), [.t 60], some (56, false)⟩,
  ⟨some 62, .mov, [.t 3], some (56, false)⟩,
  ⟨some 63, .mov, [.t 5], some (56, false)⟩,
  ⟨some 64, (.iad 8), [.t 62, .t 63], some (56, false)⟩,
  ⟨some 65, (.fad 7), [.t 64], some (56, false)⟩,
  ⟨some 66, (.load false 1), [.t 65], some (56, false)⟩,
  ⟨some 67, (.bin .add), [.t 66, .c (.int .i64 1)], some (56, false)⟩,
  ⟨some 68, (.bin .neq), [.t 61, .t 67], some (56, false)⟩,
  ⟨some 69, .pick, [.t 56, .c (.bool true), .t 68], none⟩]
def ingotlaw13_TypeParents_r12 : List AOper := [
  ⟨some 2, .mov, [.c (.bool false)], none⟩]
def ingotlaw13_TypeParents_r13 : List AOper := [
  ⟨some 6, .mov, [.c (.bool false)], none⟩]
def ingotlaw13_TypeParents_r14 : List AOper := [
  ⟨some 7, .mov, [.c (.int .i64 0)], none⟩]
def ingotlaw13_TypeParents_r15 : List AOper := [
  ⟨some 70, .mov, [.t 7], none⟩,
  ⟨some 71, .mov, [.t 3], none⟩,
  ⟨some 72, .mov, [.t 5], none⟩,
  ⟨some 73, (.iad 8), [.t 71, .t 72], none⟩,
  ⟨some 74, (.fad 1), [.t 73], none⟩,
  ⟨some 75, (.load false 1), [.t 74], none⟩,
  ⟨some 76, .lens, [.t 75], none⟩,
  ⟨some 77, (.bin .lss), [.t 70, .t 76], none⟩]
def ingotlaw13_TypeParents_r16 : List AOper := [
  ⟨some 80, .mov, [.t 6], none⟩,
  ⟨some 81, .mov, [.t 80], none⟩,
  ⟨some 82, .mov, [.t 3], some (81, false)⟩,
  ⟨some 83, .mov, [.t 5], some (81, false)⟩,
  ⟨some 84, (.iad 8), [.t 82, .t 83], some (81, false)⟩,
  ⟨some 85, (.fad 1), [.t 84], some (81, false)⟩,
  ⟨some 86, (.load false 1), [.t 85], some (81, false)⟩,
  ⟨some 87, .mov, [.t 7], some (81, false)⟩,
  ⟨some 88, (.iad 1), [.t 86, .t 87], some (81, false)⟩,
  ⟨some 89, (.load false 1), [.t 88], some (81, false)⟩,
  ⟨some 90, .mov, [.t 4], some (81, false)⟩,
  ⟨some 91, (.bin .eql), [.t 89, .t 90], some (81, false)⟩,
  ⟨some 92, .pick, [.t 81, .c (.bool true), .t 91], none⟩,
  ⟨some 6, .mov, [.t 92], none⟩]
def ingotlaw13_TypeParents_r17 : List AOper := [
  ⟨some 78, .mov, [.t 7], none⟩,
  ⟨some 79, (.bin .add), [.t 78, .c (.int .i64 1)], none⟩,
  ⟨some 7, .mov, [.t 79], none⟩]
def ingotlaw13_TypeParents_l0 : ACode := (.seq (.seq (.region ingotlaw13_TypeParents_r15 [3, 4, 5, 6, 7, 77]) (.cond (.t 77) .skip (.exit 2))) (.seq (.block 3 (.region ingotlaw13_TypeParents_r16 [3, 4, 5, 6, 7])) (.region ingotlaw13_TypeParents_r17 [3, 4, 5, 6, 7])))
def ingotlaw13_TypeParents_r18 : List AOper := [
  ⟨some 93, .mov, [.t 6], none⟩,
  ⟨some 94, .unot, [.t 93], none⟩]
def ingotlaw13_TypeParents_r19 : List AOper := [
  ⟨some 2, .mov, [.c (.bool false)], none⟩]
def ingotlaw13_TypeParents_r20 : List AOper := [
  ⟨some 42, .mov, [.t 4], none⟩,
  ⟨some 43, (.bin .add), [.t 42, .c (.int .i64 1)], none⟩,
  ⟨some 4, .mov, [.t 43], none⟩]
def ingotlaw13_TypeParents_l1 : ACode := (.seq (.seq (.region ingotlaw13_TypeParents_r9 [3, 4, 41]) (.cond (.t 41) .skip (.exit 0))) (.seq (.block 1 (.seq (.region ingotlaw13_TypeParents_r10 [3, 4, 5]) (.seq (.seq (.region ingotlaw13_TypeParents_r11 [3, 4, 5, 69]) (.cond (.t 69) (.seq (.region ingotlaw13_TypeParents_r12 [2]) .ret) .skip)) (.seq (.region ingotlaw13_TypeParents_r13 [3, 4, 5, 6]) (.seq (.seq (.region ingotlaw13_TypeParents_r14 [3, 4, 5, 6, 7]) (.block 2 (.loop ingotlaw13_TypeParents_l0))) (.seq (.region ingotlaw13_TypeParents_r18 [3, 4, 94]) (.cond (.t 94) (.seq (.region ingotlaw13_TypeParents_r19 [2]) .ret) .skip))))))) (.region ingotlaw13_TypeParents_r20 [3, 4])))
def ingotlaw13_TypeParents_r21 : List AOper := [
  ⟨some 8, .mov, [.c (.int .i64 0)], none⟩]
def ingotlaw13_TypeParents_r22 : List AOper := [
  ⟨some 95, .mov, [.t 8], none⟩,
  ⟨some 96, .mov, [.t 3], none⟩,
  ⟨some 97, .lens, [.t 96], none⟩,
  ⟨some 98, (.bin .lss), [.t 95, .t 97], none⟩]
def ingotlaw13_TypeParents_r23 : List AOper := [
  ⟨some 101, .mov, [.t 3], none⟩,
  ⟨some 102, .mov, [.t 8], none⟩,
  ⟨some 103, (.iad 8), [.t 101, .t 102], none⟩,
  ⟨some 104, (.fad 1), [.t 103], none⟩,
  ⟨some 105, (.load false 1), [.t 104], none⟩,
  ⟨some 106, .lens, [.t 105], none⟩,
  ⟨some 107, (.bin .gtr), [.t 106, .c (.int .i64 0)], none⟩,
  ⟨some 108, .mov, [.t 107], none⟩,
  ⟨some 109, .mov, [.t 3], some (108, true)⟩,
  ⟨some 110, .mov, [.t 8], some (108, true)⟩,
  ⟨some 111, (.iad 8), [.t 109, .t 110], some (108, true)⟩,
  ⟨some 112, (.fad 1), [.t 111], some (108, true)⟩,
  ⟨some 113, (.load false 1), [.t 112], some (108, true)⟩,
  ⟨some 114, (.iad 1), [.t 113, .c (.int .i64 0)], some (108, true)⟩,
  ⟨some 115, (.load false 1), [.t 114], some (108, true)⟩,
  ⟨some 116, .mov, [.t 8], some (108, true)⟩,
  ⟨some 117, (.bin .add), [.t 116, .c (.int .i64 1)], some (108, true)⟩,
  ⟨some 118, (.bin .neq), [.t 115, .t 117], some (108, true)⟩,
  ⟨some 119, .pick, [.t 108, .t 118, .c (.bool false)], none⟩,
  ⟨some 120, .mov, [.t 119], none⟩,
  ⟨some 121, .mov, [.t 3], some (120, false)⟩,
  ⟨some 122, .mov, [.t 8], some (120, false)⟩,
  ⟨some 123, (.iad 8), [.t 121, .t 122], some (120, false)⟩,
  ⟨some 124, (.fad 0), [.t 123], some (120, false)⟩,
  ⟨some 125, (.load false 1), [.t 124], some (120, false)⟩,
  ⟨some 126, (.call f_types_Leaf), [.t 125], some (120, false)⟩,
  ⟨some 127, .mov, [.t 126], some (120, false)⟩,
  ⟨some 128, .mov, [.t 3], some (127, true)⟩,
  ⟨some 129, .mov, [.t 8], some (127, true)⟩,
  ⟨some 130, (.iad 8), [.t 128, .t 129], some (127, true)⟩,
  ⟨some 131, (.fad 1), [.t 130], some (127, true)⟩,
  ⟨some 132, (.load false 1), [.t 131], some (127, true)⟩,
  ⟨some 133, .lens, [.t 132], some (127, true)⟩,
  ⟨some 134, (.bin .gtr), [.t 133, .c (.int .i64 0)], some (127, true)⟩,
  ⟨some 135, .pick, [.t 127, .t 134, .c (.bool false)], some (120, false)⟩,
  ⟨some 136, .pick, [.t 120, .c (.bool true), .t 135], none⟩]
def ingotlaw13_TypeParents_r24 : List AOper := [
  ⟨some 2, .mov, [.c (.bool false)], none⟩]
def ingotlaw13_TypeParents_r25 : List AOper := [
  ⟨some 99, .mov, [.t 8], none⟩,
  ⟨some 100, (.bin .add), [.t 99, .c (.int .i64 1)], none⟩,
  ⟨some 8, .mov, [.t 100], none⟩]
def ingotlaw13_TypeParents_l2 : ACode := (.seq (.seq (.region ingotlaw13_TypeParents_r22 [3, 8, 98]) (.cond (.t 98) .skip (.exit 4))) (.seq (.block 5 (.seq (.region ingotlaw13_TypeParents_r23 [3, 8, 136]) (.cond (.t 136) (.seq (.region ingotlaw13_TypeParents_r24 [2]) .ret) .skip))) (.region ingotlaw13_TypeParents_r25 [3, 8])))
def ingotlaw13_TypeParents_r26 : List AOper := [
  ⟨some 2, .mov, [.c (.bool true)], none⟩]
def ingotlaw13_TypeParents : AFunc := ⟨137, (.seq (.region ingotlaw13_TypeParents_r0 [1]) (.seq (.seq (.region ingotlaw13_TypeParents_r1 [1, 10]) (.cond (.t 10) (.seq (.region ingotlaw13_TypeParents_r2 [2]) .ret) .skip)) (.seq (.seq (.region ingotlaw13_TypeParents_r3 [1, 18]) (.cond (.t 18) (.seq (.region ingotlaw13_TypeParents_r4 [2]) .ret) .skip)) (.seq (.region ingotlaw13_TypeParents_r5 [3]) (.seq (.seq (.region ingotlaw13_TypeParents_r6 [3, 37]) (.cond (.t 37) (.seq (.region ingotlaw13_TypeParents_r7 [2]) .ret) .skip)) (.seq (.seq (.region ingotlaw13_TypeParents_r8 [3, 4]) (.block 0 (.loop ingotlaw13_TypeParents_l1))) (.seq (.seq (.region ingotlaw13_TypeParents_r21 [3, 8]) (.block 4 (.loop ingotlaw13_TypeParents_l2))) (.seq (.region ingotlaw13_TypeParents_r26 [2]) .ret)))))))), [.t 2]⟩
end Go.Abs
