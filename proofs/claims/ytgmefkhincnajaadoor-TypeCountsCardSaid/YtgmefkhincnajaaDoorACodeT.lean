/- The small code of functions, printed by program. -/
import Derived.Test.YtgmefkhincnajaaDoorAbsC
import Derived.Test.YtgmefkhincnajaaDoorAbsD
import Derived.Test.YtgmefkhincnajaaDoorANum
namespace Go.Abs
open Go
def ingotref13_Flatten_r0 : List AOper := [
  ⟨some 1, (.box 6), [.t 0], none⟩,
  ⟨some 2, .mov, [.c (.slc 0 [] true)], none⟩]
def ingotref13_Flatten_r1 : List AOper := [
  ⟨some 3, (.load true 6), [.t 1], none⟩,
  ⟨some 4, (.call f_ingotref13_Check), [.t 3], none⟩,
  ⟨some 5, (.bin .neq), [.t 4, .c (.int .i64 0)], none⟩]
def ingotref13_Flatten_r2 : List AOper := [
  ⟨some 2, .mov, [.c (.slc 0 [] true)], none⟩]
def ingotref13_Flatten_r3 : List AOper := [
  ⟨some 6, (.load true 6), [.t 1], none⟩,
  ⟨some 7, (.call f_ingotref13_flat), [.c (.slc 0 [] true), .t 6, .c (.int .i64 (-1)), .c (.int .i64 1)], none⟩,
  ⟨some 2, .mov, [.t 7], none⟩]
def ingotref13_Flatten : AFunc := ⟨8, (.seq (.region ingotref13_Flatten_r0 [1]) (.seq (.seq (.region ingotref13_Flatten_r1 [1, 5]) (.cond (.t 5) (.seq (.region ingotref13_Flatten_r2 [2]) .ret) .skip)) (.seq (.region ingotref13_Flatten_r3 [2]) .ret))), [.t 2]⟩
def types_Flatten_r0 : List AOper := [
  ⟨some 1, (.box 6), [.t 0], none⟩,
  ⟨some 2, .mov, [.c (.slc 0 [] true)], none⟩]
def types_Flatten_r1 : List AOper := [
  ⟨some 3, (.load true 6), [.t 1], none⟩,
  ⟨some 4, (.call f_types_Check), [.t 3], none⟩,
  ⟨some 5, (.bin .neq), [.t 4, .c (.int .i64 0)], none⟩]
def types_Flatten_r2 : List AOper := [
  ⟨some 2, .mov, [.c (.slc 0 [] true)], none⟩]
def types_Flatten_r3 : List AOper := [
  ⟨some 6, (.load true 6), [.t 1], none⟩,
  ⟨some 7, (.call f_types_flatten), [.c (.slc 0 [] true), .t 6, .c (.int .i64 (-1)), .c (.int .i64 1)], none⟩,
  ⟨some 8, (.call f_slices_Clip_types_Node_types_Node), [.t 7], none⟩,
  ⟨some 2, .mov, [.t 8], none⟩]
def types_Flatten : AFunc := ⟨9, (.seq (.region types_Flatten_r0 [1]) (.seq (.seq (.region types_Flatten_r1 [1, 5]) (.cond (.t 5) (.seq (.region types_Flatten_r2 [2]) .ret) .skip)) (.seq (.region types_Flatten_r3 [2]) .ret))), [.t 2]⟩
def ingotref13_Check_r0 : List AOper := [
  ⟨some 1, (.box 6), [.t 0], none⟩,
  ⟨some 2, .mov, [.c (.int .i64 0)], none⟩]
def ingotref13_Check_r1 : List AOper := [
  ⟨some 6, (.load true 6), [.t 1], none⟩,
  ⟨some 7, (.call f_ingotref13_check), [.t 6, .c (.int .i64 1), .c (.int .i64 0)], none⟩,
  ⟨some 5, .mov, [.t 7], none⟩,
  ⟨some 8, (.ext 0), [.t 5], none⟩,
  ⟨some 9, (.ext 1), [.t 5], none⟩,
  ⟨some 3, .mov, [.t 8], none⟩,
  ⟨some 4, .mov, [.t 9], none⟩]
def ingotref13_Check_r2 : List AOper := [
  ⟨some 10, .mov, [.t 4], none⟩,
  ⟨some 2, .mov, [.t 10], none⟩]
def ingotref13_Check : AFunc := ⟨11, (.seq (.region ingotref13_Check_r0 [1]) (.seq (.region ingotref13_Check_r1 [4]) (.seq (.region ingotref13_Check_r2 [2]) .ret))), [.t 2]⟩
def ingotref13_Close_r0 : List AOper := [
  ⟨some 4, .mov, [.c (.slc 0 [] true)], none⟩,
  ⟨some 5, .mov, [.c (.int .i64 0)], none⟩]
def ingotref13_Close_r1 : List AOper := [
  ⟨some 10, .mov, [.t 0], none⟩,
  ⟨some 11, .lens, [.t 10], none⟩,
  ⟨some 12, (.mks 1 1 (.bool false)), [.t 11, .t 11], none⟩,
  ⟨some 6, .mov, [.t 12], none⟩]
def ingotref13_Close_r2 : List AOper := [
  ⟨some 7, .mov, [.c (.int .i64 0)], none⟩]
def ingotref13_Close_r3 : List AOper := [
  ⟨some 13, .mov, [.t 7], none⟩,
  ⟨some 14, .mov, [.t 1], none⟩,
  ⟨some 15, .lens, [.t 14], none⟩,
  ⟨some 16, (.bin .lss), [.t 13, .t 15], none⟩]
def ingotref13_Close_r4 : List AOper := [
  ⟨some 19, .mov, [.t 1], none⟩,
  ⟨some 20, .mov, [.t 7], none⟩,
  ⟨some 21, (.iad 1), [.t 19, .t 20], none⟩,
  ⟨some 22, (.load false 1), [.t 21], none⟩,
  ⟨some 23, (.bin .lss), [.t 22, .c (.int .i64 0)], none⟩,
  ⟨some 24, .mov, [.t 23], none⟩,
  ⟨some 25, .mov, [.t 1], some (24, false)⟩,
  ⟨some 26, .mov, [.t 7], some (24, false)⟩,
  ⟨some 27, (.iad 1), [.t 25, .t 26], some (24, false)⟩,
  ⟨some 28, (.load false 1), [.t 27], some (24, false)⟩,
  ⟨some 29, .mov, [.t 0], some (24, false)⟩,
  ⟨some 30, .lens, [.t 29], some (24, false)⟩,
  ⟨some 31, (.bin .geq), [.t 28, .t 30], some (24, false)⟩,
  ⟨some 32, .pick, [.t 24, .c (.bool true), .t 31], none⟩]
def ingotref13_Close_r5 : List AOper := [
  ⟨some 4, .mov, [.c (.slc 0 [] true)], none⟩,
  ⟨some 5, .mov, [.c (.int .i64 1)], none⟩]
def ingotref13_Close_r6 : List AOper := [
  ⟨some 17, .mov, [.t 7], none⟩,
  ⟨some 18, (.bin .add), [.t 17, .c (.int .i64 1)], none⟩,
  ⟨some 7, .mov, [.t 18], none⟩]
def ingotref13_Close_l0 : ACode := (.seq (.seq (.region ingotref13_Close_r3 [0, 1, 6, 7, 16, 25, 26, 27, 28, 29, 30, 31]) (.cond (.t 16) .skip (.exit 0))) (.seq (.block 1 (.seq (.region ingotref13_Close_r4 [0, 1, 6, 7, 25, 26, 27, 28, 29, 30, 31, 32]) (.cond (.t 32) (.seq (.region ingotref13_Close_r5 [4, 5]) .ret) .skip))) (.region ingotref13_Close_r6 [0, 1, 6, 7, 25, 26, 27, 28, 29, 30, 31])))
def ingotref13_Close_r7 : List AOper := [
  ⟨some 8, .mov, [.c (.int .i64 0)], none⟩]
def ingotref13_Close_r8 : List AOper := [
  ⟨some 33, .mov, [.t 8], none⟩,
  ⟨some 34, .mov, [.t 1], none⟩,
  ⟨some 35, .lens, [.t 34], none⟩,
  ⟨some 36, (.bin .lss), [.t 33, .t 35], none⟩]
def ingotref13_Close_r9 : List AOper := [
  ⟨some 39, .mov, [.t 0], none⟩,
  ⟨some 40, .mov, [.t 6], none⟩,
  ⟨some 41, .mov, [.t 1], none⟩,
  ⟨some 42, .mov, [.t 8], none⟩,
  ⟨some 43, (.iad 1), [.t 41, .t 42], none⟩,
  ⟨some 44, (.load false 1), [.t 43], none⟩,
  ⟨some 45, (.call f_ingotref13_all), [.t 39, .t 40, .t 44], none⟩]
def ingotref13_Close_r10 : List AOper := [
  ⟨some 46, .mov, [.t 1], none⟩,
  ⟨some 47, .mov, [.t 8], none⟩,
  ⟨some 48, (.iad 1), [.t 46, .t 47], none⟩,
  ⟨some 49, (.load false 1), [.t 48], none⟩,
  ⟨some 9, .mov, [.t 49], none⟩]
def ingotref13_Close_r11 : List AOper := [
  ⟨some 50, .mov, [.t 9], none⟩,
  ⟨some 51, (.bin .geq), [.t 50, .c (.int .i64 0)], none⟩]
def ingotref13_Close_r12 : List AOper := [
  ⟨some 57, .mov, [.t 0], none⟩,
  ⟨some 58, .mov, [.t 9], none⟩,
  ⟨some 59, (.iad 9), [.t 57, .t 58], none⟩,
  ⟨some 60, (.fad 0), [.t 59], none⟩,
  ⟨some 61, (.fad 0), [.t 60], none⟩,
  ⟨some 62, (.load false 1), [.t 61], none⟩,
  ⟨some 63, (.bin .neq), [.t 62, .c (.int .i64 12)], none⟩]
def ingotref13_Close_r13 : List AOper := [
  ⟨some 64, .mov, [.t 0], none⟩,
  ⟨some 65, .mov, [.t 6], none⟩,
  ⟨some 66, .mov, [.t 9], none⟩,
  ⟨some 67, (.call f_ingotref13_all), [.t 64, .t 65, .t 66], none⟩]
def ingotref13_Close_r14 : List AOper := [
  ⟨some 68, .mov, [.t 6], none⟩,
  ⟨some 69, .mov, [.t 9], none⟩,
  ⟨some 70, (.iad 1), [.t 68, .t 69], none⟩,
  ⟨none, (.store 1), [.t 70, .c (.bool true)], none⟩]
def ingotref13_Close_r15 : List AOper := [
  ⟨some 52, .mov, [.t 0], none⟩,
  ⟨some 53, .mov, [.t 9], none⟩,
  ⟨some 54, (.iad 9), [.t 52, .t 53], none⟩,
  ⟨some 55, (.fad 7), [.t 54], none⟩,
  ⟨some 56, (.load false 1), [.t 55], none⟩,
  ⟨some 9, .mov, [.t 56], none⟩]
def ingotref13_Close_l1 : ACode := (.seq (.seq (.region ingotref13_Close_r11 [0, 1, 6, 8, 9, 51]) (.cond (.t 51) .skip (.exit 4))) (.seq (.block 5 (.seq (.seq (.region ingotref13_Close_r12 [0, 1, 6, 8, 9, 63]) (.cond (.t 63) (.region ingotref13_Close_r13 [0, 1, 6, 8, 9]) .skip)) (.region ingotref13_Close_r14 [0, 1, 6, 8, 9]))) (.region ingotref13_Close_r15 [0, 1, 6, 8, 9])))
def ingotref13_Close_r16 : List AOper := [
  ⟨some 37, .mov, [.t 8], none⟩,
  ⟨some 38, (.bin .add), [.t 37, .c (.int .i64 1)], none⟩,
  ⟨some 8, .mov, [.t 38], none⟩]
def ingotref13_Close_l2 : ACode := (.seq (.seq (.region ingotref13_Close_r8 [0, 1, 6, 8, 36]) (.cond (.t 36) .skip (.exit 2))) (.seq (.block 3 (.seq (.region ingotref13_Close_r9 [0, 1, 6, 8]) (.seq (.region ingotref13_Close_r10 [0, 1, 6, 8, 9]) (.block 4 (.loop ingotref13_Close_l1))))) (.region ingotref13_Close_r16 [0, 1, 6, 8])))
def ingotref13_Close_r17 : List AOper := [
  ⟨some 71, .mov, [.t 6], none⟩,
  ⟨some 4, .mov, [.t 71], none⟩,
  ⟨some 5, .mov, [.c (.int .i64 0)], none⟩]
def ingotref13_Close : AFunc := ⟨72, (.seq (.region ingotref13_Close_r0 [0, 1, 25, 26, 27, 28, 29, 30, 31]) (.seq (.region ingotref13_Close_r1 [0, 1, 6, 25, 26, 27, 28, 29, 30, 31]) (.seq (.seq (.region ingotref13_Close_r2 [0, 1, 6, 7, 25, 26, 27, 28, 29, 30, 31]) (.block 0 (.loop ingotref13_Close_l0))) (.seq (.seq (.region ingotref13_Close_r7 [0, 1, 6, 8]) (.block 2 (.loop ingotref13_Close_l2))) (.seq (.region ingotref13_Close_r17 [4, 5]) .ret))))), [.t 4, .t 5]⟩
def ingotref13_flat_r0 : List AOper := [
  ⟨some 5, (.box 6), [.t 1], none⟩,
  ⟨some 8, .mov, [.c (.slc 0 [] true)], none⟩]
def ingotref13_flat_r1 : List AOper := [
  ⟨some 12, .mov, [.t 0], none⟩,
  ⟨some 13, .lens, [.t 12], none⟩,
  ⟨some 9, .mov, [.t 13], none⟩]
def ingotref13_flat_r2 : List AOper := [
  ⟨some 14, .mov, [.t 0], none⟩,
  ⟨some 15, (.load true 6), [.t 5], none⟩,
  ⟨some 16, .mov, [.t 2], none⟩,
  ⟨some 17, .mov, [.t 3], none⟩,
  ⟨some 18, (.bld [(.int .i64 0), (.slc 0 [] true), (.slc 0 [] true), (.int .i64 0), (.int .i64 0), (.int .i64 0), (.slc 0 [] true), (.int .i64 0), (.int .i64 0)] [(0, 6), (7, 1), (8, 1)]), [.t 15, .t 16, .t 17], none⟩,
  ⟨some 19, (.bsl 9), [.t 18], none⟩,
  ⟨some 20, (.app 9 120), [.t 14, .t 19], none⟩,
  ⟨some 0, .mov, [.t 20], none⟩]
def ingotref13_flat_r3 : List AOper := [
  ⟨some 10, .mov, [.c (.int .i64 0)], none⟩]
def ingotref13_flat_r4 : List AOper := [
  ⟨some 21, .mov, [.t 10], none⟩,
  ⟨some 22, (.fad 2), [.t 5], none⟩,
  ⟨some 23, (.load false 1), [.t 22], none⟩,
  ⟨some 24, .lens, [.t 23], none⟩,
  ⟨some 25, (.bin .lss), [.t 21, .t 24], none⟩]
def ingotref13_flat_r5 : List AOper := [
  ⟨some 28, .mov, [.t 0], none⟩,
  ⟨some 29, .lens, [.t 28], none⟩,
  ⟨some 11, .mov, [.t 29], none⟩]
def ingotref13_flat_r6 : List AOper := [
  ⟨some 30, .mov, [.t 0], none⟩,
  ⟨some 31, (.fad 2), [.t 5], none⟩,
  ⟨some 32, (.load false 1), [.t 31], none⟩,
  ⟨some 33, .mov, [.t 10], none⟩,
  ⟨some 34, (.iad 6), [.t 32, .t 33], none⟩,
  ⟨some 35, (.load true 6), [.t 34], none⟩,
  ⟨some 36, .mov, [.t 9], none⟩,
  ⟨some 37, .mov, [.t 3], none⟩,
  ⟨some 38, (.bin .add), [.t 37, .c (.int .i64 1)], none⟩,
  ⟨some 39, (.call f_ingotref13_flat), [.t 30, .t 35, .t 36, .t 38], none⟩,
  ⟨some 0, .mov, [.t 39], none⟩]
def ingotref13_flat_r7 : List AOper := [
  ⟨some 40, .mov, [.t 0], none⟩,
  ⟨some 41, .mov, [.t 9], none⟩,
  ⟨some 42, .mov, [.t 0], none⟩,
  ⟨some 43, .mov, [.t 9], none⟩,
  ⟨some 44, (.iad 9), [.t 42, .t 43], none⟩,
  ⟨some 45, (.fad 6), [.t 44], none⟩,
  ⟨some 46, (.load false 1), [.t 45], none⟩,
  ⟨some 47, .mov, [.t 11], none⟩,
  ⟨some 48, (.bsl 1), [.t 47], none⟩,
  ⟨some 49, (.app 1 8), [.t 46, .t 48], none⟩,
  ⟨some 50, (.iad 9), [.t 40, .t 41], none⟩,
  ⟨some 51, (.fad 6), [.t 50], none⟩,
  ⟨none, (.store 1), [.t 51, .t 49], none⟩]
def ingotref13_flat_r8 : List AOper := [
  ⟨some 26, .mov, [.t 10], none⟩,
  ⟨some 27, (.bin .add), [.t 26, .c (.int .i64 1)], none⟩,
  ⟨some 10, .mov, [.t 27], none⟩]
def ingotref13_flat_l0 : ACode := (.seq (.seq (.region ingotref13_flat_r4 [0, 3, 5, 9, 10, 25]) (.cond (.t 25) .skip (.exit 0))) (.seq (.block 1 (.seq (.region ingotref13_flat_r5 [0, 3, 5, 9, 10, 11]) (.seq (.region ingotref13_flat_r6 [0, 3, 5, 9, 10, 11]) (.region ingotref13_flat_r7 [0, 3, 5, 9, 10])))) (.region ingotref13_flat_r8 [0, 3, 5, 9, 10])))
def ingotref13_flat_r9 : List AOper := [
  ⟨some 52, .mov, [.t 0], none⟩,
  ⟨some 8, .mov, [.t 52], none⟩]
def ingotref13_flat : AFunc := ⟨53, (.seq (.region ingotref13_flat_r0 [0, 2, 3, 5]) (.seq (.region ingotref13_flat_r1 [0, 2, 3, 5, 9]) (.seq (.region ingotref13_flat_r2 [0, 3, 5, 9]) (.seq (.seq (.region ingotref13_flat_r3 [0, 3, 5, 9, 10]) (.block 0 (.loop ingotref13_flat_l0))) (.seq (.region ingotref13_flat_r9 [8]) .ret))))), [.t 8]⟩
def types_Check_r0 : List AOper := [
  ⟨some 1, (.box 6), [.t 0], none⟩,
  ⟨some 2, .mov, [.c (.int .i64 0)], none⟩]
def types_Check_r1 : List AOper := [
  ⟨some 3, (.alloc (.int .i64 0)), [], none⟩,
  ⟨none, (.store 1), [.t 3, .c (.int .i64 0)], none⟩]
def types_Check_r2 : List AOper := [
  ⟨some 4, (.load true 6), [.t 1], none⟩,
  ⟨some 5, (.call f_types_walk), [.t 4, .c (.int .i64 1), .t 3], none⟩,
  ⟨some 2, .mov, [.t 5], none⟩]
def types_Check : AFunc := ⟨6, (.seq (.region types_Check_r0 [1]) (.seq (.region types_Check_r1 [1, 3]) (.seq (.region types_Check_r2 [2]) .ret))), [.t 2]⟩
def slices_Clip_types_Node_types_Node_r0 : List AOper := [
  ⟨some 2, .mov, [.c (.slc 0 [] true)], none⟩]
def slices_Clip_types_Node_types_Node_r1 : List AOper := [
  ⟨some 3, .mov, [.t 0], none⟩,
  ⟨some 4, .mov, [.t 0], none⟩,
  ⟨some 5, .lens, [.t 4], none⟩,
  ⟨some 6, .mov, [.t 0], none⟩,
  ⟨some 7, .lens, [.t 6], none⟩,
  ⟨some 8, (.clip 8), [.t 3, .t 5, .t 7], none⟩,
  ⟨some 2, .mov, [.t 8], none⟩]
def slices_Clip_types_Node_types_Node : AFunc := ⟨9, (.seq (.region slices_Clip_types_Node_types_Node_r0 [0]) (.seq (.region slices_Clip_types_Node_types_Node_r1 [2]) .ret)), [.t 2]⟩
def types_flatten_r0 : List AOper := [
  ⟨some 5, (.box 6), [.t 1], none⟩,
  ⟨some 8, .mov, [.c (.slc 0 [] true)], none⟩]
def types_flatten_r1 : List AOper := [
  ⟨some 13, .mov, [.t 0], none⟩,
  ⟨some 14, .lens, [.t 13], none⟩,
  ⟨some 9, .mov, [.t 14], none⟩]
def types_flatten_r2 : List AOper := [
  ⟨some 15, .mov, [.t 0], none⟩,
  ⟨some 16, (.fad 0), [.t 5], none⟩,
  ⟨some 17, (.load false 1), [.t 16], none⟩,
  ⟨some 18, (.fad 1), [.t 5], none⟩,
  ⟨some 19, (.load false 1), [.t 18], none⟩,
  ⟨some 20, (.callp f_slices_Clone_string_string), [.t 19], none⟩,
  ⟨some 21, (.callp f_slices_Clip_string_string), [.t 20], none⟩,
  ⟨some 22, (.fad 3), [.t 5], none⟩,
  ⟨some 23, (.load false 1), [.t 22], none⟩,
  ⟨some 24, (.fad 4), [.t 5], none⟩,
  ⟨some 25, (.load false 1), [.t 24], none⟩,
  ⟨some 26, (.fad 5), [.t 5], none⟩,
  ⟨some 27, (.load false 1), [.t 26], none⟩,
  ⟨some 28, .mov, [.t 2], none⟩,
  ⟨some 29, .mov, [.t 3], none⟩,
  ⟨some 30, (.bld [(.int .i64 0), (.slc 0 [] true), (.slc 0 [] true), (.int .i64 0), (.int .i64 0), (.int .i64 0), (.int .i64 0), (.int .i64 0)] [(0, 1), (1, 1), (2, 1), (3, 1), (4, 1), (5, 1), (6, 1), (7, 1)]), [.t 17, .c (.slc 0 [] true), .t 21, .t 23, .t 25, .t 27, .t 28, .t 29], none⟩,
  ⟨some 31, (.bsl 8), [.t 30], none⟩,
  ⟨some 32, (.app 8 96), [.t 15, .t 31], none⟩,
  ⟨some 0, .mov, [.t 32], none⟩]
def types_flatten_r3 : List AOper := [
  ⟨some 10, .mov, [.c (.slc 0 [] true)], none⟩]
def types_flatten_r4 : List AOper := [
  ⟨some 33, (.fad 2), [.t 5], none⟩,
  ⟨some 34, (.load false 1), [.t 33], none⟩,
  ⟨some 35, .lens, [.t 34], none⟩,
  ⟨some 36, .mov, [.c (.int .i64 0)], none⟩]
def types_flatten_r5 : List AOper := [
  ⟨some 37, (.bin .lss), [.t 36, .t 35], none⟩]
def types_flatten_r6 : List AOper := [
  ⟨some 38, (.iad 6), [.t 34, .t 36], none⟩,
  ⟨some 39, (.load true 6), [.t 38], none⟩,
  ⟨some 12, (.alloc (.agg [(.int .i64 0), (.slc 0 [] true), (.slc 0 [] true), (.int .i64 0), (.int .i64 0), (.int .i64 0)])), [], none⟩,
  ⟨none, (.store 6), [.t 12, .t 39], none⟩]
def types_flatten_r7 : List AOper := [
  ⟨some 40, .mov, [.t 10], none⟩,
  ⟨some 41, .mov, [.t 0], none⟩,
  ⟨some 42, .lens, [.t 41], none⟩,
  ⟨some 43, (.bsl 1), [.t 42], none⟩,
  ⟨some 44, (.app 1 8), [.t 40, .t 43], none⟩,
  ⟨some 10, .mov, [.t 44], none⟩]
def types_flatten_r8 : List AOper := [
  ⟨some 45, .mov, [.t 0], none⟩,
  ⟨some 46, (.load true 6), [.t 12], none⟩,
  ⟨some 47, .mov, [.t 9], none⟩,
  ⟨some 48, .mov, [.t 3], none⟩,
  ⟨some 49, (.bin .add), [.t 48, .c (.int .i64 1)], none⟩,
  ⟨some 50, (.call f_types_flatten), [.t 45, .t 46, .t 47, .t 49], none⟩,
  ⟨some 0, .mov, [.t 50], none⟩]
def types_flatten_r9 : List AOper := [
  ⟨some 51, (.bin .add), [.t 36, .c (.int .i64 1)], none⟩,
  ⟨some 36, .mov, [.t 51], none⟩]
def types_flatten_l0 : ACode := (.seq (.region types_flatten_r5 [0, 3, 9, 10, 34, 35, 36, 37]) (.seq (.cond (.t 37) .skip (.exit 0)) (.seq (.block 1 (.seq (.region types_flatten_r6 [0, 3, 9, 10, 12, 34, 35, 36]) (.seq (.region types_flatten_r7 [0, 3, 9, 10, 12, 34, 35, 36]) (.region types_flatten_r8 [0, 3, 9, 10, 34, 35, 36])))) (.region types_flatten_r9 [0, 3, 9, 10, 34, 35, 36]))))
def types_flatten_r10 : List AOper := [
  ⟨some 52, .mov, [.t 0], none⟩,
  ⟨some 53, .mov, [.t 9], none⟩,
  ⟨some 54, .mov, [.t 10], none⟩,
  ⟨some 55, (.call f_slices_Clip_int_int), [.t 54], none⟩,
  ⟨some 56, (.iad 8), [.t 52, .t 53], none⟩,
  ⟨some 57, (.fad 1), [.t 56], none⟩,
  ⟨none, (.store 1), [.t 57, .t 55], none⟩]
def types_flatten_r11 : List AOper := [
  ⟨some 58, .mov, [.t 0], none⟩,
  ⟨some 8, .mov, [.t 58], none⟩]
def types_flatten : AFunc := ⟨59, (.seq (.region types_flatten_r0 [0, 2, 3, 5]) (.seq (.region types_flatten_r1 [0, 2, 3, 5, 9]) (.seq (.region types_flatten_r2 [0, 3, 5, 9]) (.seq (.region types_flatten_r3 [0, 3, 5, 9, 10]) (.seq (.seq (.region types_flatten_r4 [0, 3, 9, 10, 34, 35, 36]) (.block 0 (.loop types_flatten_l0))) (.seq (.region types_flatten_r10 [0]) (.seq (.region types_flatten_r11 [8]) .ret))))))), [.t 8]⟩
def ingotref13_Leaf_r0 : List AOper := [
  ⟨some 2, .mov, [.c (.bool false)], none⟩]
def ingotref13_Leaf_r1 : List AOper := [
  ⟨some 3, .mov, [.t 0], none⟩,
  ⟨some 4, (.bin .neq), [.t 3, .c (.int .i64 10)], none⟩,
  ⟨some 5, .mov, [.t 4], none⟩,
  ⟨some 6, .mov, [.t 0], some (5, true)⟩,
  ⟨some 7, (.bin .neq), [.t 6, .c (.int .i64 11)], some (5, true)⟩,
  ⟨some 8, .pick, [.t 5, .t 7, .c (.bool false)], none⟩,
  ⟨some 9, .mov, [.t 8], none⟩,
  ⟨some 10, .mov, [.t 0], some (9, true)⟩,
  ⟨some 11, (.bin .neq), [.t 10, .c (.int .i64 12)], some (9, true)⟩,
  ⟨some 12, .pick, [.t 9, .t 11, .c (.bool false)], none⟩,
  ⟨some 13, .mov, [.t 12], none⟩,
  ⟨some 14, .mov, [.t 0], some (13, true)⟩,
  ⟨some 15, (.bin .neq), [.t 14, .c (.int .i64 13)], some (13, true)⟩,
  ⟨some 16, .pick, [.t 13, .t 15, .c (.bool false)], none⟩,
  ⟨some 2, .mov, [.t 16], none⟩]
def ingotref13_Leaf : AFunc := ⟨17, (.seq (.region ingotref13_Leaf_r0 [0, 6, 7, 10, 11, 14, 15]) (.seq (.region ingotref13_Leaf_r1 [2]) .ret)), [.t 2]⟩
def ingotref13_check_r0 : List AOper := [
  ⟨some 3, (.box 6), [.t 0], none⟩,
  ⟨some 6, .mov, [.c (.int .i64 0)], none⟩,
  ⟨some 7, .mov, [.c (.int .i64 0)], none⟩]
def ingotref13_check_r1 : List AOper := [
  ⟨some 12, .mov, [.t 1], none⟩,
  ⟨some 13, (.bin .gtr), [.t 12, .c (.int .i64 16)], none⟩,
  ⟨some 14, .mov, [.t 13], none⟩,
  ⟨some 15, .mov, [.t 2], some (14, false)⟩,
  ⟨some 16, (.bin .geq), [.t 15, .c (.int .i64 100)], some (14, false)⟩,
  ⟨some 17, .pick, [.t 14, .c (.bool true), .t 16], none⟩]
def ingotref13_check_r2 : List AOper := [
  ⟨some 18, .mov, [.t 2], none⟩,
  ⟨some 6, .mov, [.t 18], none⟩,
  ⟨some 7, .mov, [.c (.int .i64 4)], none⟩]
def ingotref13_check_r3 : List AOper := [
  ⟨some 19, (.load true 6), [.t 3], none⟩,
  ⟨some 20, (.call f_ingotref13_own), [.t 19], none⟩,
  ⟨some 8, .mov, [.t 20], none⟩]
def ingotref13_check_r4 : List AOper := [
  ⟨some 21, .mov, [.t 8], none⟩,
  ⟨some 22, (.bin .neq), [.t 21, .c (.int .i64 0)], none⟩]
def ingotref13_check_r5 : List AOper := [
  ⟨some 23, .mov, [.t 2], none⟩,
  ⟨some 24, .mov, [.t 8], none⟩,
  ⟨some 6, .mov, [.t 23], none⟩,
  ⟨some 7, .mov, [.t 24], none⟩]
def ingotref13_check_r6 : List AOper := [
  ⟨some 25, .mov, [.t 2], none⟩,
  ⟨some 26, (.bin .add), [.t 25, .c (.int .i64 1)], none⟩,
  ⟨some 2, .mov, [.t 26], none⟩]
def ingotref13_check_r7 : List AOper := [
  ⟨some 9, .mov, [.c (.int .i64 0)], none⟩]
def ingotref13_check_r8 : List AOper := [
  ⟨some 27, .mov, [.t 9], none⟩,
  ⟨some 28, (.fad 2), [.t 3], none⟩,
  ⟨some 29, (.load false 1), [.t 28], none⟩,
  ⟨some 30, .lens, [.t 29], none⟩,
  ⟨some 31, (.bin .lss), [.t 27, .t 30], none⟩]
def ingotref13_check_r9 : List AOper := [
  ⟨some 35, (.fad 2), [.t 3], none⟩,
  ⟨some 36, (.load false 1), [.t 35], none⟩,
  ⟨some 37, .mov, [.t 9], none⟩,
  ⟨some 38, (.iad 6), [.t 36, .t 37], none⟩,
  ⟨some 39, (.load true 6), [.t 38], none⟩,
  ⟨some 40, .mov, [.t 1], none⟩,
  ⟨some 41, (.bin .add), [.t 40, .c (.int .i64 1)], none⟩,
  ⟨some 42, .mov, [.t 2], none⟩,
  ⟨some 43, (.call f_ingotref13_check), [.t 39, .t 41, .t 42], none⟩,
  ⟨some 34, .mov, [.t 43], none⟩,
  ⟨some 44, (.ext 0), [.t 34], none⟩,
  ⟨some 45, (.ext 1), [.t 34], none⟩,
  ⟨some 10, .mov, [.t 44], none⟩,
  ⟨some 11, .mov, [.t 45], none⟩]
def ingotref13_check_r10 : List AOper := [
  ⟨some 46, .mov, [.t 11], none⟩,
  ⟨some 47, (.bin .neq), [.t 46, .c (.int .i64 0)], none⟩]
def ingotref13_check_r11 : List AOper := [
  ⟨some 48, .mov, [.t 10], none⟩,
  ⟨some 49, .mov, [.t 11], none⟩,
  ⟨some 6, .mov, [.t 48], none⟩,
  ⟨some 7, .mov, [.t 49], none⟩]
def ingotref13_check_r12 : List AOper := [
  ⟨some 50, .mov, [.t 10], none⟩,
  ⟨some 2, .mov, [.t 50], none⟩]
def ingotref13_check_r13 : List AOper := [
  ⟨some 32, .mov, [.t 9], none⟩,
  ⟨some 33, (.bin .add), [.t 32, .c (.int .i64 1)], none⟩,
  ⟨some 9, .mov, [.t 33], none⟩]
def ingotref13_check_l0 : ACode := (.seq (.seq (.region ingotref13_check_r8 [1, 2, 3, 9, 31]) (.cond (.t 31) .skip (.exit 0))) (.seq (.block 1 (.seq (.region ingotref13_check_r9 [1, 3, 9, 10, 11]) (.seq (.seq (.region ingotref13_check_r10 [1, 3, 9, 10, 11, 47]) (.cond (.t 47) (.seq (.region ingotref13_check_r11 [6, 7]) .ret) .skip)) (.region ingotref13_check_r12 [1, 2, 3, 9])))) (.region ingotref13_check_r13 [1, 2, 3, 9])))
def ingotref13_check_r14 : List AOper := [
  ⟨some 51, .mov, [.t 2], none⟩,
  ⟨some 6, .mov, [.t 51], none⟩,
  ⟨some 7, .mov, [.c (.int .i64 0)], none⟩]
def ingotref13_check : AFunc := ⟨52, (.seq (.region ingotref13_check_r0 [1, 2, 3, 15, 16]) (.seq (.seq (.region ingotref13_check_r1 [1, 2, 3, 17]) (.cond (.t 17) (.seq (.region ingotref13_check_r2 [6, 7]) .ret) .skip)) (.seq (.region ingotref13_check_r3 [1, 2, 3, 8]) (.seq (.seq (.region ingotref13_check_r4 [1, 2, 3, 8, 22]) (.cond (.t 22) (.seq (.region ingotref13_check_r5 [6, 7]) .ret) .skip)) (.seq (.region ingotref13_check_r6 [1, 2, 3]) (.seq (.seq (.region ingotref13_check_r7 [1, 2, 3, 9]) (.block 0 (.loop ingotref13_check_l0))) (.seq (.region ingotref13_check_r14 [6, 7]) .ret))))))), [.t 6, .t 7]⟩
def ingotref13_all_r0 : List AOper := [
  ⟨some 7, .mov, [.t 1], none⟩,
  ⟨some 8, .mov, [.t 2], none⟩,
  ⟨some 9, (.iad 1), [.t 7, .t 8], none⟩,
  ⟨none, (.store 1), [.t 9, .c (.bool true)], none⟩]
def ingotref13_all_r1 : List AOper := [
  ⟨some 6, .mov, [.c (.int .i64 0)], none⟩]
def ingotref13_all_r2 : List AOper := [
  ⟨some 10, .mov, [.t 6], none⟩,
  ⟨some 11, .mov, [.t 0], none⟩,
  ⟨some 12, .mov, [.t 2], none⟩,
  ⟨some 13, (.iad 9), [.t 11, .t 12], none⟩,
  ⟨some 14, (.fad 6), [.t 13], none⟩,
  ⟨some 15, (.load false 1), [.t 14], none⟩,
  ⟨some 16, .lens, [.t 15], none⟩,
  ⟨some 17, (.bin .lss), [.t 10, .t 16], none⟩]
def ingotref13_all_r3 : List AOper := [
  ⟨some 20, .mov, [.t 0], none⟩,
  ⟨some 21, .mov, [.t 1], none⟩,
  ⟨some 22, .mov, [.t 0], none⟩,
  ⟨some 23, .mov, [.t 2], none⟩,
  ⟨some 24, (.iad 9), [.t 22, .t 23], none⟩,
  ⟨some 25, (.fad 6), [.t 24], none⟩,
  ⟨some 26, (.load false 1), [.t 25], none⟩,
  ⟨some 27, .mov, [.t 6], none⟩,
  ⟨some 28, (.iad 1), [.t 26, .t 27], none⟩,
  ⟨some 29, (.load false 1), [.t 28], none⟩,
  ⟨some 30, (.call f_ingotref13_all), [.t 20, .t 21, .t 29], none⟩]
def ingotref13_all_r4 : List AOper := [
  ⟨some 18, .mov, [.t 6], none⟩,
  ⟨some 19, (.bin .add), [.t 18, .c (.int .i64 1)], none⟩,
  ⟨some 6, .mov, [.t 19], none⟩]
def ingotref13_all_l0 : ACode := (.seq (.seq (.region ingotref13_all_r2 [0, 1, 2, 6, 17]) (.cond (.t 17) .skip (.exit 0))) (.seq (.block 1 (.region ingotref13_all_r3 [0, 1, 2, 6])) (.region ingotref13_all_r4 [0, 1, 2, 6])))
def ingotref13_all : AFunc := ⟨31, (.seq (.region ingotref13_all_r0 [0, 1, 2]) (.seq (.region ingotref13_all_r1 [0, 1, 2, 6]) (.block 0 (.loop ingotref13_all_l0)))), []⟩
def types_walk_r0 : List AOper := [
  ⟨some 3, (.box 6), [.t 0], none⟩,
  ⟨some 6, .mov, [.c (.int .i64 0)], none⟩]
def types_walk_r1 : List AOper := [
  ⟨some 11, .mov, [.t 1], none⟩,
  ⟨some 12, (.bin .gtr), [.t 11, .c (.int .i64 16)], none⟩,
  ⟨some 13, .mov, [.t 12], none⟩,
  ⟨some 14, .mov, [.t 2], some (13, false)⟩,
  ⟨some 15, .nilc, [.t 14], some (13, false)⟩,
  ⟨some 16, (.load false 1), [.t 15], some (13, false)⟩,
  ⟨some 17, (.bin .geq), [.t 16, .c (.int .i64 100)], some (13, false)⟩,
  ⟨some 18, .pick, [.t 13, .c (.bool true), .t 17], none⟩,
  ⟨some 10, .mov, [.t 18], none⟩]
def types_walk_r2 : List AOper := [
  ⟨some 6, .mov, [.c (.int .i64 4)], none⟩]
def types_walk_r3 : List AOper := [
  ⟨some 20, (.fad 0), [.t 3], none⟩,
  ⟨some 21, (.load false 1), [.t 20], none⟩,
  ⟨some 22, (.bin .eql), [.t 21, .c (.int .i64 5)], none⟩,
  ⟨some 23, .mov, [.t 22], none⟩,
  ⟨some 24, (.fad 0), [.t 3], some (23, false)⟩,
  ⟨some 25, (.load false 1), [.t 24], some (23, false)⟩,
  ⟨some 26, (.bin .eql), [.t 25, .c (.int .i64 6)], some (23, false)⟩,
  ⟨some 27, .pick, [.t 23, .c (.bool true), .t 26], none⟩,
  ⟨some 19, .mov, [.t 27], none⟩]
def types_walk_r4 : List AOper := [
  ⟨some 6, .mov, [.c (.int .i64 5)], none⟩]
def types_walk_r5 : List AOper := [
  ⟨some 29, (.fad 0), [.t 3], none⟩,
  ⟨some 30, (.load false 1), [.t 29], none⟩,
  ⟨some 31, (.bin .lss), [.t 30, .c (.int .i64 0)], none⟩,
  ⟨some 32, .mov, [.t 31], none⟩,
  ⟨some 33, (.fad 0), [.t 3], some (32, false)⟩,
  ⟨some 34, (.load false 1), [.t 33], some (32, false)⟩,
  ⟨some 35, (.bin .gtr), [.t 34, .c (.int .i64 17)], some (32, false)⟩,
  ⟨some 36, .pick, [.t 32, .c (.bool true), .t 35], none⟩,
  ⟨some 37, .mov, [.t 36], none⟩,
  ⟨some 38, (.load true 6), [.t 3], some (37, false)⟩,
  ⟨some 39, (.call f_types_right), [.t 38], some (37, false)⟩,
  ⟨some 40, .unot, [.t 39], some (37, false)⟩,
  ⟨some 41, .pick, [.t 37, .c (.bool true), .t 40], none⟩,
  ⟨some 28, .mov, [.t 41], none⟩]
def types_walk_r6 : List AOper := [
  ⟨some 6, .mov, [.c (.int .i64 1)], none⟩]
def types_walk_r7 : List AOper := [
  ⟨some 42, .mov, [.t 2], none⟩,
  ⟨some 43, .nilc, [.t 42], none⟩,
  ⟨some 44, (.load false 1), [.t 43], none⟩,
  ⟨some 45, (.bin .add), [.t 44, .c (.int .i64 1)], none⟩,
  ⟨some 46, .nilc, [.t 42], none⟩,
  ⟨none, (.store 1), [.t 46, .t 45], none⟩]
def types_walk_r8 : List AOper := [
  ⟨some 47, (.fad 2), [.t 3], none⟩,
  ⟨some 48, (.load false 1), [.t 47], none⟩,
  ⟨some 49, .lens, [.t 48], none⟩,
  ⟨some 50, .mov, [.c (.int .i64 0)], none⟩]
def types_walk_r9 : List AOper := [
  ⟨some 51, (.bin .lss), [.t 50, .t 49], none⟩]
def types_walk_r10 : List AOper := [
  ⟨some 52, (.iad 6), [.t 48, .t 50], none⟩,
  ⟨some 53, (.load true 6), [.t 52], none⟩,
  ⟨some 8, (.alloc (.agg [(.int .i64 0), (.slc 0 [] true), (.slc 0 [] true), (.int .i64 0), (.int .i64 0), (.int .i64 0)])), [], none⟩,
  ⟨none, (.store 6), [.t 8, .t 53], none⟩]
def types_walk_r11 : List AOper := [
  ⟨some 54, (.load true 6), [.t 8], none⟩,
  ⟨some 55, .mov, [.t 1], none⟩,
  ⟨some 56, (.bin .add), [.t 55, .c (.int .i64 1)], none⟩,
  ⟨some 57, .mov, [.t 2], none⟩,
  ⟨some 58, (.call f_types_walk), [.t 54, .t 56, .t 57], none⟩,
  ⟨some 9, .mov, [.t 58], none⟩]
def types_walk_r12 : List AOper := [
  ⟨some 59, .mov, [.t 9], none⟩,
  ⟨some 60, (.bin .neq), [.t 59, .c (.int .i64 0)], none⟩]
def types_walk_r13 : List AOper := [
  ⟨some 61, .mov, [.t 9], none⟩,
  ⟨some 6, .mov, [.t 61], none⟩]
def types_walk_r14 : List AOper := [
  ⟨some 62, (.bin .add), [.t 50, .c (.int .i64 1)], none⟩,
  ⟨some 50, .mov, [.t 62], none⟩]
def types_walk_l0 : ACode := (.seq (.region types_walk_r9 [1, 2, 48, 49, 50, 51]) (.seq (.cond (.t 51) .skip (.exit 1)) (.seq (.block 2 (.seq (.region types_walk_r10 [1, 2, 8, 48, 49, 50]) (.seq (.region types_walk_r11 [1, 2, 9, 48, 49, 50]) (.seq (.region types_walk_r12 [1, 2, 9, 48, 49, 50, 60]) (.cond (.t 60) (.seq (.region types_walk_r13 [6]) .ret) .skip))))) (.region types_walk_r14 [1, 2, 48, 49, 50]))))
def types_walk_r15 : List AOper := [
  ⟨some 6, .mov, [.c (.int .i64 0)], none⟩]
def types_walk : AFunc := ⟨63, (.seq (.region types_walk_r0 [1, 2, 3, 14, 15, 16, 17, 24, 25, 26, 33, 34, 35, 38, 39, 40]) (.seq (.block 0 (.seq (.region types_walk_r1 [1, 2, 3, 10, 24, 25, 26, 33, 34, 35, 38, 39, 40]) (.cond (.t 10) (.seq (.region types_walk_r2 [6]) .ret) (.seq (.region types_walk_r3 [1, 2, 3, 19, 33, 34, 35, 38, 39, 40]) (.cond (.t 19) (.seq (.region types_walk_r4 [6]) .ret) (.seq (.region types_walk_r5 [1, 2, 3, 28]) (.cond (.t 28) (.seq (.region types_walk_r6 [6]) .ret) .skip))))))) (.seq (.region types_walk_r7 [1, 2, 3]) (.seq (.seq (.region types_walk_r8 [1, 2, 48, 49, 50]) (.block 1 (.loop types_walk_l0))) (.seq (.region types_walk_r15 [6]) .ret))))), [.t 6]⟩
def slices_Clip_string_string_r0 : List AOper := [
  ⟨some 2, .mov, [.c (.slc 0 [] true)], none⟩]
def slices_Clip_string_string_r1 : List AOper := [
  ⟨some 3, .mov, [.t 0], none⟩,
  ⟨some 4, .mov, [.t 0], none⟩,
  ⟨some 5, .lens, [.t 4], none⟩,
  ⟨some 6, .mov, [.t 0], none⟩,
  ⟨some 7, .lens, [.t 6], none⟩,
  ⟨some 8, (.clip 1), [.t 3, .t 5, .t 7], none⟩,
  ⟨some 2, .mov, [.t 8], none⟩]
def slices_Clip_string_string : AFunc := ⟨9, (.seq (.region slices_Clip_string_string_r0 [0]) (.seq (.region slices_Clip_string_string_r1 [2]) .ret)), [.t 2]⟩
def slices_Clone_string_string_r0 : List AOper := [
  ⟨some 2, .mov, [.c (.slc 0 [] true)], none⟩]
def slices_Clone_string_string_r1 : List AOper := [
  ⟨some 3, .mov, [.t 0], none⟩,
  ⟨some 4, (.isnil false), [.t 3, .c (.slc 0 [] true)], none⟩]
def slices_Clone_string_string_r2 : List AOper := [
  ⟨some 2, .mov, [.c (.slc 0 [] true)], none⟩]
def slices_Clone_string_string_r3 : List AOper := [
  ⟨some 5, (.bsl 1), [], none⟩,
  ⟨some 6, .mov, [.t 0], none⟩,
  ⟨some 7, (.app 1 16), [.t 5, .t 6], none⟩,
  ⟨some 2, .mov, [.t 7], none⟩]
def slices_Clone_string_string : AFunc := ⟨8, (.seq (.region slices_Clone_string_string_r0 [0]) (.seq (.seq (.region slices_Clone_string_string_r1 [0, 4]) (.cond (.t 4) (.seq (.region slices_Clone_string_string_r2 [2]) .ret) .skip)) (.seq (.region slices_Clone_string_string_r3 [2]) .ret))), [.t 2]⟩
def slices_Clip_int_int_r0 : List AOper := [
  ⟨some 2, .mov, [.c (.slc 0 [] true)], none⟩]
def slices_Clip_int_int_r1 : List AOper := [
  ⟨some 3, .mov, [.t 0], none⟩,
  ⟨some 4, .mov, [.t 0], none⟩,
  ⟨some 5, .lens, [.t 4], none⟩,
  ⟨some 6, .mov, [.t 0], none⟩,
  ⟨some 7, .lens, [.t 6], none⟩,
  ⟨some 8, (.clip 1), [.t 3, .t 5, .t 7], none⟩,
  ⟨some 2, .mov, [.t 8], none⟩]
def slices_Clip_int_int : AFunc := ⟨9, (.seq (.region slices_Clip_int_int_r0 [0]) (.seq (.region slices_Clip_int_int_r1 [2]) .ret)), [.t 2]⟩
def types_Leaf_r0 : List AOper := [
  ⟨some 2, .mov, [.c (.bool false)], none⟩]
def types_Leaf_r1 : List AOper := [
  ⟨some 3, .mov, [.t 0], none⟩]
def types_Leaf_r2 : List AOper := [
  ⟨some 5, (.bin .eql), [.t 3, .c (.int .i64 10)], none⟩,
  ⟨some 4, .mov, [.t 5], none⟩]
def types_Leaf_r3 : List AOper := [
  ⟨some 6, (.bin .eql), [.t 3, .c (.int .i64 11)], none⟩,
  ⟨some 4, .mov, [.t 6], none⟩]
def types_Leaf_r4 : List AOper := [
  ⟨some 8, (.bin .eql), [.t 3, .c (.int .i64 12)], none⟩,
  ⟨some 7, .mov, [.t 8], none⟩]
def types_Leaf_r5 : List AOper := [
  ⟨some 9, (.bin .eql), [.t 3, .c (.int .i64 13)], none⟩,
  ⟨some 7, .mov, [.t 9], none⟩]
def types_Leaf_r6 : List AOper := [
  ⟨some 2, .mov, [.c (.bool false)], none⟩]
def types_Leaf_r7 : List AOper := [
  ⟨some 2, .mov, [.c (.bool true)], none⟩]
def types_Leaf : AFunc := ⟨10, (.seq (.region types_Leaf_r0 [0]) (.seq (.seq (.region types_Leaf_r1 [3]) (.block 0 (.seq (.block 2 (.block 1 (.seq (.seq (.seq (.seq (.region types_Leaf_r2 [3, 4]) (.cond (.t 4) .skip (.region types_Leaf_r3 [3, 4]))) (.cond (.t 4) (.exit 1) .skip)) (.seq (.seq (.region types_Leaf_r4 [3, 7]) (.cond (.t 7) .skip (.region types_Leaf_r5 [7]))) (.cond (.t 7) (.exit 2) .skip))) (.exit 0)))) (.seq (.seq (.region types_Leaf_r6 [2]) .ret) (.exit 0))))) (.seq (.region types_Leaf_r7 [2]) .ret))), [.t 2]⟩
def ingotref13_own_r0 : List AOper := [
  ⟨some 1, (.box 6), [.t 0], none⟩,
  ⟨some 2, .mov, [.c (.int .i64 0)], none⟩]
def ingotref13_own_r1 : List AOper := [
  ⟨some 8, (.fad 0), [.t 1], none⟩,
  ⟨some 9, (.load false 1), [.t 8], none⟩,
  ⟨some 10, (.bin .eql), [.t 9, .c (.int .i64 5)], none⟩,
  ⟨some 11, .mov, [.t 10], none⟩,
  ⟨some 12, (.fad 0), [.t 1], some (11, false)⟩,
  ⟨some 13, (.load false 1), [.t 12], some (11, false)⟩,
  ⟨some 14, (.bin .eql), [.t 13, .c (.int .i64 6)], some (11, false)⟩,
  ⟨some 15, .pick, [.t 11, .c (.bool true), .t 14], none⟩]
def ingotref13_own_r2 : List AOper := [
  ⟨some 2, .mov, [.c (.int .i64 5)], none⟩]
def ingotref13_own_r3 : List AOper := [
  ⟨some 16, (.fad 0), [.t 1], none⟩,
  ⟨some 17, (.load false 1), [.t 16], none⟩,
  ⟨some 18, (.bin .lss), [.t 17, .c (.int .i64 0)], none⟩,
  ⟨some 19, .mov, [.t 18], none⟩,
  ⟨some 20, (.fad 0), [.t 1], some (19, false)⟩,
  ⟨some 21, (.load false 1), [.t 20], some (19, false)⟩,
  ⟨some 22, (.bin .gtr), [.t 21, .c (.int .i64 17)], some (19, false)⟩,
  ⟨some 23, .pick, [.t 19, .c (.bool true), .t 22], none⟩]
def ingotref13_own_r4 : List AOper := [
  ⟨some 2, .mov, [.c (.int .i64 1)], none⟩]
def ingotref13_own_r5 : List AOper := [
  ⟨some 24, (.fad 2), [.t 1], none⟩,
  ⟨some 25, (.load false 1), [.t 24], none⟩,
  ⟨some 26, .lens, [.t 25], none⟩,
  ⟨some 3, .mov, [.t 26], none⟩]
def ingotref13_own_r6 : List AOper := [
  ⟨some 27, .mov, [.t 3], none⟩,
  ⟨some 28, (.bin .eql), [.t 27, .c (.int .i64 0)], none⟩,
  ⟨some 4, .mov, [.t 28], none⟩]
def ingotref13_own_r7 : List AOper := [
  ⟨some 29, (.fad 0), [.t 1], none⟩,
  ⟨some 30, (.load false 1), [.t 29], none⟩]
def ingotref13_own_r8 : List AOper := [
  ⟨some 32, (.bin .eql), [.t 30, .c (.int .i64 10)], none⟩,
  ⟨some 31, .mov, [.t 32], none⟩]
def ingotref13_own_r9 : List AOper := [
  ⟨some 33, .mov, [.t 3], none⟩,
  ⟨some 34, (.bin .eql), [.t 33, .c (.int .i64 1)], none⟩,
  ⟨some 4, .mov, [.t 34], none⟩]
def ingotref13_own_r10 : List AOper := [
  ⟨some 36, (.bin .eql), [.t 30, .c (.int .i64 11)], none⟩,
  ⟨some 35, .mov, [.t 36], none⟩]
def ingotref13_own_r11 : List AOper := [
  ⟨some 37, .mov, [.t 3], none⟩,
  ⟨some 38, (.bin .eql), [.t 37, .c (.int .i64 2)], none⟩,
  ⟨some 4, .mov, [.t 38], none⟩]
def ingotref13_own_r12 : List AOper := [
  ⟨some 40, (.bin .eql), [.t 30, .c (.int .i64 12)], none⟩,
  ⟨some 39, .mov, [.t 40], none⟩]
def ingotref13_own_r13 : List AOper := [
  ⟨some 41, .mov, [.t 3], none⟩,
  ⟨some 42, (.fad 1), [.t 1], none⟩,
  ⟨some 43, (.load false 1), [.t 42], none⟩,
  ⟨some 44, .lens, [.t 43], none⟩,
  ⟨some 45, (.bin .eql), [.t 41, .t 44], none⟩,
  ⟨some 4, .mov, [.t 45], none⟩]
def ingotref13_own_r14 : List AOper := [
  ⟨some 47, (.bin .eql), [.t 30, .c (.int .i64 13)], none⟩,
  ⟨some 46, .mov, [.t 47], none⟩]
def ingotref13_own_r15 : List AOper := [
  ⟨some 48, .mov, [.t 3], none⟩,
  ⟨some 49, (.bin .geq), [.t 48, .c (.int .i64 1)], none⟩,
  ⟨some 50, .mov, [.t 49], none⟩,
  ⟨some 51, .mov, [.t 3], some (50, true)⟩,
  ⟨some 52, (.bin .leq), [.t 51, .c (.int .i64 255)], some (50, true)⟩,
  ⟨some 53, .pick, [.t 50, .t 52, .c (.bool false)], none⟩,
  ⟨some 4, .mov, [.t 53], none⟩]
def ingotref13_own_r16 : List AOper := [
  ⟨some 54, .mov, [.t 4], none⟩,
  ⟨some 55, .unot, [.t 54], none⟩,
  ⟨some 56, .mov, [.t 55], none⟩,
  ⟨some 57, (.fad 0), [.t 1], some (56, false)⟩,
  ⟨some 58, (.load false 1), [.t 57], some (56, false)⟩,
  ⟨some 59, (.bin .neq), [.t 58, .c (.int .i64 12)], some (56, false)⟩,
  ⟨some 60, .mov, [.t 59], some (56, false)⟩,
  ⟨some 61, (.fad 1), [.t 1], some (60, true)⟩,
  ⟨some 62, (.load false 1), [.t 61], some (60, true)⟩,
  ⟨some 63, .lens, [.t 62], some (60, true)⟩,
  ⟨some 64, (.bin .gtr), [.t 63, .c (.int .i64 0)], some (60, true)⟩,
  ⟨some 65, .pick, [.t 60, .t 64, .c (.bool false)], some (56, false)⟩,
  ⟨some 66, .pick, [.t 56, .c (.bool true), .t 65], none⟩]
def ingotref13_own_r17 : List AOper := [
  ⟨some 2, .mov, [.c (.int .i64 1)], none⟩]
def ingotref13_own_r18 : List AOper := [
  ⟨some 5, .mov, [.c (.int .i64 0)], none⟩]
def ingotref13_own_r19 : List AOper := [
  ⟨some 67, .mov, [.t 5], none⟩,
  ⟨some 68, (.fad 1), [.t 1], none⟩,
  ⟨some 69, (.load false 1), [.t 68], none⟩,
  ⟨some 70, .lens, [.t 69], none⟩,
  ⟨some 71, (.bin .lss), [.t 67, .t 70], none⟩]
def ingotref13_own_r20 : List AOper := [
  ⟨some 74, (.fad 1), [.t 1], none⟩,
  ⟨some 75, (.load false 1), [.t 74], none⟩,
  ⟨some 76, .mov, [.t 5], none⟩,
  ⟨some 77, (.iad 1), [.t 75, .t 76], none⟩,
  ⟨some 78, (.load false 1), [.t 77], none⟩,
  ⟨some 79, (.bin .eql), [.t 78, .c (.str [])], none⟩,
  ⟨some 80, .mov, [.t 79], none⟩,
  ⟨some 81, (.fad 1), [.t 1], some (80, false)⟩,
  ⟨some 82, (.load false 1), [.t 81], some (80, false)⟩,
  ⟨some 83, .mov, [.t 5], some (80, false)⟩,
  ⟨some 84, (.iad 1), [.t 82, .t 83], some (80, false)⟩,
  ⟨some 85, (.load false 1), [.t 84], some (80, false)⟩,
  ⟨some 86, .lent, [.t 85], some (80, false)⟩,
  ⟨some 87, (.bin .gtr), [.t 86, .c (.int .i64 100)], some (80, false)⟩,
  ⟨some 88, .pick, [.t 80, .c (.bool true), .t 87], none⟩]
def ingotref13_own_r21 : List AOper := [
  ⟨some 2, .mov, [.c (.int .i64 1)], none⟩]
def ingotref13_own_r22 : List AOper := [
  ⟨some 6, .mov, [.c (.int .i64 0)], none⟩]
def ingotref13_own_r23 : List AOper := [
  ⟨some 89, .mov, [.t 6], none⟩,
  ⟨some 90, .mov, [.t 5], none⟩,
  ⟨some 91, (.bin .lss), [.t 89, .t 90], none⟩]
def ingotref13_own_r24 : List AOper := [
  ⟨some 94, (.fad 1), [.t 1], none⟩,
  ⟨some 95, (.load false 1), [.t 94], none⟩,
  ⟨some 96, .mov, [.t 6], none⟩,
  ⟨some 97, (.iad 1), [.t 95, .t 96], none⟩,
  ⟨some 98, (.load false 1), [.t 97], none⟩,
  ⟨some 99, (.fad 1), [.t 1], none⟩,
  ⟨some 100, (.load false 1), [.t 99], none⟩,
  ⟨some 101, .mov, [.t 5], none⟩,
  ⟨some 102, (.iad 1), [.t 100, .t 101], none⟩,
  ⟨some 103, (.load false 1), [.t 102], none⟩,
  ⟨some 104, (.bin .eql), [.t 98, .t 103], none⟩]
def ingotref13_own_r25 : List AOper := [
  ⟨some 2, .mov, [.c (.int .i64 1)], none⟩]
def ingotref13_own_r26 : List AOper := [
  ⟨some 92, .mov, [.t 6], none⟩,
  ⟨some 93, (.bin .add), [.t 92, .c (.int .i64 1)], none⟩,
  ⟨some 6, .mov, [.t 93], none⟩]
def ingotref13_own_l0 : ACode := (.seq (.seq (.region ingotref13_own_r23 [1, 5, 6, 81, 82, 83, 84, 85, 86, 87, 91, 109, 110, 111, 115, 116, 117, 118, 119, 120, 121, 122, 125, 126, 127, 128, 129, 130, 131, 140, 141, 142, 145, 146, 147, 150, 151, 152, 153, 154, 160, 161, 162]) (.cond (.t 91) .skip (.exit 3))) (.seq (.block 4 (.seq (.region ingotref13_own_r24 [1, 5, 6, 81, 82, 83, 84, 85, 86, 87, 104, 109, 110, 111, 115, 116, 117, 118, 119, 120, 121, 122, 125, 126, 127, 128, 129, 130, 131, 140, 141, 142, 145, 146, 147, 150, 151, 152, 153, 154, 160, 161, 162]) (.cond (.t 104) (.seq (.region ingotref13_own_r25 [2]) .ret) .skip))) (.region ingotref13_own_r26 [1, 5, 6, 81, 82, 83, 84, 85, 86, 87, 109, 110, 111, 115, 116, 117, 118, 119, 120, 121, 122, 125, 126, 127, 128, 129, 130, 131, 140, 141, 142, 145, 146, 147, 150, 151, 152, 153, 154, 160, 161, 162])))
def ingotref13_own_r27 : List AOper := [
  ⟨some 72, .mov, [.t 5], none⟩,
  ⟨some 73, (.bin .add), [.t 72, .c (.int .i64 1)], none⟩,
  ⟨some 5, .mov, [.t 73], none⟩]
def ingotref13_own_l1 : ACode := (.seq (.seq (.region ingotref13_own_r19 [1, 5, 71, 81, 82, 83, 84, 85, 86, 87, 109, 110, 111, 115, 116, 117, 118, 119, 120, 121, 122, 125, 126, 127, 128, 129, 130, 131, 140, 141, 142, 145, 146, 147, 150, 151, 152, 153, 154, 160, 161, 162]) (.cond (.t 71) .skip (.exit 1))) (.seq (.block 2 (.seq (.seq (.region ingotref13_own_r20 [1, 5, 81, 82, 83, 84, 85, 86, 87, 88, 109, 110, 111, 115, 116, 117, 118, 119, 120, 121, 122, 125, 126, 127, 128, 129, 130, 131, 140, 141, 142, 145, 146, 147, 150, 151, 152, 153, 154, 160, 161, 162]) (.cond (.t 88) (.seq (.region ingotref13_own_r21 [2]) .ret) .skip)) (.seq (.region ingotref13_own_r22 [1, 5, 6, 81, 82, 83, 84, 85, 86, 87, 109, 110, 111, 115, 116, 117, 118, 119, 120, 121, 122, 125, 126, 127, 128, 129, 130, 131, 140, 141, 142, 145, 146, 147, 150, 151, 152, 153, 154, 160, 161, 162]) (.block 3 (.loop ingotref13_own_l0))))) (.region ingotref13_own_r27 [1, 5, 81, 82, 83, 84, 85, 86, 87, 109, 110, 111, 115, 116, 117, 118, 119, 120, 121, 122, 125, 126, 127, 128, 129, 130, 131, 140, 141, 142, 145, 146, 147, 150, 151, 152, 153, 154, 160, 161, 162])))
def ingotref13_own_r28 : List AOper := [
  ⟨some 105, (.fad 0), [.t 1], none⟩,
  ⟨some 106, (.load false 1), [.t 105], none⟩,
  ⟨some 107, (.bin .eql), [.t 106, .c (.int .i64 16)], none⟩,
  ⟨some 108, .mov, [.t 107], none⟩,
  ⟨some 109, (.fad 0), [.t 1], some (108, false)⟩,
  ⟨some 110, (.load false 1), [.t 109], some (108, false)⟩,
  ⟨some 111, (.bin .eql), [.t 110, .c (.int .i64 17)], some (108, false)⟩,
  ⟨some 112, .pick, [.t 108, .c (.bool true), .t 111], none⟩,
  ⟨some 7, .mov, [.t 112], none⟩]
def ingotref13_own_r29 : List AOper := [
  ⟨some 113, .mov, [.t 7], none⟩,
  ⟨some 114, .mov, [.t 113], none⟩,
  ⟨some 115, (.fad 3), [.t 1], some (114, true)⟩,
  ⟨some 116, (.load false 1), [.t 115], some (114, true)⟩,
  ⟨some 117, (.bin .lss), [.t 116, .c (.int .i64 1)], some (114, true)⟩,
  ⟨some 118, .mov, [.t 117], some (114, true)⟩,
  ⟨some 119, (.fad 3), [.t 1], some (118, false)⟩,
  ⟨some 120, (.load false 1), [.t 119], some (118, false)⟩,
  ⟨some 121, (.bin .gtr), [.t 120, .c (.int .i64 4096)], some (118, false)⟩,
  ⟨some 122, .pick, [.t 118, .c (.bool true), .t 121], some (114, true)⟩,
  ⟨some 123, .pick, [.t 114, .t 122, .c (.bool false)], none⟩,
  ⟨some 124, .mov, [.t 123], none⟩,
  ⟨some 125, .mov, [.t 7], some (124, false)⟩,
  ⟨some 126, .unot, [.t 125], some (124, false)⟩,
  ⟨some 127, .mov, [.t 126], some (124, false)⟩,
  ⟨some 128, (.fad 3), [.t 1], some (127, true)⟩,
  ⟨some 129, (.load false 1), [.t 128], some (127, true)⟩,
  ⟨some 130, (.bin .neq), [.t 129, .c (.int .i64 0)], some (127, true)⟩,
  ⟨some 131, .pick, [.t 127, .t 130, .c (.bool false)], some (124, false)⟩,
  ⟨some 132, .pick, [.t 124, .c (.bool true), .t 131], none⟩]
def ingotref13_own_r30 : List AOper := [
  ⟨some 2, .mov, [.c (.int .i64 1)], none⟩]
def ingotref13_own_r31 : List AOper := [
  ⟨some 133, (.fad 0), [.t 1], none⟩,
  ⟨some 134, (.load false 1), [.t 133], none⟩,
  ⟨some 135, (.bin .eql), [.t 134, .c (.int .i64 14)], none⟩]
def ingotref13_own_r32 : List AOper := [
  ⟨some 136, (.fad 4), [.t 1], none⟩,
  ⟨some 137, (.load false 1), [.t 136], none⟩,
  ⟨some 138, (.bin .lss), [.t 137, .c (.int .i64 1)], none⟩,
  ⟨some 139, .mov, [.t 138], none⟩,
  ⟨some 140, (.fad 4), [.t 1], some (139, false)⟩,
  ⟨some 141, (.load false 1), [.t 140], some (139, false)⟩,
  ⟨some 142, (.bin .gtr), [.t 141, .c (.int .i64 18)], some (139, false)⟩,
  ⟨some 143, .pick, [.t 139, .c (.bool true), .t 142], none⟩,
  ⟨some 144, .mov, [.t 143], none⟩,
  ⟨some 145, (.fad 5), [.t 1], some (144, false)⟩,
  ⟨some 146, (.load false 1), [.t 145], some (144, false)⟩,
  ⟨some 147, (.bin .lss), [.t 146, .c (.int .i64 0)], some (144, false)⟩,
  ⟨some 148, .pick, [.t 144, .c (.bool true), .t 147], none⟩,
  ⟨some 149, .mov, [.t 148], none⟩,
  ⟨some 150, (.fad 5), [.t 1], some (149, false)⟩,
  ⟨some 151, (.load false 1), [.t 150], some (149, false)⟩,
  ⟨some 152, (.fad 4), [.t 1], some (149, false)⟩,
  ⟨some 153, (.load false 1), [.t 152], some (149, false)⟩,
  ⟨some 154, (.bin .gtr), [.t 151, .t 153], some (149, false)⟩,
  ⟨some 155, .pick, [.t 149, .c (.bool true), .t 154], none⟩]
def ingotref13_own_r33 : List AOper := [
  ⟨some 2, .mov, [.c (.int .i64 1)], none⟩]
def ingotref13_own_r34 : List AOper := [
  ⟨some 156, (.fad 4), [.t 1], none⟩,
  ⟨some 157, (.load false 1), [.t 156], none⟩,
  ⟨some 158, (.bin .neq), [.t 157, .c (.int .i64 0)], none⟩,
  ⟨some 159, .mov, [.t 158], none⟩,
  ⟨some 160, (.fad 5), [.t 1], some (159, false)⟩,
  ⟨some 161, (.load false 1), [.t 160], some (159, false)⟩,
  ⟨some 162, (.bin .neq), [.t 161, .c (.int .i64 0)], some (159, false)⟩,
  ⟨some 163, .pick, [.t 159, .c (.bool true), .t 162], none⟩]
def ingotref13_own_r35 : List AOper := [
  ⟨some 2, .mov, [.c (.int .i64 1)], none⟩]
def ingotref13_own_r36 : List AOper := [
  ⟨some 2, .mov, [.c (.int .i64 0)], none⟩]
def ingotref13_own : AFunc := ⟨164, (.seq (.region ingotref13_own_r0 [1, 12, 13, 14, 20, 21, 22, 51, 52, 57, 58, 59, 60, 61, 62, 63, 64, 65, 81, 82, 83, 84, 85, 86, 87, 109, 110, 111, 115, 116, 117, 118, 119, 120, 121, 122, 125, 126, 127, 128, 129, 130, 131, 140, 141, 142, 145, 146, 147, 150, 151, 152, 153, 154, 160, 161, 162]) (.seq (.seq (.region ingotref13_own_r1 [1, 15, 20, 21, 22, 51, 52, 57, 58, 59, 60, 61, 62, 63, 64, 65, 81, 82, 83, 84, 85, 86, 87, 109, 110, 111, 115, 116, 117, 118, 119, 120, 121, 122, 125, 126, 127, 128, 129, 130, 131, 140, 141, 142, 145, 146, 147, 150, 151, 152, 153, 154, 160, 161, 162]) (.cond (.t 15) (.seq (.region ingotref13_own_r2 [2]) .ret) .skip)) (.seq (.seq (.region ingotref13_own_r3 [1, 23, 51, 52, 57, 58, 59, 60, 61, 62, 63, 64, 65, 81, 82, 83, 84, 85, 86, 87, 109, 110, 111, 115, 116, 117, 118, 119, 120, 121, 122, 125, 126, 127, 128, 129, 130, 131, 140, 141, 142, 145, 146, 147, 150, 151, 152, 153, 154, 160, 161, 162]) (.cond (.t 23) (.seq (.region ingotref13_own_r4 [2]) .ret) .skip)) (.seq (.region ingotref13_own_r5 [1, 3, 51, 52, 57, 58, 59, 60, 61, 62, 63, 64, 65, 81, 82, 83, 84, 85, 86, 87, 109, 110, 111, 115, 116, 117, 118, 119, 120, 121, 122, 125, 126, 127, 128, 129, 130, 131, 140, 141, 142, 145, 146, 147, 150, 151, 152, 153, 154, 160, 161, 162]) (.seq (.region ingotref13_own_r6 [1, 3, 4, 51, 52, 57, 58, 59, 60, 61, 62, 63, 64, 65, 81, 82, 83, 84, 85, 86, 87, 109, 110, 111, 115, 116, 117, 118, 119, 120, 121, 122, 125, 126, 127, 128, 129, 130, 131, 140, 141, 142, 145, 146, 147, 150, 151, 152, 153, 154, 160, 161, 162]) (.seq (.seq (.region ingotref13_own_r7 [1, 3, 4, 30, 51, 52, 57, 58, 59, 60, 61, 62, 63, 64, 65, 81, 82, 83, 84, 85, 86, 87, 109, 110, 111, 115, 116, 117, 118, 119, 120, 121, 122, 125, 126, 127, 128, 129, 130, 131, 140, 141, 142, 145, 146, 147, 150, 151, 152, 153, 154, 160, 161, 162]) (.block 0 (.seq (.region ingotref13_own_r8 [1, 3, 4, 30, 31, 51, 52, 57, 58, 59, 60, 61, 62, 63, 64, 65, 81, 82, 83, 84, 85, 86, 87, 109, 110, 111, 115, 116, 117, 118, 119, 120, 121, 122, 125, 126, 127, 128, 129, 130, 131, 140, 141, 142, 145, 146, 147, 150, 151, 152, 153, 154, 160, 161, 162]) (.cond (.t 31) (.region ingotref13_own_r9 [1, 4, 57, 58, 59, 60, 61, 62, 63, 64, 65, 81, 82, 83, 84, 85, 86, 87, 109, 110, 111, 115, 116, 117, 118, 119, 120, 121, 122, 125, 126, 127, 128, 129, 130, 131, 140, 141, 142, 145, 146, 147, 150, 151, 152, 153, 154, 160, 161, 162]) (.seq (.region ingotref13_own_r10 [1, 3, 4, 30, 35, 51, 52, 57, 58, 59, 60, 61, 62, 63, 64, 65, 81, 82, 83, 84, 85, 86, 87, 109, 110, 111, 115, 116, 117, 118, 119, 120, 121, 122, 125, 126, 127, 128, 129, 130, 131, 140, 141, 142, 145, 146, 147, 150, 151, 152, 153, 154, 160, 161, 162]) (.cond (.t 35) (.region ingotref13_own_r11 [1, 4, 57, 58, 59, 60, 61, 62, 63, 64, 65, 81, 82, 83, 84, 85, 86, 87, 109, 110, 111, 115, 116, 117, 118, 119, 120, 121, 122, 125, 126, 127, 128, 129, 130, 131, 140, 141, 142, 145, 146, 147, 150, 151, 152, 153, 154, 160, 161, 162]) (.seq (.region ingotref13_own_r12 [1, 3, 4, 30, 39, 51, 52, 57, 58, 59, 60, 61, 62, 63, 64, 65, 81, 82, 83, 84, 85, 86, 87, 109, 110, 111, 115, 116, 117, 118, 119, 120, 121, 122, 125, 126, 127, 128, 129, 130, 131, 140, 141, 142, 145, 146, 147, 150, 151, 152, 153, 154, 160, 161, 162]) (.cond (.t 39) (.region ingotref13_own_r13 [1, 4, 57, 58, 59, 60, 61, 62, 63, 64, 65, 81, 82, 83, 84, 85, 86, 87, 109, 110, 111, 115, 116, 117, 118, 119, 120, 121, 122, 125, 126, 127, 128, 129, 130, 131, 140, 141, 142, 145, 146, 147, 150, 151, 152, 153, 154, 160, 161, 162]) (.seq (.region ingotref13_own_r14 [1, 3, 4, 46, 51, 52, 57, 58, 59, 60, 61, 62, 63, 64, 65, 81, 82, 83, 84, 85, 86, 87, 109, 110, 111, 115, 116, 117, 118, 119, 120, 121, 122, 125, 126, 127, 128, 129, 130, 131, 140, 141, 142, 145, 146, 147, 150, 151, 152, 153, 154, 160, 161, 162]) (.cond (.t 46) (.region ingotref13_own_r15 [1, 4, 57, 58, 59, 60, 61, 62, 63, 64, 65, 81, 82, 83, 84, 85, 86, 87, 109, 110, 111, 115, 116, 117, 118, 119, 120, 121, 122, 125, 126, 127, 128, 129, 130, 131, 140, 141, 142, 145, 146, 147, 150, 151, 152, 153, 154, 160, 161, 162]) .skip)))))))))) (.seq (.seq (.region ingotref13_own_r16 [1, 66, 81, 82, 83, 84, 85, 86, 87, 109, 110, 111, 115, 116, 117, 118, 119, 120, 121, 122, 125, 126, 127, 128, 129, 130, 131, 140, 141, 142, 145, 146, 147, 150, 151, 152, 153, 154, 160, 161, 162]) (.cond (.t 66) (.seq (.region ingotref13_own_r17 [2]) .ret) .skip)) (.seq (.seq (.region ingotref13_own_r18 [1, 5, 81, 82, 83, 84, 85, 86, 87, 109, 110, 111, 115, 116, 117, 118, 119, 120, 121, 122, 125, 126, 127, 128, 129, 130, 131, 140, 141, 142, 145, 146, 147, 150, 151, 152, 153, 154, 160, 161, 162]) (.block 1 (.loop ingotref13_own_l1))) (.seq (.region ingotref13_own_r28 [1, 7, 115, 116, 117, 118, 119, 120, 121, 122, 125, 126, 127, 128, 129, 130, 131, 140, 141, 142, 145, 146, 147, 150, 151, 152, 153, 154, 160, 161, 162]) (.seq (.seq (.region ingotref13_own_r29 [1, 132, 140, 141, 142, 145, 146, 147, 150, 151, 152, 153, 154, 160, 161, 162]) (.cond (.t 132) (.seq (.region ingotref13_own_r30 [2]) .ret) .skip)) (.seq (.seq (.region ingotref13_own_r31 [1, 135, 140, 141, 142, 145, 146, 147, 150, 151, 152, 153, 154, 160, 161, 162]) (.cond (.t 135) (.seq (.region ingotref13_own_r32 [155]) (.cond (.t 155) (.seq (.region ingotref13_own_r33 [2]) .ret) .skip)) (.seq (.region ingotref13_own_r34 [163]) (.cond (.t 163) (.seq (.region ingotref13_own_r35 [2]) .ret) .skip)))) (.seq (.region ingotref13_own_r36 [2]) .ret)))))))))))), [.t 2]⟩
def types_right_r0 : List AOper := [
  ⟨some 1, (.box 6), [.t 0], none⟩,
  ⟨some 2, .mov, [.c (.bool false)], none⟩]
def types_right_r1 : List AOper := [
  ⟨some 3, .mov, [.c (.int .i64 0)], none⟩,
  ⟨some 4, .mov, [.c (.int .i64 0)], none⟩,
  ⟨some 5, .mov, [.c (.int .i64 0)], none⟩,
  ⟨some 6, .mov, [.c (.bool false)], none⟩]
def types_right_r2 : List AOper := [
  ⟨some 7, (.fad 0), [.t 1], none⟩,
  ⟨some 8, (.load false 1), [.t 7], none⟩]
def types_right_r3 : List AOper := [
  ⟨some 10, (.bin .eql), [.t 8, .c (.int .i64 11)], none⟩,
  ⟨some 9, .mov, [.t 10], none⟩]
def types_right_r4 : List AOper := [
  ⟨some 12, (.bin .eql), [.t 8, .c (.int .i64 10)], none⟩,
  ⟨some 11, .mov, [.t 12], none⟩]
def types_right_r5 : List AOper := [
  ⟨some 14, (.bin .eql), [.t 8, .c (.int .i64 12)], none⟩,
  ⟨some 13, .mov, [.t 14], none⟩]
def types_right_r6 : List AOper := [
  ⟨some 16, (.bin .eql), [.t 8, .c (.int .i64 13)], none⟩,
  ⟨some 15, .mov, [.t 16], none⟩]
def types_right_r7 : List AOper := [
  ⟨some 18, (.bin .eql), [.t 8, .c (.int .i64 16)], none⟩,
  ⟨some 17, .mov, [.t 18], none⟩]
def types_right_r8 : List AOper := [
  ⟨some 19, (.bin .eql), [.t 8, .c (.int .i64 17)], none⟩,
  ⟨some 17, .mov, [.t 19], none⟩]
def types_right_r9 : List AOper := [
  ⟨some 21, (.bin .eql), [.t 8, .c (.int .i64 14)], none⟩,
  ⟨some 20, .mov, [.t 21], none⟩]
def types_right_r10 : List AOper := [
  ⟨some 22, .mov, [.t 3], none⟩,
  ⟨some 23, (.bin .add), [.t 22, .c (.int .i64 1)], none⟩,
  ⟨some 3, .mov, [.t 23], none⟩]
def types_right_r11 : List AOper := [
  ⟨some 24, .mov, [.t 3], none⟩,
  ⟨some 25, (.bin .add), [.t 24, .c (.int .i64 1)], none⟩,
  ⟨some 3, .mov, [.t 25], none⟩]
def types_right_r12 : List AOper := [
  ⟨some 26, (.fad 1), [.t 1], none⟩,
  ⟨some 27, (.load false 1), [.t 26], none⟩,
  ⟨some 28, .lens, [.t 27], none⟩,
  ⟨some 29, (.fad 1), [.t 1], none⟩,
  ⟨some 30, (.load false 1), [.t 29], none⟩,
  ⟨some 31, .lens, [.t 30], none⟩,
  ⟨some 3, .mov, [.t 28], none⟩,
  ⟨some 4, .mov, [.t 31], none⟩]
def types_right_r13 : List AOper := [
  ⟨some 32, (.fad 2), [.t 1], none⟩,
  ⟨some 33, (.load false 1), [.t 32], none⟩,
  ⟨some 34, .lens, [.t 33], none⟩,
  ⟨some 3, .mov, [.t 34], none⟩]
def types_right_r14 : List AOper := [
  ⟨some 35, .mov, [.t 3], none⟩,
  ⟨some 36, (.bin .lss), [.t 35, .c (.int .i64 1)], none⟩,
  ⟨some 37, .mov, [.t 36], none⟩,
  ⟨some 38, .mov, [.t 3], some (37, false)⟩,
  ⟨some 39, (.bin .gtr), [.t 38, .c (.int .i64 255)], some (37, false)⟩,
  ⟨some 40, .pick, [.t 37, .c (.bool true), .t 39], none⟩]
def types_right_r15 : List AOper := [
  ⟨some 2, .mov, [.c (.bool false)], none⟩]
def types_right_r16 : List AOper := [
  ⟨some 41, (.fad 3), [.t 1], none⟩,
  ⟨some 42, (.load false 1), [.t 41], none⟩,
  ⟨some 5, .mov, [.t 42], none⟩]
def types_right_r17 : List AOper := [
  ⟨some 43, .mov, [.t 5], none⟩,
  ⟨some 44, (.bin .lss), [.t 43, .c (.int .i64 1)], none⟩,
  ⟨some 45, .mov, [.t 44], none⟩,
  ⟨some 46, .mov, [.t 5], some (45, false)⟩,
  ⟨some 47, (.bin .gtr), [.t 46, .c (.int .i64 4096)], some (45, false)⟩,
  ⟨some 48, .pick, [.t 45, .c (.bool true), .t 47], none⟩]
def types_right_r18 : List AOper := [
  ⟨some 2, .mov, [.c (.bool false)], none⟩]
def types_right_r19 : List AOper := [
  ⟨some 6, .mov, [.c (.bool true)], none⟩]
def types_right_r20 : List AOper := [
  ⟨some 49, (.fad 2), [.t 1], none⟩,
  ⟨some 50, (.load false 1), [.t 49], none⟩,
  ⟨some 51, .lens, [.t 50], none⟩,
  ⟨some 52, .mov, [.t 3], none⟩,
  ⟨some 53, (.bin .neq), [.t 51, .t 52], none⟩,
  ⟨some 54, .mov, [.t 53], none⟩,
  ⟨some 55, (.fad 1), [.t 1], some (54, false)⟩,
  ⟨some 56, (.load false 1), [.t 55], some (54, false)⟩,
  ⟨some 57, .lens, [.t 56], some (54, false)⟩,
  ⟨some 58, .mov, [.t 4], some (54, false)⟩,
  ⟨some 59, (.bin .neq), [.t 57, .t 58], some (54, false)⟩,
  ⟨some 60, .pick, [.t 54, .c (.bool true), .t 59], none⟩,
  ⟨some 61, .mov, [.t 60], none⟩,
  ⟨some 62, (.fad 3), [.t 1], some (61, false)⟩,
  ⟨some 63, (.load false 1), [.t 62], some (61, false)⟩,
  ⟨some 64, .mov, [.t 5], some (61, false)⟩,
  ⟨some 65, (.bin .neq), [.t 63, .t 64], some (61, false)⟩,
  ⟨some 66, .pick, [.t 61, .c (.bool true), .t 65], none⟩,
  ⟨some 67, .mov, [.t 66], none⟩,
  ⟨some 68, (.fad 1), [.t 1], some (67, false)⟩,
  ⟨some 69, (.load false 1), [.t 68], some (67, false)⟩,
  ⟨some 70, (.call f_types_names), [.t 69], some (67, false)⟩,
  ⟨some 71, .unot, [.t 70], some (67, false)⟩,
  ⟨some 72, .pick, [.t 67, .c (.bool true), .t 71], none⟩]
def types_right_r21 : List AOper := [
  ⟨some 2, .mov, [.c (.bool false)], none⟩]
def types_right_r22 : List AOper := [
  ⟨some 73, .mov, [.t 6], none⟩]
def types_right_r23 : List AOper := [
  ⟨some 74, (.fad 4), [.t 1], none⟩,
  ⟨some 75, (.load false 1), [.t 74], none⟩,
  ⟨some 76, (.bin .geq), [.t 75, .c (.int .i64 1)], none⟩,
  ⟨some 77, .mov, [.t 76], none⟩,
  ⟨some 78, (.fad 4), [.t 1], some (77, true)⟩,
  ⟨some 79, (.load false 1), [.t 78], some (77, true)⟩,
  ⟨some 80, (.bin .leq), [.t 79, .c (.int .i64 18)], some (77, true)⟩,
  ⟨some 81, .pick, [.t 77, .t 80, .c (.bool false)], none⟩,
  ⟨some 82, .mov, [.t 81], none⟩,
  ⟨some 83, (.fad 5), [.t 1], some (82, true)⟩,
  ⟨some 84, (.load false 1), [.t 83], some (82, true)⟩,
  ⟨some 85, (.bin .geq), [.t 84, .c (.int .i64 0)], some (82, true)⟩,
  ⟨some 86, .pick, [.t 82, .t 85, .c (.bool false)], none⟩,
  ⟨some 87, .mov, [.t 86], none⟩,
  ⟨some 88, (.fad 5), [.t 1], some (87, true)⟩,
  ⟨some 89, (.load false 1), [.t 88], some (87, true)⟩,
  ⟨some 90, (.fad 4), [.t 1], some (87, true)⟩,
  ⟨some 91, (.load false 1), [.t 90], some (87, true)⟩,
  ⟨some 92, (.bin .leq), [.t 89, .t 91], some (87, true)⟩,
  ⟨some 93, .pick, [.t 87, .t 92, .c (.bool false)], none⟩,
  ⟨some 2, .mov, [.t 93], none⟩]
def types_right_r24 : List AOper := [
  ⟨some 94, (.fad 4), [.t 1], none⟩,
  ⟨some 95, (.load false 1), [.t 94], none⟩,
  ⟨some 96, (.bin .eql), [.t 95, .c (.int .i64 0)], none⟩,
  ⟨some 97, .mov, [.t 96], none⟩,
  ⟨some 98, (.fad 5), [.t 1], some (97, true)⟩,
  ⟨some 99, (.load false 1), [.t 98], some (97, true)⟩,
  ⟨some 100, (.bin .eql), [.t 99, .c (.int .i64 0)], some (97, true)⟩,
  ⟨some 101, .pick, [.t 97, .t 100, .c (.bool false)], none⟩,
  ⟨some 2, .mov, [.t 101], none⟩]
def types_right : AFunc := ⟨102, (.seq (.region types_right_r0 [1, 38, 39, 46, 47, 55, 56, 57, 58, 59, 62, 63, 64, 65, 68, 69, 70, 71, 78, 79, 80, 83, 84, 85, 88, 89, 90, 91, 92, 98, 99, 100]) (.seq (.region types_right_r1 [1, 3, 4, 5, 6, 38, 39, 46, 47, 55, 56, 57, 58, 59, 62, 63, 64, 65, 68, 69, 70, 71, 78, 79, 80, 83, 84, 85, 88, 89, 90, 91, 92, 98, 99, 100]) (.seq (.seq (.region types_right_r2 [1, 3, 4, 5, 6, 8, 38, 39, 46, 47, 55, 56, 57, 58, 59, 62, 63, 64, 65, 68, 69, 70, 71, 78, 79, 80, 83, 84, 85, 88, 89, 90, 91, 92, 98, 99, 100]) (.block 0 (.seq (.block 6 (.seq (.block 5 (.seq (.block 4 (.seq (.block 3 (.seq (.block 2 (.seq (.block 1 (.seq (.seq (.seq (.region types_right_r3 [1, 3, 4, 5, 6, 8, 9, 38, 39, 46, 47, 55, 56, 57, 58, 59, 62, 63, 64, 65, 68, 69, 70, 71, 78, 79, 80, 83, 84, 85, 88, 89, 90, 91, 92, 98, 99, 100]) (.cond (.t 9) (.exit 1) .skip)) (.seq (.seq (.region types_right_r4 [1, 3, 4, 5, 6, 8, 11, 38, 39, 46, 47, 55, 56, 57, 58, 59, 62, 63, 64, 65, 68, 69, 70, 71, 78, 79, 80, 83, 84, 85, 88, 89, 90, 91, 92, 98, 99, 100]) (.cond (.t 11) (.exit 2) .skip)) (.seq (.seq (.region types_right_r5 [1, 3, 4, 5, 6, 8, 13, 38, 39, 46, 47, 55, 56, 57, 58, 59, 62, 63, 64, 65, 68, 69, 70, 71, 78, 79, 80, 83, 84, 85, 88, 89, 90, 91, 92, 98, 99, 100]) (.cond (.t 13) (.exit 3) .skip)) (.seq (.seq (.region types_right_r6 [1, 3, 4, 5, 6, 8, 15, 38, 39, 46, 47, 55, 56, 57, 58, 59, 62, 63, 64, 65, 68, 69, 70, 71, 78, 79, 80, 83, 84, 85, 88, 89, 90, 91, 92, 98, 99, 100]) (.cond (.t 15) (.exit 4) .skip)) (.seq (.seq (.seq (.region types_right_r7 [1, 3, 4, 5, 6, 8, 17, 46, 47, 55, 56, 57, 58, 59, 62, 63, 64, 65, 68, 69, 70, 71, 78, 79, 80, 83, 84, 85, 88, 89, 90, 91, 92, 98, 99, 100]) (.cond (.t 17) .skip (.region types_right_r8 [1, 3, 4, 5, 6, 8, 17, 46, 47, 55, 56, 57, 58, 59, 62, 63, 64, 65, 68, 69, 70, 71, 78, 79, 80, 83, 84, 85, 88, 89, 90, 91, 92, 98, 99, 100]))) (.cond (.t 17) (.exit 5) .skip)) (.seq (.region types_right_r9 [1, 3, 4, 5, 6, 20, 55, 56, 57, 58, 59, 62, 63, 64, 65, 68, 69, 70, 71, 78, 79, 80, 83, 84, 85, 88, 89, 90, 91, 92, 98, 99, 100]) (.cond (.t 20) (.exit 6) .skip))))))) (.exit 0))) (.region types_right_r10 [1, 3, 4, 5, 6, 55, 56, 57, 58, 59, 62, 63, 64, 65, 68, 69, 70, 71, 78, 79, 80, 83, 84, 85, 88, 89, 90, 91, 92, 98, 99, 100]))) (.seq (.region types_right_r11 [1, 3, 4, 5, 6, 55, 56, 57, 58, 59, 62, 63, 64, 65, 68, 69, 70, 71, 78, 79, 80, 83, 84, 85, 88, 89, 90, 91, 92, 98, 99, 100]) (.exit 0)))) (.seq (.region types_right_r12 [1, 3, 4, 5, 6, 55, 56, 57, 58, 59, 62, 63, 64, 65, 68, 69, 70, 71, 78, 79, 80, 83, 84, 85, 88, 89, 90, 91, 92, 98, 99, 100]) (.exit 0)))) (.seq (.seq (.region types_right_r13 [1, 3, 4, 5, 6, 38, 39, 55, 56, 57, 58, 59, 62, 63, 64, 65, 68, 69, 70, 71, 78, 79, 80, 83, 84, 85, 88, 89, 90, 91, 92, 98, 99, 100]) (.seq (.region types_right_r14 [1, 3, 4, 5, 6, 40, 55, 56, 57, 58, 59, 62, 63, 64, 65, 68, 69, 70, 71, 78, 79, 80, 83, 84, 85, 88, 89, 90, 91, 92, 98, 99, 100]) (.cond (.t 40) (.seq (.region types_right_r15 [2]) .ret) .skip))) (.exit 0)))) (.seq (.seq (.region types_right_r16 [1, 3, 4, 5, 6, 46, 47, 55, 56, 57, 58, 59, 62, 63, 64, 65, 68, 69, 70, 71, 78, 79, 80, 83, 84, 85, 88, 89, 90, 91, 92, 98, 99, 100]) (.seq (.region types_right_r17 [1, 3, 4, 5, 6, 48, 55, 56, 57, 58, 59, 62, 63, 64, 65, 68, 69, 70, 71, 78, 79, 80, 83, 84, 85, 88, 89, 90, 91, 92, 98, 99, 100]) (.cond (.t 48) (.seq (.region types_right_r18 [2]) .ret) .skip))) (.exit 0)))) (.seq (.region types_right_r19 [1, 3, 4, 5, 6, 55, 56, 57, 58, 59, 62, 63, 64, 65, 68, 69, 70, 71, 78, 79, 80, 83, 84, 85, 88, 89, 90, 91, 92, 98, 99, 100]) (.exit 0))))) (.seq (.seq (.region types_right_r20 [1, 6, 72, 78, 79, 80, 83, 84, 85, 88, 89, 90, 91, 92, 98, 99, 100]) (.cond (.t 72) (.seq (.region types_right_r21 [2]) .ret) .skip)) (.seq (.seq (.region types_right_r22 [1, 73, 78, 79, 80, 83, 84, 85, 88, 89, 90, 91, 92, 98, 99, 100]) (.cond (.t 73) (.seq (.region types_right_r23 [2]) .ret) .skip)) (.seq (.region types_right_r24 [2]) .ret)))))), [.t 2]⟩
end Go.Abs
