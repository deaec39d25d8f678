/- The small code of functions, printed by program. -/
import Derived.Test.YtgmefkhincnajaaDoorAbsC
import Derived.Test.YtgmefkhincnajaaDoorAbsD
import Derived.Test.YtgmefkhincnajaaDoorANum
namespace Go.Abs
open Go
def types_Count_r0 : List AOper := [
  ⟨some 1, (.box 6), [.t 0], none⟩,
  ⟨some 2, .mov, [.c (.int .i64 0)], none⟩]
def types_Count_r1 : List AOper := [
  ⟨some 3, .mov, [.c (.int .i64 1)], none⟩]
def types_Count_r2 : List AOper := [
  ⟨some 6, (.fad 2), [.t 1], none⟩,
  ⟨some 7, (.load false 1), [.t 6], none⟩,
  ⟨some 8, .lens, [.t 7], none⟩,
  ⟨some 9, .mov, [.c (.int .i64 0)], none⟩]
def types_Count_r3 : List AOper := [
  ⟨some 10, (.bin .lss), [.t 9, .t 8], none⟩]
def types_Count_r4 : List AOper := [
  ⟨some 11, (.iad 6), [.t 7, .t 9], none⟩,
  ⟨some 12, (.load true 6), [.t 11], none⟩,
  ⟨some 5, (.alloc (.agg [(.int .i64 0), (.slc 0 [] true), (.slc 0 [] true), (.int .i64 0), (.int .i64 0), (.int .i64 0)])), [], none⟩,
  ⟨none, (.store 6), [.t 5, .t 12], none⟩]
def types_Count_r5 : List AOper := [
  ⟨some 13, .mov, [.t 3], none⟩,
  ⟨some 14, (.load true 6), [.t 5], none⟩,
  ⟨some 15, (.call f_types_Count), [.t 14], none⟩,
  ⟨some 16, (.bin .add), [.t 13, .t 15], none⟩,
  ⟨some 3, .mov, [.t 16], none⟩]
def types_Count_r6 : List AOper := [
  ⟨some 17, (.bin .add), [.t 9, .c (.int .i64 1)], none⟩,
  ⟨some 9, .mov, [.t 17], none⟩]
def types_Count_l0 : ACode := (.seq (.region types_Count_r3 [3, 7, 8, 9, 10]) (.seq (.cond (.t 10) .skip (.exit 0)) (.seq (.block 1 (.seq (.region types_Count_r4 [3, 5, 7, 8, 9]) (.region types_Count_r5 [3, 7, 8, 9]))) (.region types_Count_r6 [3, 7, 8, 9]))))
def types_Count_r7 : List AOper := [
  ⟨some 18, .mov, [.t 3], none⟩,
  ⟨some 2, .mov, [.t 18], none⟩]
def types_Count : AFunc := ⟨19, (.seq (.region types_Count_r0 [1]) (.seq (.region types_Count_r1 [1, 3]) (.seq (.seq (.region types_Count_r2 [3, 7, 8, 9]) (.block 0 (.loop types_Count_l0))) (.seq (.region types_Count_r7 [2]) .ret)))), [.t 2]⟩
def ingotref13_Count_r0 : List AOper := [
  ⟨some 1, (.box 6), [.t 0], none⟩,
  ⟨some 2, .mov, [.c (.int .i64 0)], none⟩]
def ingotref13_Count_r1 : List AOper := [
  ⟨some 3, .mov, [.c (.int .i64 1)], none⟩]
def ingotref13_Count_r2 : List AOper := [
  ⟨some 4, .mov, [.c (.int .i64 0)], none⟩]
def ingotref13_Count_r3 : List AOper := [
  ⟨some 5, .mov, [.t 4], none⟩,
  ⟨some 6, (.fad 2), [.t 1], none⟩,
  ⟨some 7, (.load false 1), [.t 6], none⟩,
  ⟨some 8, .lens, [.t 7], none⟩,
  ⟨some 9, (.bin .lss), [.t 5, .t 8], none⟩]
def ingotref13_Count_r4 : List AOper := [
  ⟨some 12, .mov, [.t 3], none⟩,
  ⟨some 13, (.fad 2), [.t 1], none⟩,
  ⟨some 14, (.load false 1), [.t 13], none⟩,
  ⟨some 15, .mov, [.t 4], none⟩,
  ⟨some 16, (.iad 6), [.t 14, .t 15], none⟩,
  ⟨some 17, (.load true 6), [.t 16], none⟩,
  ⟨some 18, (.call f_ingotref13_Count), [.t 17], none⟩,
  ⟨some 19, (.bin .add), [.t 12, .t 18], none⟩,
  ⟨some 3, .mov, [.t 19], none⟩]
def ingotref13_Count_r5 : List AOper := [
  ⟨some 10, .mov, [.t 4], none⟩,
  ⟨some 11, (.bin .add), [.t 10, .c (.int .i64 1)], none⟩,
  ⟨some 4, .mov, [.t 11], none⟩]
def ingotref13_Count_l0 : ACode := (.seq (.seq (.region ingotref13_Count_r3 [1, 3, 4, 9]) (.cond (.t 9) .skip (.exit 0))) (.seq (.block 1 (.region ingotref13_Count_r4 [1, 3, 4])) (.region ingotref13_Count_r5 [1, 3, 4])))
def ingotref13_Count_r6 : List AOper := [
  ⟨some 20, .mov, [.t 3], none⟩,
  ⟨some 2, .mov, [.t 20], none⟩]
def ingotref13_Count : AFunc := ⟨21, (.seq (.region ingotref13_Count_r0 [1]) (.seq (.region ingotref13_Count_r1 [1, 3]) (.seq (.seq (.region ingotref13_Count_r2 [1, 3, 4]) (.block 0 (.loop ingotref13_Count_l0))) (.seq (.region ingotref13_Count_r6 [2]) .ret)))), [.t 2]⟩
def types_Build_r0 : List AOper := [
  ⟨some 2, (.alloc (.agg [(.int .i64 0), (.slc 0 [] true), (.slc 0 [] true), (.int .i64 0), (.int .i64 0), (.int .i64 0)])), [], none⟩,
  ⟨some 3, .mov, [.c (.int .i64 0)], none⟩]
def types_Build_r1 : List AOper := [
  ⟨some 4, (.alloc (.int .i64 0)), [], none⟩,
  ⟨none, (.store 1), [.t 4, .c (.int .i64 0)], none⟩]
def types_Build_r2 : List AOper := [
  ⟨some 9, .mov, [.t 0], none⟩,
  ⟨some 10, (.call f_types_build), [.t 9, .t 4, .c (.int .i64 1)], none⟩,
  ⟨some 8, .mov, [.t 10], none⟩,
  ⟨some 11, (.ext 0), [.t 8], none⟩,
  ⟨some 12, (.ext 1), [.t 8], none⟩,
  ⟨some 5, (.alloc (.agg [(.int .i64 0), (.slc 0 [] true), (.slc 0 [] true), (.int .i64 0), (.int .i64 0), (.int .i64 0)])), [], none⟩,
  ⟨none, (.store 6), [.t 5, .t 11], none⟩,
  ⟨some 6, .mov, [.t 12], none⟩]
def types_Build_r3 : List AOper := [
  ⟨some 13, .mov, [.t 6], none⟩,
  ⟨some 14, .unot, [.t 13], none⟩,
  ⟨some 15, .mov, [.t 14], none⟩,
  ⟨some 16, (.load false 1), [.t 4], some (15, false)⟩,
  ⟨some 17, .mov, [.t 0], some (15, false)⟩,
  ⟨some 18, .lens, [.t 17], some (15, false)⟩,
  ⟨some 19, (.bin .lss), [.t 16, .t 18], some (15, false)⟩,
  ⟨some 20, .pick, [.t 15, .c (.bool true), .t 19], none⟩]
def types_Build_r4 : List AOper := [
  ⟨some 21, (.bld [(.int .i64 0), (.slc 0 [] true), (.slc 0 [] true), (.int .i64 0), (.int .i64 0), (.int .i64 0)] []), [], none⟩,
  ⟨none, (.store 6), [.t 2, .t 21], none⟩,
  ⟨some 3, .mov, [.c (.int .i64 1)], none⟩]
def types_Build_r5 : List AOper := [
  ⟨some 22, (.load true 6), [.t 5], none⟩,
  ⟨some 23, (.call f_types_Check), [.t 22], none⟩,
  ⟨some 7, .mov, [.t 23], none⟩]
def types_Build_r6 : List AOper := [
  ⟨some 24, .mov, [.t 7], none⟩,
  ⟨some 25, (.bin .neq), [.t 24, .c (.int .i64 0)], none⟩]
def types_Build_r7 : List AOper := [
  ⟨some 26, (.bld [(.int .i64 0), (.slc 0 [] true), (.slc 0 [] true), (.int .i64 0), (.int .i64 0), (.int .i64 0)] []), [], none⟩,
  ⟨some 27, .mov, [.t 7], none⟩,
  ⟨none, (.store 6), [.t 2, .t 26], none⟩,
  ⟨some 3, .mov, [.t 27], none⟩]
def types_Build_r8 : List AOper := [
  ⟨some 28, (.load true 6), [.t 5], none⟩,
  ⟨none, (.store 6), [.t 2, .t 28], none⟩,
  ⟨some 3, .mov, [.c (.int .i64 0)], none⟩]
def types_Build : AFunc := ⟨29, (.seq (.region types_Build_r0 [0, 2]) (.seq (.region types_Build_r1 [0, 2, 4]) (.seq (.region types_Build_r2 [0, 2, 4, 5, 6]) (.seq (.seq (.region types_Build_r3 [2, 5, 20]) (.cond (.t 20) (.seq (.region types_Build_r4 [2, 3]) .ret) .skip)) (.seq (.seq (.region types_Build_r5 [2, 5, 7]) (.seq (.region types_Build_r6 [2, 5, 7, 25]) (.cond (.t 25) (.seq (.region types_Build_r7 [2, 3]) .ret) .skip))) (.seq (.region types_Build_r8 [2, 3]) .ret)))))), [.cell 2 true 6, .t 3]⟩
def types_build_r0 : List AOper := [
  ⟨some 6, (.alloc (.agg [(.int .i64 0), (.slc 0 [] true), (.slc 0 [] true), (.int .i64 0), (.int .i64 0), (.int .i64 0)])), [], none⟩,
  ⟨some 7, .mov, [.c (.bool false)], none⟩]
def types_build_r1 : List AOper := [
  ⟨some 14, .mov, [.t 1], none⟩,
  ⟨some 15, .nilc, [.t 14], none⟩,
  ⟨some 16, (.load false 1), [.t 15], none⟩,
  ⟨some 17, .mov, [.t 0], none⟩,
  ⟨some 18, .lens, [.t 17], none⟩,
  ⟨some 19, (.bin .geq), [.t 16, .t 18], none⟩]
def types_build_r2 : List AOper := [
  ⟨some 20, (.bld [(.int .i64 0), (.slc 0 [] true), (.slc 0 [] true), (.int .i64 0), (.int .i64 0), (.int .i64 0)] []), [], none⟩,
  ⟨none, (.store 6), [.t 6, .t 20], none⟩,
  ⟨some 7, .mov, [.c (.bool false)], none⟩]
def types_build_r3 : List AOper := [
  ⟨some 21, .mov, [.t 0], none⟩,
  ⟨some 22, .mov, [.t 1], none⟩,
  ⟨some 23, .nilc, [.t 22], none⟩,
  ⟨some 24, (.load false 1), [.t 23], none⟩,
  ⟨some 25, (.iad 8), [.t 21, .t 24], none⟩,
  ⟨some 26, (.load true 8), [.t 25], none⟩,
  ⟨some 8, (.alloc (.agg [(.int .i64 0), (.slc 0 [] true), (.slc 0 [] true), (.int .i64 0), (.int .i64 0), (.int .i64 0), (.int .i64 0), (.int .i64 0)])), [], none⟩,
  ⟨none, (.store 8), [.t 8, .t 26], none⟩]
def types_build_r4 : List AOper := [
  ⟨some 27, .mov, [.t 1], none⟩,
  ⟨some 28, .nilc, [.t 27], none⟩,
  ⟨some 29, (.load false 1), [.t 28], none⟩,
  ⟨some 30, (.bin .add), [.t 29, .c (.int .i64 1)], none⟩,
  ⟨some 31, .nilc, [.t 27], none⟩,
  ⟨none, (.store 1), [.t 31, .t 30], none⟩]
def types_build_r5 : List AOper := [
  ⟨some 32, (.fad 0), [.t 8], none⟩,
  ⟨some 33, (.load false 1), [.t 32], none⟩,
  ⟨some 34, (.fad 2), [.t 8], none⟩,
  ⟨some 35, (.load false 1), [.t 34], none⟩,
  ⟨some 36, (.callp f_slices_Clone_string_string), [.t 35], none⟩,
  ⟨some 37, (.callp f_slices_Clip_string_string), [.t 36], none⟩,
  ⟨some 38, (.fad 3), [.t 8], none⟩,
  ⟨some 39, (.load false 1), [.t 38], none⟩,
  ⟨some 40, (.fad 4), [.t 8], none⟩,
  ⟨some 41, (.load false 1), [.t 40], none⟩,
  ⟨some 42, (.fad 5), [.t 8], none⟩,
  ⟨some 43, (.load false 1), [.t 42], none⟩,
  ⟨some 44, (.bld [(.int .i64 0), (.slc 0 [] true), (.slc 0 [] true), (.int .i64 0), (.int .i64 0), (.int .i64 0)] [(0, 1), (1, 1), (3, 1), (4, 1), (5, 1)]), [.t 33, .t 37, .t 39, .t 41, .t 43], none⟩,
  ⟨some 9, (.alloc (.agg [(.int .i64 0), (.slc 0 [] true), (.slc 0 [] true), (.int .i64 0), (.int .i64 0), (.int .i64 0)])), [], none⟩,
  ⟨none, (.store 6), [.t 9, .t 44], none⟩]
def types_build_r6 : List AOper := [
  ⟨some 45, (.fad 1), [.t 8], none⟩,
  ⟨some 46, (.load false 1), [.t 45], none⟩,
  ⟨some 47, .lens, [.t 46], none⟩,
  ⟨some 48, .mov, [.c (.int .i64 0)], none⟩]
def types_build_r7 : List AOper := [
  ⟨some 49, (.bin .lss), [.t 48, .t 47], none⟩]
def types_build_r8 : List AOper := [
  ⟨some 50, (.iad 1), [.t 46, .t 48], none⟩,
  ⟨some 51, (.load false 1), [.t 50], none⟩,
  ⟨some 11, .mov, [.t 51], none⟩]
def types_build_r9 : List AOper := [
  ⟨some 52, .mov, [.t 11], none⟩,
  ⟨some 53, .mov, [.t 1], none⟩,
  ⟨some 54, .nilc, [.t 53], none⟩,
  ⟨some 55, (.load false 1), [.t 54], none⟩,
  ⟨some 56, (.bin .neq), [.t 52, .t 55], none⟩]
def types_build_r10 : List AOper := [
  ⟨some 57, (.bld [(.int .i64 0), (.slc 0 [] true), (.slc 0 [] true), (.int .i64 0), (.int .i64 0), (.int .i64 0)] []), [], none⟩,
  ⟨none, (.store 6), [.t 6, .t 57], none⟩,
  ⟨some 7, .mov, [.c (.bool false)], none⟩]
def types_build_r11 : List AOper := [
  ⟨some 59, .mov, [.t 0], none⟩,
  ⟨some 60, .mov, [.t 1], none⟩,
  ⟨some 61, .mov, [.t 2], none⟩,
  ⟨some 62, (.bin .add), [.t 61, .c (.int .i64 1)], none⟩,
  ⟨some 63, (.call f_types_build), [.t 59, .t 60, .t 62], none⟩,
  ⟨some 58, .mov, [.t 63], none⟩,
  ⟨some 64, (.ext 0), [.t 58], none⟩,
  ⟨some 65, (.ext 1), [.t 58], none⟩,
  ⟨some 12, (.alloc (.agg [(.int .i64 0), (.slc 0 [] true), (.slc 0 [] true), (.int .i64 0), (.int .i64 0), (.int .i64 0)])), [], none⟩,
  ⟨none, (.store 6), [.t 12, .t 64], none⟩,
  ⟨some 13, .mov, [.t 65], none⟩]
def types_build_r12 : List AOper := [
  ⟨some 66, .mov, [.t 13], none⟩,
  ⟨some 67, .unot, [.t 66], none⟩]
def types_build_r13 : List AOper := [
  ⟨some 68, (.bld [(.int .i64 0), (.slc 0 [] true), (.slc 0 [] true), (.int .i64 0), (.int .i64 0), (.int .i64 0)] []), [], none⟩,
  ⟨none, (.store 6), [.t 6, .t 68], none⟩,
  ⟨some 7, .mov, [.c (.bool false)], none⟩]
def types_build_r14 : List AOper := [
  ⟨some 69, (.fad 2), [.t 9], none⟩,
  ⟨some 70, (.load false 1), [.t 69], none⟩,
  ⟨some 71, (.load true 6), [.t 12], none⟩,
  ⟨some 72, (.bsl 6), [.t 71], none⟩,
  ⟨some 73, (.app 6 80), [.t 70, .t 72], none⟩,
  ⟨some 74, (.fad 2), [.t 9], none⟩,
  ⟨none, (.store 1), [.t 74, .t 73], none⟩]
def types_build_r15 : List AOper := [
  ⟨some 75, (.bin .add), [.t 48, .c (.int .i64 1)], none⟩,
  ⟨some 48, .mov, [.t 75], none⟩]
def types_build_l0 : ACode := (.seq (.region types_build_r7 [0, 1, 2, 6, 9, 46, 47, 48, 49]) (.seq (.cond (.t 49) .skip (.exit 0)) (.seq (.block 1 (.seq (.region types_build_r8 [0, 1, 2, 6, 9, 11, 46, 47, 48]) (.seq (.seq (.region types_build_r9 [0, 1, 2, 6, 9, 46, 47, 48, 56]) (.cond (.t 56) (.seq (.region types_build_r10 [6, 7]) .ret) .skip)) (.seq (.region types_build_r11 [0, 1, 2, 6, 9, 12, 13, 46, 47, 48]) (.seq (.seq (.region types_build_r12 [0, 1, 2, 6, 9, 12, 46, 47, 48, 67]) (.cond (.t 67) (.seq (.region types_build_r13 [6, 7]) .ret) .skip)) (.region types_build_r14 [0, 1, 2, 6, 9, 46, 47, 48])))))) (.region types_build_r15 [0, 1, 2, 6, 9, 46, 47, 48]))))
def types_build_r16 : List AOper := [
  ⟨some 76, (.fad 2), [.t 9], none⟩,
  ⟨some 77, (.load false 1), [.t 76], none⟩,
  ⟨some 78, (.call f_slices_Clip_api_Type_api_Type), [.t 77], none⟩,
  ⟨some 79, (.fad 2), [.t 9], none⟩,
  ⟨none, (.store 1), [.t 79, .t 78], none⟩]
def types_build_r17 : List AOper := [
  ⟨some 80, (.load true 6), [.t 9], none⟩,
  ⟨none, (.store 6), [.t 6, .t 80], none⟩,
  ⟨some 7, .mov, [.c (.bool true)], none⟩]
def types_build : AFunc := ⟨81, (.seq (.region types_build_r0 [0, 1, 2, 6]) (.seq (.seq (.region types_build_r1 [0, 1, 2, 6, 19]) (.cond (.t 19) (.seq (.region types_build_r2 [6, 7]) .ret) .skip)) (.seq (.region types_build_r3 [0, 1, 2, 6, 8]) (.seq (.region types_build_r4 [0, 1, 2, 6, 8]) (.seq (.region types_build_r5 [0, 1, 2, 6, 8, 9]) (.seq (.seq (.region types_build_r6 [0, 1, 2, 6, 9, 46, 47, 48]) (.block 0 (.loop types_build_l0))) (.seq (.region types_build_r16 [6, 9]) (.seq (.region types_build_r17 [6, 7]) .ret)))))))), [.cell 6 true 6, .t 7]⟩
def types_Same_r0 : List AOper := [
  ⟨some 2, (.box 6), [.t 0], none⟩,
  ⟨some 3, (.box 6), [.t 1], none⟩,
  ⟨some 4, .mov, [.c (.bool false)], none⟩]
def types_Same_r1 : List AOper := [
  ⟨some 5, (.fad 0), [.t 2], none⟩,
  ⟨some 6, (.load false 1), [.t 5], none⟩,
  ⟨some 7, (.fad 0), [.t 3], none⟩,
  ⟨some 8, (.load false 1), [.t 7], none⟩,
  ⟨some 9, (.bin .eql), [.t 6, .t 8], none⟩,
  ⟨some 10, .mov, [.t 9], none⟩,
  ⟨some 11, (.fad 1), [.t 2], some (10, true)⟩,
  ⟨some 12, (.load false 1), [.t 11], some (10, true)⟩,
  ⟨some 13, (.fad 1), [.t 3], some (10, true)⟩,
  ⟨some 14, (.load false 1), [.t 13], some (10, true)⟩,
  ⟨some 15, (.call f_slices_Equal_string_string), [.t 12, .t 14], some (10, true)⟩,
  ⟨some 16, .pick, [.t 10, .t 15, .c (.bool false)], none⟩,
  ⟨some 17, .mov, [.t 16], none⟩,
  ⟨some 18, (.fad 3), [.t 2], some (17, true)⟩,
  ⟨some 19, (.load false 1), [.t 18], some (17, true)⟩,
  ⟨some 20, (.fad 3), [.t 3], some (17, true)⟩,
  ⟨some 21, (.load false 1), [.t 20], some (17, true)⟩,
  ⟨some 22, (.bin .eql), [.t 19, .t 21], some (17, true)⟩,
  ⟨some 23, .pick, [.t 17, .t 22, .c (.bool false)], none⟩,
  ⟨some 24, .mov, [.t 23], none⟩,
  ⟨some 25, (.fad 4), [.t 2], some (24, true)⟩,
  ⟨some 26, (.load false 1), [.t 25], some (24, true)⟩,
  ⟨some 27, (.fad 4), [.t 3], some (24, true)⟩,
  ⟨some 28, (.load false 1), [.t 27], some (24, true)⟩,
  ⟨some 29, (.bin .eql), [.t 26, .t 28], some (24, true)⟩,
  ⟨some 30, .pick, [.t 24, .t 29, .c (.bool false)], none⟩,
  ⟨some 31, .mov, [.t 30], none⟩,
  ⟨some 32, (.fad 5), [.t 2], some (31, true)⟩,
  ⟨some 33, (.load false 1), [.t 32], some (31, true)⟩,
  ⟨some 34, (.fad 5), [.t 3], some (31, true)⟩,
  ⟨some 35, (.load false 1), [.t 34], some (31, true)⟩,
  ⟨some 36, (.bin .eql), [.t 33, .t 35], some (31, true)⟩,
  ⟨some 37, .pick, [.t 31, .t 36, .c (.bool false)], none⟩,
  ⟨some 38, .mov, [.t 37], none⟩,
  ⟨some 39, (.fad 2), [.t 2], some (38, true)⟩,
  ⟨some 40, (.load false 1), [.t 39], some (38, true)⟩,
  ⟨some 41, (.fad 2), [.t 3], some (38, true)⟩,
  ⟨some 42, (.load false 1), [.t 41], some (38, true)⟩,
  ⟨some 43, (.call f_slices_EqualFunc_api_Type_api_Type_api_Type_api_Type), [.t 40, .t 42, .c (.fn f_types_Same [] [])], some (38, true)⟩,
  ⟨some 44, .pick, [.t 38, .t 43, .c (.bool false)], none⟩,
  ⟨some 4, .mov, [.t 44], none⟩]
def types_Same : AFunc := ⟨45, (.seq (.region types_Same_r0 [2, 3]) (.seq (.region types_Same_r1 [4]) .ret)), [.t 4]⟩
def ingotref13_Same_r0 : List AOper := [
  ⟨some 2, (.box 6), [.t 0], none⟩,
  ⟨some 3, (.box 6), [.t 1], none⟩,
  ⟨some 4, .mov, [.c (.bool false)], none⟩]
def ingotref13_Same_r1 : List AOper := [
  ⟨some 7, (.fad 0), [.t 2], none⟩,
  ⟨some 8, (.load false 1), [.t 7], none⟩,
  ⟨some 9, (.fad 0), [.t 3], none⟩,
  ⟨some 10, (.load false 1), [.t 9], none⟩,
  ⟨some 11, (.bin .neq), [.t 8, .t 10], none⟩,
  ⟨some 12, .mov, [.t 11], none⟩,
  ⟨some 13, (.fad 3), [.t 2], some (12, false)⟩,
  ⟨some 14, (.load false 1), [.t 13], some (12, false)⟩,
  ⟨some 15, (.fad 3), [.t 3], some (12, false)⟩,
  ⟨some 16, (.load false 1), [.t 15], some (12, false)⟩,
  ⟨some 17, (.bin .neq), [.t 14, .t 16], some (12, false)⟩,
  ⟨some 18, .pick, [.t 12, .c (.bool true), .t 17], none⟩,
  ⟨some 19, .mov, [.t 18], none⟩,
  ⟨some 20, (.fad 4), [.t 2], some (19, false)⟩,
  ⟨some 21, (.load false 1), [.t 20], some (19, false)⟩,
  ⟨some 22, (.fad 4), [.t 3], some (19, false)⟩,
  ⟨some 23, (.load false 1), [.t 22], some (19, false)⟩,
  ⟨some 24, (.bin .neq), [.t 21, .t 23], some (19, false)⟩,
  ⟨some 25, .pick, [.t 19, .c (.bool true), .t 24], none⟩,
  ⟨some 26, .mov, [.t 25], none⟩,
  ⟨some 27, (.fad 5), [.t 2], some (26, false)⟩,
  ⟨some 28, (.load false 1), [.t 27], some (26, false)⟩,
  ⟨some 29, (.fad 5), [.t 3], some (26, false)⟩,
  ⟨some 30, (.load false 1), [.t 29], some (26, false)⟩,
  ⟨some 31, (.bin .neq), [.t 28, .t 30], some (26, false)⟩,
  ⟨some 32, .pick, [.t 26, .c (.bool true), .t 31], none⟩,
  ⟨some 33, .mov, [.t 32], none⟩,
  ⟨some 34, (.fad 1), [.t 2], some (33, false)⟩,
  ⟨some 35, (.load false 1), [.t 34], some (33, false)⟩,
  ⟨some 36, .lens, [.t 35], some (33, false)⟩,
  ⟨some 37, (.fad 1), [.t 3], some (33, false)⟩,
  ⟨some 38, (.load false 1), [.t 37], some (33, false)⟩,
  ⟨some 39, .lens, [.t 38], some (33, false)⟩,
  ⟨some 40, (.bin .neq), [.t 36, .t 39], some (33, false)⟩,
  ⟨some 41, .pick, [.t 33, .c (.bool true), .t 40], none⟩,
  ⟨some 42, .mov, [.t 41], none⟩,
  ⟨some 43, (.fad 2), [.t 2], some (42, false)⟩,
  ⟨some 44, (.load false 1), [.t 43], some (42, false)⟩,
  ⟨some 45, .lens, [.t 44], some (42, false)⟩,
  ⟨some 46, (.fad 2), [.t 3], some (42, false)⟩,
  ⟨some 47, (.load false 1), [.t 46], some (42, false)⟩,
  ⟨some 48, .lens, [.t 47], some (42, false)⟩,
  ⟨some 49, (.bin .neq), [.t 45, .t 48], some (42, false)⟩,
  ⟨some 50, .pick, [.t 42, .c (.bool true), .t 49], none⟩]
def ingotref13_Same_r2 : List AOper := [
  ⟨some 4, .mov, [.c (.bool false)], none⟩]
def ingotref13_Same_r3 : List AOper := [
  ⟨some 5, .mov, [.c (.int .i64 0)], none⟩]
def ingotref13_Same_r4 : List AOper := [
  ⟨some 51, .mov, [.t 5], none⟩,
  ⟨some 52, (.fad 1), [.t 2], none⟩,
  ⟨some 53, (.load false 1), [.t 52], none⟩,
  ⟨some 54, .lens, [.t 53], none⟩,
  ⟨some 55, (.bin .lss), [.t 51, .t 54], none⟩]
def ingotref13_Same_r5 : List AOper := [
  ⟨some 58, (.fad 1), [.t 2], none⟩,
  ⟨some 59, (.load false 1), [.t 58], none⟩,
  ⟨some 60, .mov, [.t 5], none⟩,
  ⟨some 61, (.iad 1), [.t 59, .t 60], none⟩,
  ⟨some 62, (.load false 1), [.t 61], none⟩,
  ⟨some 63, (.fad 1), [.t 3], none⟩,
  ⟨some 64, (.load false 1), [.t 63], none⟩,
  ⟨some 65, .mov, [.t 5], none⟩,
  ⟨some 66, (.iad 1), [.t 64, .t 65], none⟩,
  ⟨some 67, (.load false 1), [.t 66], none⟩,
  ⟨some 68, (.bin .neq), [.t 62, .t 67], none⟩]
def ingotref13_Same_r6 : List AOper := [
  ⟨some 4, .mov, [.c (.bool false)], none⟩]
def ingotref13_Same_r7 : List AOper := [
  ⟨some 56, .mov, [.t 5], none⟩,
  ⟨some 57, (.bin .add), [.t 56, .c (.int .i64 1)], none⟩,
  ⟨some 5, .mov, [.t 57], none⟩]
def ingotref13_Same_l0 : ACode := (.seq (.seq (.region ingotref13_Same_r4 [2, 3, 5, 55]) (.cond (.t 55) .skip (.exit 0))) (.seq (.block 1 (.seq (.region ingotref13_Same_r5 [2, 3, 5, 68]) (.cond (.t 68) (.seq (.region ingotref13_Same_r6 [4]) .ret) .skip))) (.region ingotref13_Same_r7 [2, 3, 5])))
def ingotref13_Same_r8 : List AOper := [
  ⟨some 6, .mov, [.c (.int .i64 0)], none⟩]
def ingotref13_Same_r9 : List AOper := [
  ⟨some 69, .mov, [.t 6], none⟩,
  ⟨some 70, (.fad 2), [.t 2], none⟩,
  ⟨some 71, (.load false 1), [.t 70], none⟩,
  ⟨some 72, .lens, [.t 71], none⟩,
  ⟨some 73, (.bin .lss), [.t 69, .t 72], none⟩]
def ingotref13_Same_r10 : List AOper := [
  ⟨some 76, (.fad 2), [.t 2], none⟩,
  ⟨some 77, (.load false 1), [.t 76], none⟩,
  ⟨some 78, .mov, [.t 6], none⟩,
  ⟨some 79, (.iad 6), [.t 77, .t 78], none⟩,
  ⟨some 80, (.load true 6), [.t 79], none⟩,
  ⟨some 81, (.fad 2), [.t 3], none⟩,
  ⟨some 82, (.load false 1), [.t 81], none⟩,
  ⟨some 83, .mov, [.t 6], none⟩,
  ⟨some 84, (.iad 6), [.t 82, .t 83], none⟩,
  ⟨some 85, (.load true 6), [.t 84], none⟩,
  ⟨some 86, (.call f_ingotref13_Same), [.t 80, .t 85], none⟩,
  ⟨some 87, .unot, [.t 86], none⟩]
def ingotref13_Same_r11 : List AOper := [
  ⟨some 4, .mov, [.c (.bool false)], none⟩]
def ingotref13_Same_r12 : List AOper := [
  ⟨some 74, .mov, [.t 6], none⟩,
  ⟨some 75, (.bin .add), [.t 74, .c (.int .i64 1)], none⟩,
  ⟨some 6, .mov, [.t 75], none⟩]
def ingotref13_Same_l1 : ACode := (.seq (.seq (.region ingotref13_Same_r9 [2, 3, 6, 73]) (.cond (.t 73) .skip (.exit 2))) (.seq (.block 3 (.seq (.region ingotref13_Same_r10 [2, 3, 6, 87]) (.cond (.t 87) (.seq (.region ingotref13_Same_r11 [4]) .ret) .skip))) (.region ingotref13_Same_r12 [2, 3, 6])))
def ingotref13_Same_r13 : List AOper := [
  ⟨some 4, .mov, [.c (.bool true)], none⟩]
def ingotref13_Same : AFunc := ⟨88, (.seq (.region ingotref13_Same_r0 [2, 3]) (.seq (.seq (.region ingotref13_Same_r1 [2, 3, 50]) (.cond (.t 50) (.seq (.region ingotref13_Same_r2 [4]) .ret) .skip)) (.seq (.seq (.region ingotref13_Same_r3 [2, 3, 5]) (.block 0 (.loop ingotref13_Same_l0))) (.seq (.seq (.region ingotref13_Same_r8 [2, 3, 6]) (.block 2 (.loop ingotref13_Same_l1))) (.seq (.region ingotref13_Same_r13 [4]) .ret))))), [.t 4]⟩
def types_Text_r0 : List AOper := [
  ⟨some 1, (.box 6), [.t 0], none⟩,
  ⟨some 2, .mov, [.c (.str [])], none⟩]
def types_Text_r1 : List AOper := [
  ⟨some 3, .mov, [.c (.slc 0 [] true)], none⟩]
def types_Text_r2 : List AOper := [
  ⟨some 8, (.fad 2), [.t 1], none⟩,
  ⟨some 9, (.load false 1), [.t 8], none⟩,
  ⟨some 10, .lens, [.t 9], none⟩,
  ⟨some 11, .mov, [.c (.int .i64 0)], none⟩]
def types_Text_r3 : List AOper := [
  ⟨some 12, (.bin .lss), [.t 11, .t 10], none⟩]
def types_Text_r4 : List AOper := [
  ⟨some 13, .mov, [.t 11], none⟩,
  ⟨some 14, (.iad 6), [.t 9, .t 11], none⟩,
  ⟨some 15, (.load true 6), [.t 14], none⟩,
  ⟨some 5, (.alloc (.agg [(.int .i64 0), (.slc 0 [] true), (.slc 0 [] true), (.int .i64 0), (.int .i64 0), (.int .i64 0)])), [], none⟩,
  ⟨some 4, .mov, [.t 13], none⟩,
  ⟨none, (.store 6), [.t 5, .t 15], none⟩]
def types_Text_r5 : List AOper := [
  ⟨some 16, (.load true 6), [.t 5], none⟩,
  ⟨some 17, (.call f_types_Text), [.t 16], none⟩,
  ⟨some 6, .mov, [.t 17], none⟩]
def types_Text_r6 : List AOper := [
  ⟨some 18, (.fad 0), [.t 1], none⟩,
  ⟨some 19, (.load false 1), [.t 18], none⟩,
  ⟨some 20, (.bin .eql), [.t 19, .c (.int .i64 12)], none⟩,
  ⟨some 21, .mov, [.t 20], none⟩,
  ⟨some 22, .mov, [.t 4], some (21, true)⟩,
  ⟨some 23, (.fad 1), [.t 1], some (21, true)⟩,
  ⟨some 24, (.load false 1), [.t 23], some (21, true)⟩,
  ⟨some 25, .lens, [.t 24], some (21, true)⟩,
  ⟨some 26, (.bin .lss), [.t 22, .t 25], some (21, true)⟩,
  ⟨some 27, .pick, [.t 21, .t 26, .c (.bool false)], none⟩]
def types_Text_r7 : List AOper := [
  ⟨some 28, (.fad 1), [.t 1], none⟩,
  ⟨some 29, (.load false 1), [.t 28], none⟩,
  ⟨some 30, .mov, [.t 4], none⟩,
  ⟨some 31, (.iad 1), [.t 29, .t 30], none⟩,
  ⟨some 32, (.load false 1), [.t 31], none⟩,
  ⟨some 33, (.bin .add), [.t 32, .c (.str [58])], none⟩,
  ⟨some 34, .mov, [.t 6], none⟩,
  ⟨some 35, (.bin .add), [.t 33, .t 34], none⟩,
  ⟨some 6, .mov, [.t 35], none⟩]
def types_Text_r8 : List AOper := [
  ⟨some 36, .mov, [.t 3], none⟩,
  ⟨some 37, .mov, [.t 6], none⟩,
  ⟨some 38, (.bsl 1), [.t 37], none⟩,
  ⟨some 39, (.app 1 16), [.t 36, .t 38], none⟩,
  ⟨some 3, .mov, [.t 39], none⟩]
def types_Text_r9 : List AOper := [
  ⟨some 40, (.bin .add), [.t 11, .c (.int .i64 1)], none⟩,
  ⟨some 11, .mov, [.t 40], none⟩]
def types_Text_l0 : ACode := (.seq (.region types_Text_r3 [1, 3, 9, 10, 11, 12]) (.seq (.cond (.t 12) .skip (.exit 0)) (.seq (.block 1 (.seq (.region types_Text_r4 [1, 3, 4, 5, 9, 10, 11]) (.seq (.region types_Text_r5 [1, 3, 4, 6, 9, 10, 11]) (.seq (.seq (.region types_Text_r6 [1, 3, 4, 6, 9, 10, 11, 27]) (.cond (.t 27) (.region types_Text_r7 [1, 3, 6, 9, 10, 11]) .skip)) (.region types_Text_r8 [1, 3, 9, 10, 11]))))) (.region types_Text_r9 [1, 3, 9, 10, 11]))))
def types_Text_r10 : List AOper := [
  ⟨some 41, (.fad 0), [.t 1], none⟩,
  ⟨some 42, (.load false 1), [.t 41], none⟩,
  ⟨some 43, (.call f_types_Word), [.t 42], none⟩,
  ⟨some 7, .mov, [.t 43], none⟩]
def types_Text_r11 : List AOper := [
  ⟨some 44, (.fad 0), [.t 1], none⟩,
  ⟨some 45, (.load false 1), [.t 44], none⟩]
def types_Text_r12 : List AOper := [
  ⟨some 47, (.bin .eql), [.t 45, .c (.int .i64 14)], none⟩,
  ⟨some 46, .mov, [.t 47], none⟩]
def types_Text_r13 : List AOper := [
  ⟨some 49, (.bin .eql), [.t 45, .c (.int .i64 16)], none⟩,
  ⟨some 48, .mov, [.t 49], none⟩]
def types_Text_r14 : List AOper := [
  ⟨some 51, (.bin .eql), [.t 45, .c (.int .i64 17)], none⟩,
  ⟨some 50, .mov, [.t 51], none⟩]
def types_Text_r15 : List AOper := [
  ⟨some 52, .mov, [.t 7], none⟩,
  ⟨some 53, (.bin .add), [.t 52, .c (.str [40])], none⟩,
  ⟨some 54, (.fad 4), [.t 1], none⟩,
  ⟨some 55, (.load false 1), [.t 54], none⟩,
  ⟨some 56, (.callp f_strconv_Itoa), [.t 55], none⟩,
  ⟨some 57, (.bin .add), [.t 53, .t 56], none⟩,
  ⟨some 58, (.bin .add), [.t 57, .c (.str [44])], none⟩,
  ⟨some 59, (.fad 5), [.t 1], none⟩,
  ⟨some 60, (.load false 1), [.t 59], none⟩,
  ⟨some 61, (.call f_strconv_Itoa), [.t 60], none⟩,
  ⟨some 62, (.bin .add), [.t 58, .t 61], none⟩,
  ⟨some 63, (.bin .add), [.t 62, .c (.str [41])], none⟩,
  ⟨some 2, .mov, [.t 63], none⟩]
def types_Text_r16 : List AOper := [
  ⟨some 64, .mov, [.t 7], none⟩,
  ⟨some 65, (.bin .add), [.t 64, .c (.str [40])], none⟩,
  ⟨some 66, (.fad 3), [.t 1], none⟩,
  ⟨some 67, (.load false 1), [.t 66], none⟩,
  ⟨some 68, (.call f_strconv_Itoa), [.t 67], none⟩,
  ⟨some 69, (.bin .add), [.t 65, .t 68], none⟩,
  ⟨some 70, (.bin .add), [.t 69, .c (.str [41])], none⟩,
  ⟨some 2, .mov, [.t 70], none⟩]
def types_Text_r17 : List AOper := [
  ⟨some 71, (.fad 0), [.t 1], none⟩,
  ⟨some 72, (.load false 1), [.t 71], none⟩,
  ⟨some 73, (.call f_types_Leaf), [.t 72], none⟩]
def types_Text_r18 : List AOper := [
  ⟨some 74, .mov, [.t 7], none⟩,
  ⟨some 2, .mov, [.t 74], none⟩]
def types_Text_r19 : List AOper := [
  ⟨some 75, .mov, [.t 7], none⟩,
  ⟨some 76, (.bin .add), [.t 75, .c (.str [60])], none⟩,
  ⟨some 77, .mov, [.t 3], none⟩,
  ⟨some 78, (.call f_strings_Join), [.t 77, .c (.str [44])], none⟩,
  ⟨some 79, (.bin .add), [.t 76, .t 78], none⟩,
  ⟨some 80, (.bin .add), [.t 79, .c (.str [62])], none⟩,
  ⟨some 2, .mov, [.t 80], none⟩]
def types_Text : AFunc := ⟨81, (.seq (.region types_Text_r0 [1]) (.seq (.region types_Text_r1 [1, 3]) (.seq (.seq (.region types_Text_r2 [1, 3, 9, 10, 11]) (.block 0 (.loop types_Text_l0))) (.seq (.region types_Text_r10 [1, 3, 7]) (.seq (.seq (.region types_Text_r11 [1, 3, 7, 45]) (.block 2 (.seq (.block 5 (.block 4 (.seq (.block 3 (.seq (.seq (.seq (.region types_Text_r12 [1, 3, 7, 45, 46]) (.cond (.t 46) (.exit 3) .skip)) (.seq (.seq (.region types_Text_r13 [1, 3, 7, 45, 48]) (.cond (.t 48) (.exit 4) .skip)) (.seq (.region types_Text_r14 [1, 3, 7, 50]) (.cond (.t 50) (.exit 5) .skip)))) (.exit 2))) (.seq (.seq (.region types_Text_r15 [2]) .ret) (.exit 2))))) (.seq (.seq (.region types_Text_r16 [2]) .ret) (.exit 2))))) (.seq (.seq (.region types_Text_r17 [3, 7, 73]) (.cond (.t 73) (.seq (.region types_Text_r18 [2]) .ret) .skip)) (.seq (.region types_Text_r19 [2]) .ret))))))), [.t 2]⟩
def ingotref13_Text_r0 : List AOper := [
  ⟨some 1, (.box 6), [.t 0], none⟩,
  ⟨some 2, .mov, [.c (.str [])], none⟩]
def ingotref13_Text_r1 : List AOper := [
  ⟨some 5, (.fad 0), [.t 1], none⟩,
  ⟨some 6, (.load false 1), [.t 5], none⟩,
  ⟨some 7, (.call f_ingotref13_Word), [.t 6], none⟩,
  ⟨some 3, .mov, [.t 7], none⟩]
def ingotref13_Text_r2 : List AOper := [
  ⟨some 8, (.fad 0), [.t 1], none⟩,
  ⟨some 9, (.load false 1), [.t 8], none⟩]
def ingotref13_Text_r3 : List AOper := [
  ⟨some 11, (.bin .eql), [.t 9, .c (.int .i64 14)], none⟩,
  ⟨some 10, .mov, [.t 11], none⟩]
def ingotref13_Text_r4 : List AOper := [
  ⟨some 12, .mov, [.t 3], none⟩,
  ⟨some 13, (.bin .add), [.t 12, .c (.str [40])], none⟩,
  ⟨some 14, (.fad 4), [.t 1], none⟩,
  ⟨some 15, (.load false 1), [.t 14], none⟩,
  ⟨some 16, (.callp f_ingotref13_decimal), [.t 15], none⟩,
  ⟨some 17, (.bin .add), [.t 13, .t 16], none⟩,
  ⟨some 18, (.bin .add), [.t 17, .c (.str [44])], none⟩,
  ⟨some 19, (.fad 5), [.t 1], none⟩,
  ⟨some 20, (.load false 1), [.t 19], none⟩,
  ⟨some 21, (.call f_ingotref13_decimal), [.t 20], none⟩,
  ⟨some 22, (.bin .add), [.t 18, .t 21], none⟩,
  ⟨some 23, (.bin .add), [.t 22, .c (.str [41])], none⟩,
  ⟨some 2, .mov, [.t 23], none⟩]
def ingotref13_Text_r5 : List AOper := [
  ⟨some 25, (.bin .eql), [.t 9, .c (.int .i64 16)], none⟩,
  ⟨some 24, .mov, [.t 25], none⟩]
def ingotref13_Text_r6 : List AOper := [
  ⟨some 26, (.bin .eql), [.t 9, .c (.int .i64 17)], none⟩,
  ⟨some 24, .mov, [.t 26], none⟩]
def ingotref13_Text_r7 : List AOper := [
  ⟨some 27, .mov, [.t 3], none⟩,
  ⟨some 28, (.bin .add), [.t 27, .c (.str [40])], none⟩,
  ⟨some 29, (.fad 3), [.t 1], none⟩,
  ⟨some 30, (.load false 1), [.t 29], none⟩,
  ⟨some 31, (.call f_ingotref13_decimal), [.t 30], none⟩,
  ⟨some 32, (.bin .add), [.t 28, .t 31], none⟩,
  ⟨some 33, (.bin .add), [.t 32, .c (.str [41])], none⟩,
  ⟨some 2, .mov, [.t 33], none⟩]
def ingotref13_Text_r8 : List AOper := [
  ⟨some 34, (.fad 0), [.t 1], none⟩,
  ⟨some 35, (.load false 1), [.t 34], none⟩,
  ⟨some 36, (.call f_ingotref13_Leaf), [.t 35], none⟩]
def ingotref13_Text_r9 : List AOper := [
  ⟨some 37, .mov, [.t 3], none⟩,
  ⟨some 2, .mov, [.t 37], none⟩]
def ingotref13_Text_r10 : List AOper := [
  ⟨some 38, .mov, [.t 3], none⟩,
  ⟨some 39, (.bin .add), [.t 38, .c (.str [60])], none⟩,
  ⟨some 3, .mov, [.t 39], none⟩]
def ingotref13_Text_r11 : List AOper := [
  ⟨some 4, .mov, [.c (.int .i64 0)], none⟩]
def ingotref13_Text_r12 : List AOper := [
  ⟨some 40, .mov, [.t 4], none⟩,
  ⟨some 41, (.fad 2), [.t 1], none⟩,
  ⟨some 42, (.load false 1), [.t 41], none⟩,
  ⟨some 43, .lens, [.t 42], none⟩,
  ⟨some 44, (.bin .lss), [.t 40, .t 43], none⟩]
def ingotref13_Text_r13 : List AOper := [
  ⟨some 47, .mov, [.t 4], none⟩,
  ⟨some 48, (.bin .gtr), [.t 47, .c (.int .i64 0)], none⟩]
def ingotref13_Text_r14 : List AOper := [
  ⟨some 49, .mov, [.t 3], none⟩,
  ⟨some 50, (.bin .add), [.t 49, .c (.str [44])], none⟩,
  ⟨some 3, .mov, [.t 50], none⟩]
def ingotref13_Text_r15 : List AOper := [
  ⟨some 51, (.fad 0), [.t 1], none⟩,
  ⟨some 52, (.load false 1), [.t 51], none⟩,
  ⟨some 53, (.bin .eql), [.t 52, .c (.int .i64 12)], none⟩,
  ⟨some 54, .mov, [.t 53], none⟩,
  ⟨some 55, .mov, [.t 4], some (54, true)⟩,
  ⟨some 56, (.fad 1), [.t 1], some (54, true)⟩,
  ⟨some 57, (.load false 1), [.t 56], some (54, true)⟩,
  ⟨some 58, .lens, [.t 57], some (54, true)⟩,
  ⟨some 59, (.bin .lss), [.t 55, .t 58], some (54, true)⟩,
  ⟨some 60, .pick, [.t 54, .t 59, .c (.bool false)], none⟩]
def ingotref13_Text_r16 : List AOper := [
  ⟨some 61, .mov, [.t 3], none⟩,
  ⟨some 62, (.fad 1), [.t 1], none⟩,
  ⟨some 63, (.load false 1), [.t 62], none⟩,
  ⟨some 64, .mov, [.t 4], none⟩,
  ⟨some 65, (.iad 1), [.t 63, .t 64], none⟩,
  ⟨some 66, (.load false 1), [.t 65], none⟩,
  ⟨some 67, (.bin .add), [.t 61, .t 66], none⟩,
  ⟨some 68, (.bin .add), [.t 67, .c (.str [58])], none⟩,
  ⟨some 3, .mov, [.t 68], none⟩]
def ingotref13_Text_r17 : List AOper := [
  ⟨some 69, .mov, [.t 3], none⟩,
  ⟨some 70, (.fad 2), [.t 1], none⟩,
  ⟨some 71, (.load false 1), [.t 70], none⟩,
  ⟨some 72, .mov, [.t 4], none⟩,
  ⟨some 73, (.iad 6), [.t 71, .t 72], none⟩,
  ⟨some 74, (.load true 6), [.t 73], none⟩,
  ⟨some 75, (.call f_ingotref13_Text), [.t 74], none⟩,
  ⟨some 76, (.bin .add), [.t 69, .t 75], none⟩,
  ⟨some 3, .mov, [.t 76], none⟩]
def ingotref13_Text_r18 : List AOper := [
  ⟨some 45, .mov, [.t 4], none⟩,
  ⟨some 46, (.bin .add), [.t 45, .c (.int .i64 1)], none⟩,
  ⟨some 4, .mov, [.t 46], none⟩]
def ingotref13_Text_l0 : ACode := (.seq (.seq (.region ingotref13_Text_r12 [1, 3, 4, 44]) (.cond (.t 44) .skip (.exit 1))) (.seq (.block 2 (.seq (.seq (.region ingotref13_Text_r13 [1, 3, 4, 48]) (.cond (.t 48) (.region ingotref13_Text_r14 [1, 3, 4]) .skip)) (.seq (.seq (.region ingotref13_Text_r15 [1, 3, 4, 60]) (.cond (.t 60) (.region ingotref13_Text_r16 [1, 3, 4]) .skip)) (.region ingotref13_Text_r17 [1, 3, 4])))) (.region ingotref13_Text_r18 [1, 3, 4])))
def ingotref13_Text_r19 : List AOper := [
  ⟨some 77, .mov, [.t 3], none⟩,
  ⟨some 78, (.bin .add), [.t 77, .c (.str [62])], none⟩,
  ⟨some 2, .mov, [.t 78], none⟩]
def ingotref13_Text : AFunc := ⟨79, (.seq (.region ingotref13_Text_r0 [1]) (.seq (.region ingotref13_Text_r1 [1, 3]) (.seq (.seq (.region ingotref13_Text_r2 [1, 3, 9]) (.block 0 (.seq (.region ingotref13_Text_r3 [1, 3, 9, 10]) (.cond (.t 10) (.seq (.region ingotref13_Text_r4 [2]) .ret) (.seq (.seq (.region ingotref13_Text_r5 [1, 3, 9, 24]) (.cond (.t 24) .skip (.region ingotref13_Text_r6 [1, 3, 24]))) (.cond (.t 24) (.seq (.region ingotref13_Text_r7 [2]) .ret) .skip)))))) (.seq (.seq (.region ingotref13_Text_r8 [1, 3, 36]) (.cond (.t 36) (.seq (.region ingotref13_Text_r9 [2]) .ret) .skip)) (.seq (.region ingotref13_Text_r10 [1, 3]) (.seq (.seq (.region ingotref13_Text_r11 [1, 3, 4]) (.block 1 (.loop ingotref13_Text_l0))) (.seq (.region ingotref13_Text_r19 [2]) .ret))))))), [.t 2]⟩
def types_Close_r0 : List AOper := [
  ⟨some 4, .mov, [.c (.slc 0 [] true)], none⟩,
  ⟨some 5, .mov, [.c (.int .i64 0)], none⟩]
def types_Close_r1 : List AOper := [
  ⟨some 11, .mov, [.t 0], none⟩,
  ⟨some 12, .lens, [.t 11], none⟩,
  ⟨some 13, (.mks 1 1 (.bool false)), [.t 12, .t 12], none⟩,
  ⟨some 6, .mov, [.t 13], none⟩]
def types_Close_r2 : List AOper := [
  ⟨some 14, .mov, [.t 1], none⟩,
  ⟨some 15, .lens, [.t 14], none⟩,
  ⟨some 16, .mov, [.c (.int .i64 0)], none⟩]
def types_Close_r3 : List AOper := [
  ⟨some 17, (.bin .lss), [.t 16, .t 15], none⟩]
def types_Close_r4 : List AOper := [
  ⟨some 18, (.iad 1), [.t 14, .t 16], none⟩,
  ⟨some 19, (.load false 1), [.t 18], none⟩,
  ⟨some 8, .mov, [.t 19], none⟩]
def types_Close_r5 : List AOper := [
  ⟨some 20, .mov, [.t 8], none⟩,
  ⟨some 21, (.bin .lss), [.t 20, .c (.int .i64 0)], none⟩,
  ⟨some 22, .mov, [.t 21], none⟩,
  ⟨some 23, .mov, [.t 8], some (22, false)⟩,
  ⟨some 24, .mov, [.t 0], some (22, false)⟩,
  ⟨some 25, .lens, [.t 24], some (22, false)⟩,
  ⟨some 26, (.bin .geq), [.t 23, .t 25], some (22, false)⟩,
  ⟨some 27, .pick, [.t 22, .c (.bool true), .t 26], none⟩]
def types_Close_r6 : List AOper := [
  ⟨some 4, .mov, [.c (.slc 0 [] true)], none⟩,
  ⟨some 5, .mov, [.c (.int .i64 1)], none⟩]
def types_Close_r7 : List AOper := [
  ⟨some 28, .mov, [.t 8], none⟩,
  ⟨some 9, .mov, [.t 28], none⟩]
def types_Close_r8 : List AOper := [
  ⟨some 29, .mov, [.t 0], none⟩,
  ⟨some 30, .mov, [.t 8], none⟩,
  ⟨some 31, (.iad 8), [.t 29, .t 30], none⟩,
  ⟨some 32, (.fad 6), [.t 31], none⟩,
  ⟨some 33, (.load false 1), [.t 32], none⟩,
  ⟨some 10, .mov, [.t 33], none⟩]
def types_Close_r9 : List AOper := [
  ⟨some 34, .mov, [.t 10], none⟩,
  ⟨some 35, (.bin .geq), [.t 34, .c (.int .i64 0)], none⟩]
def types_Close_r10 : List AOper := [
  ⟨some 41, .mov, [.t 6], none⟩,
  ⟨some 42, .mov, [.t 10], none⟩,
  ⟨some 43, (.iad 1), [.t 41, .t 42], none⟩,
  ⟨none, (.store 1), [.t 43, .c (.bool true)], none⟩]
def types_Close_r11 : List AOper := [
  ⟨some 44, .mov, [.t 0], none⟩,
  ⟨some 45, .mov, [.t 10], none⟩,
  ⟨some 46, (.iad 8), [.t 44, .t 45], none⟩,
  ⟨some 47, (.fad 0), [.t 46], none⟩,
  ⟨some 48, (.load false 1), [.t 47], none⟩,
  ⟨some 49, (.bin .neq), [.t 48, .c (.int .i64 12)], none⟩]
def types_Close_r12 : List AOper := [
  ⟨some 50, .mov, [.t 10], none⟩,
  ⟨some 9, .mov, [.t 50], none⟩]
def types_Close_r13 : List AOper := [
  ⟨some 36, .mov, [.t 0], none⟩,
  ⟨some 37, .mov, [.t 10], none⟩,
  ⟨some 38, (.iad 8), [.t 36, .t 37], none⟩,
  ⟨some 39, (.fad 6), [.t 38], none⟩,
  ⟨some 40, (.load false 1), [.t 39], none⟩,
  ⟨some 10, .mov, [.t 40], none⟩]
def types_Close_l0 : ACode := (.seq (.seq (.region types_Close_r9 [0, 6, 9, 10, 14, 15, 16, 35]) (.cond (.t 35) .skip (.exit 2))) (.seq (.block 3 (.seq (.region types_Close_r10 [0, 6, 9, 10, 14, 15, 16]) (.seq (.region types_Close_r11 [0, 6, 9, 10, 14, 15, 16, 49]) (.cond (.t 49) (.region types_Close_r12 [0, 6, 9, 10, 14, 15, 16]) .skip)))) (.region types_Close_r13 [0, 6, 9, 10, 14, 15, 16])))
def types_Close_r14 : List AOper := [
  ⟨some 51, .mov, [.t 0], none⟩,
  ⟨some 52, .mov, [.t 6], none⟩,
  ⟨some 53, .mov, [.t 9], none⟩,
  ⟨some 54, (.call f_types_fill), [.t 51, .t 52, .t 53], none⟩]
def types_Close_r15 : List AOper := [
  ⟨some 55, (.bin .add), [.t 16, .c (.int .i64 1)], none⟩,
  ⟨some 16, .mov, [.t 55], none⟩]
def types_Close_l1 : ACode := (.seq (.region types_Close_r3 [0, 6, 14, 15, 16, 17]) (.seq (.cond (.t 17) .skip (.exit 0)) (.seq (.block 1 (.seq (.region types_Close_r4 [0, 6, 8, 14, 15, 16]) (.seq (.seq (.region types_Close_r5 [0, 6, 8, 14, 15, 16, 27]) (.cond (.t 27) (.seq (.region types_Close_r6 [4, 5]) .ret) .skip)) (.seq (.region types_Close_r7 [0, 6, 8, 9, 14, 15, 16]) (.seq (.seq (.region types_Close_r8 [0, 6, 9, 10, 14, 15, 16]) (.block 2 (.loop types_Close_l0))) (.region types_Close_r14 [0, 6, 14, 15, 16])))))) (.region types_Close_r15 [0, 6, 14, 15, 16]))))
def types_Close_r16 : List AOper := [
  ⟨some 56, .mov, [.t 6], none⟩,
  ⟨some 4, .mov, [.t 56], none⟩,
  ⟨some 5, .mov, [.c (.int .i64 0)], none⟩]
def types_Close : AFunc := ⟨57, (.seq (.region types_Close_r0 [0, 1]) (.seq (.region types_Close_r1 [0, 1, 6]) (.seq (.seq (.region types_Close_r2 [0, 6, 14, 15, 16]) (.block 0 (.loop types_Close_l1))) (.seq (.region types_Close_r16 [4, 5]) .ret)))), [.t 4, .t 5]⟩
def types_fill_r0 : List AOper := [
  ⟨some 8, .mov, [.t 1], none⟩,
  ⟨some 9, .mov, [.t 2], none⟩,
  ⟨some 10, (.iad 1), [.t 8, .t 9], none⟩,
  ⟨none, (.store 1), [.t 10, .c (.bool true)], none⟩]
def types_fill_r1 : List AOper := [
  ⟨some 11, .mov, [.t 0], none⟩,
  ⟨some 12, .mov, [.t 2], none⟩,
  ⟨some 13, (.iad 8), [.t 11, .t 12], none⟩,
  ⟨some 14, (.fad 1), [.t 13], none⟩,
  ⟨some 15, (.load false 1), [.t 14], none⟩,
  ⟨some 16, .lens, [.t 15], none⟩,
  ⟨some 17, .mov, [.c (.int .i64 0)], none⟩]
def types_fill_r2 : List AOper := [
  ⟨some 18, (.bin .lss), [.t 17, .t 16], none⟩]
def types_fill_r3 : List AOper := [
  ⟨some 19, (.iad 1), [.t 15, .t 17], none⟩,
  ⟨some 20, (.load false 1), [.t 19], none⟩,
  ⟨some 7, .mov, [.t 20], none⟩]
def types_fill_r4 : List AOper := [
  ⟨some 21, .mov, [.t 0], none⟩,
  ⟨some 22, .mov, [.t 1], none⟩,
  ⟨some 23, .mov, [.t 7], none⟩,
  ⟨some 24, (.call f_types_fill), [.t 21, .t 22, .t 23], none⟩]
def types_fill_r5 : List AOper := [
  ⟨some 25, (.bin .add), [.t 17, .c (.int .i64 1)], none⟩,
  ⟨some 17, .mov, [.t 25], none⟩]
def types_fill_l0 : ACode := (.seq (.region types_fill_r2 [0, 1, 15, 16, 17, 18]) (.seq (.cond (.t 18) .skip (.exit 0)) (.seq (.block 1 (.seq (.region types_fill_r3 [0, 1, 7, 15, 16, 17]) (.region types_fill_r4 [0, 1, 15, 16, 17]))) (.region types_fill_r5 [0, 1, 15, 16, 17]))))
def types_fill : AFunc := ⟨26, (.seq (.region types_fill_r0 [0, 1, 2]) (.seq (.region types_fill_r1 [0, 1, 15, 16, 17]) (.block 0 (.loop types_fill_l0)))), []⟩
def types_Word_r0 : List AOper := [
  ⟨some 2, .mov, [.c (.str [])], none⟩]
def types_Word_r1 : List AOper := [
  ⟨some 3, .mov, [.t 0], none⟩,
  ⟨some 4, (.bin .lss), [.t 3, .c (.int .i64 0)], none⟩,
  ⟨some 5, .mov, [.t 4], none⟩,
  ⟨some 6, .mov, [.t 0], some (5, false)⟩,
  ⟨some 7, (.bin .gtr), [.t 6, .c (.int .i64 17)], some (5, false)⟩,
  ⟨some 8, .pick, [.t 5, .c (.bool true), .t 7], none⟩]
def types_Word_r2 : List AOper := [
  ⟨some 2, .mov, [.c (.str [])], none⟩]
def types_Word_r3 : List AOper := [
  ⟨some 9, (.call f_types_words), [], none⟩,
  ⟨some 10, .mov, [.t 0], none⟩,
  ⟨some 11, (.iad 1), [.t 9, .t 10], none⟩,
  ⟨some 12, (.load false 1), [.t 11], none⟩,
  ⟨some 2, .mov, [.t 12], none⟩]
def types_Word : AFunc := ⟨13, (.seq (.region types_Word_r0 [0]) (.seq (.seq (.region types_Word_r1 [0, 8]) (.cond (.t 8) (.seq (.region types_Word_r2 [2]) .ret) .skip)) (.seq (.region types_Word_r3 [2]) .ret))), [.t 2]⟩
def ingotref13_Word_r0 : List AOper := [
  ⟨some 2, .mov, [.c (.str [])], none⟩]
def ingotref13_Word_r1 : List AOper := [
  ⟨some 4, (.bsl 1), [.c (.str [98, 111, 111, 108, 101, 97, 110]), .c (.str [116, 105, 110, 121, 105, 110, 116]), .c (.str [115, 109, 97, 108, 108, 105, 110, 116]), .c (.str [105, 110, 116]), .c (.str [98, 105, 103, 105, 110, 116]), .c (.str [102, 108, 111, 97, 116]), .c (.str [100, 111, 117, 98, 108, 101]), .c (.str [115, 116, 114, 105, 110, 103]), .c (.str [98, 105, 110, 97, 114, 121]), .c (.str [116, 105, 109, 101, 115, 116, 97, 109, 112]), .c (.str [97, 114, 114, 97, 121]), .c (.str [109, 97, 112]), .c (.str [115, 116, 114, 117, 99, 116]), .c (.str [117, 110, 105, 111, 110, 116, 121, 112, 101]), .c (.str [100, 101, 99, 105, 109, 97, 108]), .c (.str [100, 97, 116, 101]), .c (.str [118, 97, 114, 99, 104, 97, 114]), .c (.str [99, 104, 97, 114])], none⟩,
  ⟨some 3, .mov, [.t 4], none⟩]
def ingotref13_Word_r2 : List AOper := [
  ⟨some 5, .mov, [.t 0], none⟩,
  ⟨some 6, (.bin .lss), [.t 5, .c (.int .i64 0)], none⟩,
  ⟨some 7, .mov, [.t 6], none⟩,
  ⟨some 8, .mov, [.t 0], some (7, false)⟩,
  ⟨some 9, .mov, [.t 3], some (7, false)⟩,
  ⟨some 10, .lens, [.t 9], some (7, false)⟩,
  ⟨some 11, (.bin .geq), [.t 8, .t 10], some (7, false)⟩,
  ⟨some 12, .pick, [.t 7, .c (.bool true), .t 11], none⟩]
def ingotref13_Word_r3 : List AOper := [
  ⟨some 2, .mov, [.c (.str [])], none⟩]
def ingotref13_Word_r4 : List AOper := [
  ⟨some 13, .mov, [.t 3], none⟩,
  ⟨some 14, .mov, [.t 0], none⟩,
  ⟨some 15, (.iad 1), [.t 13, .t 14], none⟩,
  ⟨some 16, (.load false 1), [.t 15], none⟩,
  ⟨some 2, .mov, [.t 16], none⟩]
def ingotref13_Word : AFunc := ⟨17, (.seq (.region ingotref13_Word_r0 [0]) (.seq (.region ingotref13_Word_r1 [0, 3]) (.seq (.seq (.region ingotref13_Word_r2 [0, 3, 12]) (.cond (.t 12) (.seq (.region ingotref13_Word_r3 [2]) .ret) .skip)) (.seq (.region ingotref13_Word_r4 [2]) .ret)))), [.t 2]⟩
def types_words_r0 : List AOper := [
  ⟨some 0, .mov, [.c (.slc 0 [] true)], none⟩]
def types_words_r1 : List AOper := [
  ⟨some 1, (.call f_strings_Fields), [.c (.str [98, 111, 111, 108, 101, 97, 110, 32, 116, 105, 110, 121, 105, 110, 116, 32, 115, 109, 97, 108, 108, 105, 110, 116, 32, 105, 110, 116, 32, 98, 105, 103, 105, 110, 116, 32, 102, 108, 111, 97, 116, 32, 100, 111, 117, 98, 108, 101, 32, 115, 116, 114, 105, 110, 103, 32, 98, 105, 110, 97, 114, 121, 32, 116, 105, 109, 101, 115, 116, 97, 109, 112, 32, 97, 114, 114, 97, 121, 32, 109, 97, 112, 32, 115, 116, 114, 117, 99, 116, 32, 117, 110, 105, 111, 110, 116, 121, 112, 101, 32, 100, 101, 99, 105, 109, 97, 108, 32, 100, 97, 116, 101, 32, 118, 97, 114, 99, 104, 97, 114, 32, 99, 104, 97, 114])], none⟩,
  ⟨some 0, .mov, [.t 1], none⟩]
def types_words : AFunc := ⟨2, (.seq (.region types_words_r0 []) (.seq (.region types_words_r1 [0]) .ret)), [.t 0]⟩
def ingotref13_decimal_r0 : List AOper := [
  ⟨some 2, .mov, [.c (.str [])], none⟩]
def ingotref13_decimal_r1 : List AOper := [
  ⟨some 5, .mov, [.t 0], none⟩,
  ⟨some 6, (.conv .u64), [.t 5], none⟩,
  ⟨some 3, .mov, [.t 6], none⟩]
def ingotref13_decimal_r2 : List AOper := [
  ⟨some 7, .mov, [.t 0], none⟩,
  ⟨some 8, (.bin .lss), [.t 7, .c (.int .i64 0)], none⟩]
def ingotref13_decimal_r3 : List AOper := [
  ⟨some 9, .mov, [.t 3], none⟩,
  ⟨some 10, (.bin .sub), [.c (.int .u64 0), .t 9], none⟩,
  ⟨some 3, .mov, [.t 10], none⟩]
def ingotref13_decimal_r4 : List AOper := [
  ⟨some 11, .mov, [.t 3], none⟩,
  ⟨some 12, (.bin .rem), [.t 11, .c (.int .u64 10)], none⟩,
  ⟨some 13, (.bin .add), [.c (.int .u64 48), .t 12], none⟩,
  ⟨some 14, (.conv .u8), [.t 13], none⟩,
  ⟨some 15, (.bsl 1), [.t 14], none⟩,
  ⟨some 16, .b2s, [.t 15], none⟩,
  ⟨some 4, .mov, [.t 16], none⟩]
def ingotref13_decimal_r5 : List AOper := [
  ⟨some 17, .mov, [.t 3], none⟩,
  ⟨some 18, (.bin .geq), [.t 17, .c (.int .u64 10)], none⟩]
def ingotref13_decimal_r6 : List AOper := [
  ⟨some 19, .mov, [.t 3], none⟩,
  ⟨some 20, (.bin .quo), [.t 19, .c (.int .u64 10)], none⟩,
  ⟨some 3, .mov, [.t 20], none⟩]
def ingotref13_decimal_r7 : List AOper := [
  ⟨some 21, .mov, [.t 3], none⟩,
  ⟨some 22, (.bin .rem), [.t 21, .c (.int .u64 10)], none⟩,
  ⟨some 23, (.bin .add), [.c (.int .u64 48), .t 22], none⟩,
  ⟨some 24, (.conv .u8), [.t 23], none⟩,
  ⟨some 25, (.bsl 1), [.t 24], none⟩,
  ⟨some 26, .b2s, [.t 25], none⟩,
  ⟨some 27, .mov, [.t 4], none⟩,
  ⟨some 28, (.bin .add), [.t 26, .t 27], none⟩,
  ⟨some 4, .mov, [.t 28], none⟩]
def ingotref13_decimal_l0 : ACode := (.seq (.seq (.region ingotref13_decimal_r5 [0, 3, 4, 18]) (.cond (.t 18) .skip (.exit 0))) (.block 1 (.seq (.region ingotref13_decimal_r6 [0, 3, 4]) (.region ingotref13_decimal_r7 [0, 3, 4]))))
def ingotref13_decimal_r8 : List AOper := [
  ⟨some 29, .mov, [.t 0], none⟩,
  ⟨some 30, (.bin .lss), [.t 29, .c (.int .i64 0)], none⟩]
def ingotref13_decimal_r9 : List AOper := [
  ⟨some 31, .mov, [.t 4], none⟩,
  ⟨some 32, (.bin .add), [.c (.str [45]), .t 31], none⟩,
  ⟨some 2, .mov, [.t 32], none⟩]
def ingotref13_decimal_r10 : List AOper := [
  ⟨some 33, .mov, [.t 4], none⟩,
  ⟨some 2, .mov, [.t 33], none⟩]
def ingotref13_decimal : AFunc := ⟨34, (.seq (.region ingotref13_decimal_r0 [0]) (.seq (.region ingotref13_decimal_r1 [0, 3]) (.seq (.seq (.region ingotref13_decimal_r2 [0, 3, 8]) (.cond (.t 8) (.region ingotref13_decimal_r3 [0, 3]) .skip)) (.seq (.region ingotref13_decimal_r4 [0, 3, 4]) (.seq (.block 0 (.loop ingotref13_decimal_l0)) (.seq (.seq (.region ingotref13_decimal_r8 [4, 30]) (.cond (.t 30) (.seq (.region ingotref13_decimal_r9 [2]) .ret) .skip)) (.seq (.region ingotref13_decimal_r10 [2]) .ret))))))), [.t 2]⟩
def slices_Equal_string_string_r0 : List AOper := [
  ⟨some 4, .mov, [.c (.bool false)], none⟩]
def slices_Equal_string_string_r1 : List AOper := [
  ⟨some 6, .mov, [.t 0], none⟩,
  ⟨some 7, .lens, [.t 6], none⟩,
  ⟨some 8, .mov, [.t 1], none⟩,
  ⟨some 9, .lens, [.t 8], none⟩,
  ⟨some 10, (.bin .neq), [.t 7, .t 9], none⟩]
def slices_Equal_string_string_r2 : List AOper := [
  ⟨some 4, .mov, [.c (.bool false)], none⟩]
def slices_Equal_string_string_r3 : List AOper := [
  ⟨some 11, .mov, [.t 0], none⟩,
  ⟨some 12, .lens, [.t 11], none⟩,
  ⟨some 13, .mov, [.c (.int .i64 0)], none⟩]
def slices_Equal_string_string_r4 : List AOper := [
  ⟨some 14, (.bin .lss), [.t 13, .t 12], none⟩]
def slices_Equal_string_string_r5 : List AOper := [
  ⟨some 15, .mov, [.t 13], none⟩,
  ⟨some 5, .mov, [.t 15], none⟩]
def slices_Equal_string_string_r6 : List AOper := [
  ⟨some 16, .mov, [.t 0], none⟩,
  ⟨some 17, .mov, [.t 5], none⟩,
  ⟨some 18, (.iad 1), [.t 16, .t 17], none⟩,
  ⟨some 19, (.load false 1), [.t 18], none⟩,
  ⟨some 20, .mov, [.t 1], none⟩,
  ⟨some 21, .mov, [.t 5], none⟩,
  ⟨some 22, (.iad 1), [.t 20, .t 21], none⟩,
  ⟨some 23, (.load false 1), [.t 22], none⟩,
  ⟨some 24, (.bin .neq), [.t 19, .t 23], none⟩]
def slices_Equal_string_string_r7 : List AOper := [
  ⟨some 4, .mov, [.c (.bool false)], none⟩]
def slices_Equal_string_string_r8 : List AOper := [
  ⟨some 25, (.bin .add), [.t 13, .c (.int .i64 1)], none⟩,
  ⟨some 13, .mov, [.t 25], none⟩]
def slices_Equal_string_string_l0 : ACode := (.seq (.region slices_Equal_string_string_r4 [0, 1, 12, 13, 14]) (.seq (.cond (.t 14) .skip (.exit 0)) (.seq (.block 1 (.seq (.region slices_Equal_string_string_r5 [0, 1, 5, 12, 13]) (.seq (.region slices_Equal_string_string_r6 [0, 1, 12, 13, 24]) (.cond (.t 24) (.seq (.region slices_Equal_string_string_r7 [4]) .ret) .skip)))) (.region slices_Equal_string_string_r8 [0, 1, 12, 13]))))
def slices_Equal_string_string_r9 : List AOper := [
  ⟨some 4, .mov, [.c (.bool true)], none⟩]
def slices_Equal_string_string : AFunc := ⟨26, (.seq (.region slices_Equal_string_string_r0 [0, 1]) (.seq (.seq (.region slices_Equal_string_string_r1 [0, 1, 10]) (.cond (.t 10) (.seq (.region slices_Equal_string_string_r2 [4]) .ret) .skip)) (.seq (.seq (.region slices_Equal_string_string_r3 [0, 1, 12, 13]) (.block 0 (.loop slices_Equal_string_string_l0))) (.seq (.region slices_Equal_string_string_r9 [4]) .ret)))), [.t 4]⟩
def slices_EqualFunc_api_Type_api_Type_api_Type_api_Type_r0 : List AOper := [
  ⟨some 6, .mov, [.c (.bool false)], none⟩]
def slices_EqualFunc_api_Type_api_Type_api_Type_api_Type_r1 : List AOper := [
  ⟨some 10, .mov, [.t 0], none⟩,
  ⟨some 11, .lens, [.t 10], none⟩,
  ⟨some 12, .mov, [.t 1], none⟩,
  ⟨some 13, .lens, [.t 12], none⟩,
  ⟨some 14, (.bin .neq), [.t 11, .t 13], none⟩]
def slices_EqualFunc_api_Type_api_Type_api_Type_api_Type_r2 : List AOper := [
  ⟨some 6, .mov, [.c (.bool false)], none⟩]
def slices_EqualFunc_api_Type_api_Type_api_Type_api_Type_r3 : List AOper := [
  ⟨some 15, .mov, [.t 0], none⟩,
  ⟨some 16, .lens, [.t 15], none⟩,
  ⟨some 17, .mov, [.c (.int .i64 0)], none⟩]
def slices_EqualFunc_api_Type_api_Type_api_Type_api_Type_r4 : List AOper := [
  ⟨some 18, (.bin .lss), [.t 17, .t 16], none⟩]
def slices_EqualFunc_api_Type_api_Type_api_Type_api_Type_r5 : List AOper := [
  ⟨some 19, .mov, [.t 17], none⟩,
  ⟨some 20, (.iad 6), [.t 15, .t 17], none⟩,
  ⟨some 21, (.load true 6), [.t 20], none⟩,
  ⟨some 8, (.alloc (.agg [(.int .i64 0), (.slc 0 [] true), (.slc 0 [] true), (.int .i64 0), (.int .i64 0), (.int .i64 0)])), [], none⟩,
  ⟨some 7, .mov, [.t 19], none⟩,
  ⟨none, (.store 6), [.t 8, .t 21], none⟩]
def slices_EqualFunc_api_Type_api_Type_api_Type_api_Type_r6 : List AOper := [
  ⟨some 22, .mov, [.t 1], none⟩,
  ⟨some 23, .mov, [.t 7], none⟩,
  ⟨some 24, (.iad 6), [.t 22, .t 23], none⟩,
  ⟨some 25, (.load true 6), [.t 24], none⟩,
  ⟨some 9, (.alloc (.agg [(.int .i64 0), (.slc 0 [] true), (.slc 0 [] true), (.int .i64 0), (.int .i64 0), (.int .i64 0)])), [], none⟩,
  ⟨none, (.store 6), [.t 9, .t 25], none⟩]
def slices_EqualFunc_api_Type_api_Type_api_Type_api_Type_r7 : List AOper := [
  ⟨some 26, .mov, [.t 2], none⟩,
  ⟨some 27, (.load true 6), [.t 8], none⟩,
  ⟨some 28, (.load true 6), [.t 9], none⟩,
  ⟨some 29, .callv, [.t 26, .t 27, .t 28], none⟩,
  ⟨some 30, .unot, [.t 29], none⟩]
def slices_EqualFunc_api_Type_api_Type_api_Type_api_Type_r8 : List AOper := [
  ⟨some 6, .mov, [.c (.bool false)], none⟩]
def slices_EqualFunc_api_Type_api_Type_api_Type_api_Type_r9 : List AOper := [
  ⟨some 31, (.bin .add), [.t 17, .c (.int .i64 1)], none⟩,
  ⟨some 17, .mov, [.t 31], none⟩]
def slices_EqualFunc_api_Type_api_Type_api_Type_api_Type_l0 : ACode := (.seq (.region slices_EqualFunc_api_Type_api_Type_api_Type_api_Type_r4 [1, 2, 15, 16, 17, 18]) (.seq (.cond (.t 18) .skip (.exit 0)) (.seq (.block 1 (.seq (.region slices_EqualFunc_api_Type_api_Type_api_Type_api_Type_r5 [1, 2, 7, 8, 15, 16, 17]) (.seq (.region slices_EqualFunc_api_Type_api_Type_api_Type_api_Type_r6 [1, 2, 8, 9, 15, 16, 17]) (.seq (.region slices_EqualFunc_api_Type_api_Type_api_Type_api_Type_r7 [1, 2, 15, 16, 17, 30]) (.cond (.t 30) (.seq (.region slices_EqualFunc_api_Type_api_Type_api_Type_api_Type_r8 [6]) .ret) .skip))))) (.region slices_EqualFunc_api_Type_api_Type_api_Type_api_Type_r9 [1, 2, 15, 16, 17]))))
def slices_EqualFunc_api_Type_api_Type_api_Type_api_Type_r10 : List AOper := [
  ⟨some 6, .mov, [.c (.bool true)], none⟩]
def slices_EqualFunc_api_Type_api_Type_api_Type_api_Type : AFunc := ⟨32, (.seq (.region slices_EqualFunc_api_Type_api_Type_api_Type_api_Type_r0 [0, 1, 2]) (.seq (.seq (.region slices_EqualFunc_api_Type_api_Type_api_Type_api_Type_r1 [0, 1, 2, 14]) (.cond (.t 14) (.seq (.region slices_EqualFunc_api_Type_api_Type_api_Type_api_Type_r2 [6]) .ret) .skip)) (.seq (.seq (.region slices_EqualFunc_api_Type_api_Type_api_Type_api_Type_r3 [1, 2, 15, 16, 17]) (.block 0 (.loop slices_EqualFunc_api_Type_api_Type_api_Type_api_Type_l0))) (.seq (.region slices_EqualFunc_api_Type_api_Type_api_Type_api_Type_r10 [6]) .ret)))), [.t 6]⟩
def slices_Clip_api_Type_api_Type_r0 : List AOper := [
  ⟨some 2, .mov, [.c (.slc 0 [] true)], none⟩]
def slices_Clip_api_Type_api_Type_r1 : List AOper := [
  ⟨some 3, .mov, [.t 0], none⟩,
  ⟨some 4, .mov, [.t 0], none⟩,
  ⟨some 5, .lens, [.t 4], none⟩,
  ⟨some 6, .mov, [.t 0], none⟩,
  ⟨some 7, .lens, [.t 6], none⟩,
  ⟨some 8, (.clip 6), [.t 3, .t 5, .t 7], none⟩,
  ⟨some 2, .mov, [.t 8], none⟩]
def slices_Clip_api_Type_api_Type : AFunc := ⟨9, (.seq (.region slices_Clip_api_Type_api_Type_r0 [0]) (.seq (.region slices_Clip_api_Type_api_Type_r1 [2]) .ret)), [.t 2]⟩
end Go.Abs
