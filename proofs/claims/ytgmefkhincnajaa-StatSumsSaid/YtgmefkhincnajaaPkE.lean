/- Part E of a proof: merged by program. -/
import Derived.Test.YtgmefkhincnajaaPkD
import Derived.Test.YtgmefkhincnajaaProg
import Derived.KernelRfl
namespace Go.Abs
open Go
def flat_Has_r0 : List AOper := [
  ⟨some 1, (.box 5), [.t 0], none⟩,
  ⟨some 2, .mov, [.c (.bool false)], none⟩]
def flat_Has_r1 : List AOper := [
  ⟨some 3, (.fad 0), [.t 1], none⟩,
  ⟨some 4, (.load false 1), [.t 3], none⟩,
  ⟨some 5, (.call f_slices_Contains_bool_bool), [.t 4, .c (.bool false)], none⟩,
  ⟨some 2, .mov, [.t 5], none⟩]
def flat_Has : AFunc := ⟨6, (.seq (.region flat_Has_r0 [1]) (.seq (.region flat_Has_r1 [2]) .ret)), [.t 2]⟩
def ingotref15_Has_r0 : List AOper := [
  ⟨some 1, (.box 5), [.t 0], none⟩,
  ⟨some 2, .mov, [.c (.bool false)], none⟩]
def ingotref15_Has_r1 : List AOper := [
  ⟨some 3, .mov, [.c (.int .i64 0)], none⟩]
def ingotref15_Has_r2 : List AOper := [
  ⟨some 4, .mov, [.t 3], none⟩,
  ⟨some 5, (.fad 0), [.t 1], none⟩,
  ⟨some 6, (.load false 1), [.t 5], none⟩,
  ⟨some 7, .lens, [.t 6], none⟩,
  ⟨some 8, (.bin .lss), [.t 4, .t 7], none⟩]
def ingotref15_Has_r3 : List AOper := [
  ⟨some 11, (.fad 0), [.t 1], none⟩,
  ⟨some 12, (.load false 1), [.t 11], none⟩,
  ⟨some 13, .mov, [.t 3], none⟩,
  ⟨some 14, (.iad 1), [.t 12, .t 13], none⟩,
  ⟨some 15, (.load false 1), [.t 14], none⟩,
  ⟨some 16, .unot, [.t 15], none⟩]
def ingotref15_Has_r4 : List AOper := [
  ⟨some 2, .mov, [.c (.bool true)], none⟩]
def ingotref15_Has_r5 : List AOper := [
  ⟨some 9, .mov, [.t 3], none⟩,
  ⟨some 10, (.bin .add), [.t 9, .c (.int .i64 1)], none⟩,
  ⟨some 3, .mov, [.t 10], none⟩]
def ingotref15_Has_l0 : ACode := (.seq (.seq (.region ingotref15_Has_r2 [1, 3, 8]) (.cond (.t 8) .skip (.exit 0))) (.seq (.block 1 (.seq (.region ingotref15_Has_r3 [1, 3, 16]) (.cond (.t 16) (.seq (.region ingotref15_Has_r4 [2]) .ret) .skip))) (.region ingotref15_Has_r5 [1, 3])))
def ingotref15_Has_r6 : List AOper := [
  ⟨some 2, .mov, [.c (.bool false)], none⟩]
def ingotref15_Has : AFunc := ⟨17, (.seq (.region ingotref15_Has_r0 [1]) (.seq (.seq (.region ingotref15_Has_r1 [1, 3]) (.block 0 (.loop ingotref15_Has_l0))) (.seq (.region ingotref15_Has_r6 [2]) .ret))), [.t 2]⟩
def slices_Contains_bool_bool_r0 : List AOper := [
  ⟨some 4, .mov, [.c (.bool false)], none⟩]
def slices_Contains_bool_bool_r1 : List AOper := [
  ⟨some 5, .mov, [.t 0], none⟩,
  ⟨some 6, .mov, [.t 1], none⟩,
  ⟨some 7, (.call f_slices_Index_bool_bool), [.t 5, .t 6], none⟩,
  ⟨some 8, (.bin .geq), [.t 7, .c (.int .i64 0)], none⟩,
  ⟨some 4, .mov, [.t 8], none⟩]
def slices_Contains_bool_bool : AFunc := ⟨9, (.seq (.region slices_Contains_bool_bool_r0 [0, 1]) (.seq (.region slices_Contains_bool_bool_r1 [4]) .ret)), [.t 4]⟩
def slices_Index_bool_bool_r0 : List AOper := [
  ⟨some 4, .mov, [.c (.int .i64 0)], none⟩]
def slices_Index_bool_bool_r1 : List AOper := [
  ⟨some 6, .mov, [.t 0], none⟩,
  ⟨some 7, .lens, [.t 6], none⟩,
  ⟨some 8, .mov, [.c (.int .i64 0)], none⟩]
def slices_Index_bool_bool_r2 : List AOper := [
  ⟨some 9, (.bin .lss), [.t 8, .t 7], none⟩]
def slices_Index_bool_bool_r3 : List AOper := [
  ⟨some 10, .mov, [.t 8], none⟩,
  ⟨some 5, .mov, [.t 10], none⟩]
def slices_Index_bool_bool_r4 : List AOper := [
  ⟨some 11, .mov, [.t 1], none⟩,
  ⟨some 12, .mov, [.t 0], none⟩,
  ⟨some 13, .mov, [.t 5], none⟩,
  ⟨some 14, (.iad 1), [.t 12, .t 13], none⟩,
  ⟨some 15, (.load false 1), [.t 14], none⟩,
  ⟨some 16, (.binb .eql), [.t 11, .t 15], none⟩]
def slices_Index_bool_bool_r5 : List AOper := [
  ⟨some 17, .mov, [.t 5], none⟩,
  ⟨some 4, .mov, [.t 17], none⟩]
def slices_Index_bool_bool_r6 : List AOper := [
  ⟨some 18, (.bin .add), [.t 8, .c (.int .i64 1)], none⟩,
  ⟨some 8, .mov, [.t 18], none⟩]
def slices_Index_bool_bool_l0 : ACode := (.seq (.region slices_Index_bool_bool_r2 [0, 1, 7, 8, 9]) (.seq (.cond (.t 9) .skip (.exit 0)) (.seq (.block 1 (.seq (.region slices_Index_bool_bool_r3 [0, 1, 5, 7, 8]) (.seq (.region slices_Index_bool_bool_r4 [0, 1, 5, 7, 8, 16]) (.cond (.t 16) (.seq (.region slices_Index_bool_bool_r5 [4]) .ret) .skip)))) (.region slices_Index_bool_bool_r6 [0, 1, 7, 8]))))
def slices_Index_bool_bool_r7 : List AOper := [
  ⟨some 4, .mov, [.c (.int .i64 (-1))], none⟩]
def slices_Index_bool_bool : AFunc := ⟨19, (.seq (.region slices_Index_bool_bool_r0 [0, 1]) (.seq (.seq (.region slices_Index_bool_bool_r1 [0, 1, 7, 8]) (.block 0 (.loop slices_Index_bool_bool_l0))) (.seq (.region slices_Index_bool_bool_r7 [4]) .ret))), [.t 4]⟩
def ingotlaw15_To_r0 : List AOper := [
  ⟨some 1, (.box 5), [.t 0], none⟩,
  ⟨some 2, (.alloc (.agg [(.slc 0 [] true), (.slc 0 [] true), (.slc 0 [] true), (.slc 0 [] true), (.slc 0 [] true)])), [], none⟩]
def ingotlaw15_To_r1 : List AOper := [
  ⟨some 3, (.fad 0), [.t 1], none⟩,
  ⟨some 4, (.load false 1), [.t 3], none⟩,
  ⟨some 5, (.fad 1), [.t 1], none⟩,
  ⟨some 6, (.load false 1), [.t 5], none⟩,
  ⟨some 7, (.fad 2), [.t 1], none⟩,
  ⟨some 8, (.load false 1), [.t 7], none⟩,
  ⟨some 9, (.fad 3), [.t 1], none⟩,
  ⟨some 10, (.load false 1), [.t 9], none⟩,
  ⟨some 11, (.fad 4), [.t 1], none⟩,
  ⟨some 12, (.load false 1), [.t 11], none⟩,
  ⟨some 13, (.bld [(.slc 0 [] true), (.slc 0 [] true), (.slc 0 [] true), (.slc 0 [] true), (.slc 0 [] true)] [(0, 1), (1, 1), (2, 1), (3, 1), (4, 1)]), [.t 4, .t 6, .t 8, .t 10, .t 12], none⟩,
  ⟨none, (.store 5), [.t 2, .t 13], none⟩]
def ingotlaw15_To : AFunc := ⟨14, (.seq (.region ingotlaw15_To_r0 [1, 2]) (.seq (.region ingotlaw15_To_r1 [2]) .ret)), [.cell 2 true 5]⟩
def ingotlaw16_Of_r0 : List AOper := [
  ⟨some 1, (.box 15), [.t 0], none⟩,
  ⟨some 2, (.alloc (.agg [(.int .i64 0), (.bool false), (.bool false), (.bool false), (.int .i64 0), (.int .i64 0), (.slc 0 [] true), (.slc 0 [] true), (.bool false), (.int .i64 0), (.int .i64 0), (.slc 0 [] true), (.slc 0 [] true), (.bool false), (.int .i64 0)])), [], none⟩]
def ingotlaw16_Of_r1 : List AOper := [
  ⟨some 3, (.fad 0), [.t 1], none⟩,
  ⟨some 4, (.load false 1), [.t 3], none⟩,
  ⟨some 5, (.fad 1), [.t 1], none⟩,
  ⟨some 6, (.load false 1), [.t 5], none⟩,
  ⟨some 7, (.fad 2), [.t 1], none⟩,
  ⟨some 8, (.load false 1), [.t 7], none⟩,
  ⟨some 9, (.fad 3), [.t 1], none⟩,
  ⟨some 10, (.load true 5), [.t 9], none⟩,
  ⟨some 11, (.fad 8), [.t 1], none⟩,
  ⟨some 12, (.load true 5), [.t 11], none⟩,
  ⟨some 13, (.fad 13), [.t 1], none⟩,
  ⟨some 14, (.load false 1), [.t 13], none⟩,
  ⟨some 15, (.fad 14), [.t 1], none⟩,
  ⟨some 16, (.load false 1), [.t 15], none⟩,
  ⟨some 17, (.bld [(.int .i64 0), (.bool false), (.bool false), (.bool false), (.int .i64 0), (.int .i64 0), (.slc 0 [] true), (.slc 0 [] true), (.bool false), (.int .i64 0), (.int .i64 0), (.slc 0 [] true), (.slc 0 [] true), (.bool false), (.int .i64 0)] [(0, 1), (1, 1), (2, 1), (3, 5), (8, 5), (13, 1), (14, 1)]), [.t 4, .t 6, .t 8, .t 10, .t 12, .t 14, .t 16], none⟩,
  ⟨none, (.store 15), [.t 2, .t 17], none⟩]
def ingotlaw16_Of : AFunc := ⟨18, (.seq (.region ingotlaw16_Of_r0 [1, 2]) (.seq (.region ingotlaw16_Of_r1 [2]) .ret)), [.cell 2 true 15]⟩
def stat_Of_r0 : List AOper := [
  ⟨some 2, (.box 8), [.t 0], none⟩,
  ⟨some 3, (.box 5), [.t 1], none⟩,
  ⟨some 4, (.alloc (.agg [(.int .i64 0), (.bool false), (.bool false), (.bool false), (.int .i64 0), (.int .i64 0), (.slc 0 [] true), (.slc 0 [] true), (.bool false), (.int .i64 0), (.int .i64 0), (.slc 0 [] true), (.slc 0 [] true), (.bool false), (.int .i64 0)])), [], none⟩]
def stat_Of_r1 : List AOper := [
  ⟨some 11, (.load true 5), [.t 3], none⟩,
  ⟨some 12, (.callp f_flat_Has), [.t 11], none⟩,
  ⟨some 13, (.fad 0), [.t 2], none⟩,
  ⟨some 14, (.load false 1), [.t 13], none⟩,
  ⟨some 15, (.callp f_stat_adds), [.t 14], none⟩,
  ⟨some 16, (.bld [(.int .i64 0), (.bool false), (.bool false), (.bool false), (.int .i64 0), (.int .i64 0), (.slc 0 [] true), (.slc 0 [] true), (.bool false), (.int .i64 0), (.int .i64 0), (.slc 0 [] true), (.slc 0 [] true), (.bool false), (.int .i64 0)] [(1, 1), (13, 1)]), [.t 12, .t 15], none⟩,
  ⟨some 5, (.alloc (.agg [(.int .i64 0), (.bool false), (.bool false), (.bool false), (.int .i64 0), (.int .i64 0), (.slc 0 [] true), (.slc 0 [] true), (.bool false), (.int .i64 0), (.int .i64 0), (.slc 0 [] true), (.slc 0 [] true), (.bool false), (.int .i64 0)])), [], none⟩,
  ⟨none, (.store 15), [.t 5, .t 16], none⟩]
def stat_Of_r2 : List AOper := [
  ⟨some 17, (.fad 0), [.t 3], none⟩,
  ⟨some 18, (.load false 1), [.t 17], none⟩,
  ⟨some 19, .lens, [.t 18], none⟩,
  ⟨some 20, .mov, [.c (.int .i64 0)], none⟩]
def stat_Of_r3 : List AOper := [
  ⟨some 21, (.bin .lss), [.t 20, .t 19], none⟩]
def stat_Of_r4 : List AOper := [
  ⟨some 22, (.iad 1), [.t 18, .t 20], none⟩,
  ⟨some 23, (.load false 1), [.t 22], none⟩,
  ⟨some 7, .mov, [.t 23], none⟩]
def stat_Of_r5 : List AOper := [
  ⟨some 24, .mov, [.t 7], none⟩]
def stat_Of_r6 : List AOper := [
  ⟨some 25, (.fad 0), [.t 5], none⟩,
  ⟨some 26, (.load false 1), [.t 25], none⟩,
  ⟨some 27, (.bin .add), [.t 26, .c (.int .i64 1)], none⟩,
  ⟨some 28, (.fad 0), [.t 5], none⟩,
  ⟨none, (.store 1), [.t 28, .t 27], none⟩]
def stat_Of_r7 : List AOper := [
  ⟨some 29, (.bin .add), [.t 20, .c (.int .i64 1)], none⟩,
  ⟨some 20, .mov, [.t 29], none⟩]
def stat_Of_l0 : ACode := (.seq (.region stat_Of_r3 [2, 3, 4, 5, 18, 19, 20, 21]) (.seq (.cond (.t 21) .skip (.exit 0)) (.seq (.block 1 (.seq (.region stat_Of_r4 [2, 3, 4, 5, 7, 18, 19, 20]) (.seq (.region stat_Of_r5 [2, 3, 4, 5, 18, 19, 20, 24]) (.cond (.t 24) (.region stat_Of_r6 [2, 3, 4, 5, 18, 19, 20]) .skip)))) (.region stat_Of_r7 [2, 3, 4, 5, 18, 19, 20]))))
def stat_Of_r8 : List AOper := [
  ⟨some 30, (.fad 1), [.t 3], none⟩,
  ⟨some 31, (.load false 1), [.t 30], none⟩,
  ⟨some 32, .lens, [.t 31], none⟩,
  ⟨some 33, (.fad 3), [.t 3], none⟩,
  ⟨some 34, (.load false 1), [.t 33], none⟩,
  ⟨some 35, .lens, [.t 34], none⟩,
  ⟨some 36, .max, [.t 32, .t 35], none⟩,
  ⟨some 37, .mov, [.c (.int .i64 0)], none⟩]
def stat_Of_r9 : List AOper := [
  ⟨some 38, (.bin .lss), [.t 37, .t 36], none⟩]
def stat_Of_r10 : List AOper := [
  ⟨some 39, .mov, [.t 37], none⟩,
  ⟨some 8, .mov, [.t 39], none⟩]
def stat_Of_r11 : List AOper := [
  ⟨some 9, (.alloc (.agg [(.bool false), (.int .i64 0), (.int .i64 0), (.slc 0 [] true), (.slc 0 [] true)])), [], none⟩]
def stat_Of_r12 : List AOper := [
  ⟨some 10, .mov, [.c (.int .i64 0)], none⟩]
def stat_Of_r13 : List AOper := [
  ⟨some 40, .mov, [.t 8], none⟩,
  ⟨some 41, (.fad 3), [.t 3], none⟩,
  ⟨some 42, (.load false 1), [.t 41], none⟩,
  ⟨some 43, .lens, [.t 42], none⟩,
  ⟨some 44, (.bin .lss), [.t 40, .t 43], none⟩]
def stat_Of_r14 : List AOper := [
  ⟨some 45, (.fad 3), [.t 3], none⟩,
  ⟨some 46, (.load false 1), [.t 45], none⟩,
  ⟨some 47, .mov, [.t 8], none⟩,
  ⟨some 48, (.iad 1), [.t 46, .t 47], none⟩,
  ⟨some 49, (.load false 1), [.t 48], none⟩,
  ⟨some 50, (.fad 3), [.t 9], none⟩,
  ⟨none, (.store 1), [.t 50, .t 49], none⟩]
def stat_Of_r15 : List AOper := [
  ⟨some 51, (.fad 3), [.t 9], none⟩,
  ⟨some 52, (.load false 1), [.t 51], none⟩,
  ⟨some 53, .lens, [.t 52], none⟩,
  ⟨some 10, .mov, [.t 53], none⟩]
def stat_Of_r16 : List AOper := [
  ⟨some 54, (.fad 1), [.t 3], none⟩,
  ⟨some 55, (.load false 1), [.t 54], none⟩,
  ⟨some 56, .mov, [.t 8], none⟩,
  ⟨some 57, (.iad 1), [.t 55, .t 56], none⟩,
  ⟨some 58, (.load false 1), [.t 57], none⟩,
  ⟨some 59, (.fad 1), [.t 9], none⟩,
  ⟨none, (.store 1), [.t 59, .t 58], none⟩]
def stat_Of_r17 : List AOper := [
  ⟨some 60, (.fad 1), [.t 9], none⟩,
  ⟨some 61, (.load false 1), [.t 60], none⟩,
  ⟨some 10, .mov, [.t 61], none⟩]
def stat_Of_r18 : List AOper := [
  ⟨some 62, .mov, [.t 8], none⟩,
  ⟨some 63, (.fad 2), [.t 3], none⟩,
  ⟨some 64, (.load false 1), [.t 63], none⟩,
  ⟨some 65, .lens, [.t 64], none⟩,
  ⟨some 66, (.bin .lss), [.t 62, .t 65], none⟩]
def stat_Of_r19 : List AOper := [
  ⟨some 67, (.fad 2), [.t 3], none⟩,
  ⟨some 68, (.load false 1), [.t 67], none⟩,
  ⟨some 69, .mov, [.t 8], none⟩,
  ⟨some 70, (.iad 1), [.t 68, .t 69], none⟩,
  ⟨some 71, (.load false 1), [.t 70], none⟩,
  ⟨some 72, (.fad 2), [.t 9], none⟩,
  ⟨none, (.store 1), [.t 72, .t 71], none⟩]
def stat_Of_r20 : List AOper := [
  ⟨some 73, (.fad 0), [.t 2], none⟩,
  ⟨some 74, (.load false 1), [.t 73], none⟩,
  ⟨some 75, (.call f_stat_ranges), [.t 74], none⟩]
def stat_Of_r21 : List AOper := [
  ⟨some 76, (.load true 8), [.t 2], none⟩,
  ⟨some 77, (.load true 5), [.t 9], none⟩,
  ⟨some 78, (.load true 5), [.t 9], none⟩,
  ⟨some 79, (.call f_stat_Stats_span), [.t 5, .t 76, .t 77, .t 78], none⟩]
def stat_Of_r22 : List AOper := [
  ⟨some 80, .mov, [.t 10], none⟩,
  ⟨some 81, (.call f_stat_Stats_more), [.t 5, .t 80], none⟩]
def stat_Of_r23 : List AOper := [
  ⟨some 82, (.bin .add), [.t 37, .c (.int .i64 1)], none⟩,
  ⟨some 37, .mov, [.t 82], none⟩]
def stat_Of_l1 : ACode := (.seq (.region stat_Of_r9 [2, 3, 4, 5, 36, 37, 38]) (.seq (.cond (.t 38) .skip (.exit 2)) (.seq (.block 3 (.seq (.region stat_Of_r10 [2, 3, 4, 5, 8, 36, 37]) (.seq (.region stat_Of_r11 [2, 3, 4, 5, 8, 9, 36, 37]) (.seq (.region stat_Of_r12 [2, 3, 4, 5, 8, 9, 36, 37]) (.seq (.seq (.region stat_Of_r13 [2, 3, 4, 5, 8, 9, 36, 37, 44]) (.cond (.t 44) (.seq (.region stat_Of_r14 [2, 3, 4, 5, 8, 9, 36, 37]) (.region stat_Of_r15 [2, 3, 4, 5, 8, 9, 10, 36, 37])) (.seq (.region stat_Of_r16 [2, 3, 4, 5, 8, 9, 36, 37]) (.region stat_Of_r17 [2, 3, 4, 5, 8, 9, 10, 36, 37])))) (.seq (.seq (.region stat_Of_r18 [2, 3, 4, 5, 8, 9, 10, 36, 37, 66]) (.cond (.t 66) (.region stat_Of_r19 [2, 3, 4, 5, 9, 10, 36, 37]) .skip)) (.seq (.seq (.region stat_Of_r20 [2, 3, 4, 5, 9, 10, 36, 37, 75]) (.cond (.t 75) (.region stat_Of_r21 [2, 3, 4, 5, 10, 36, 37]) .skip)) (.region stat_Of_r22 [2, 3, 4, 5, 36, 37])))))))) (.region stat_Of_r23 [2, 3, 4, 5, 36, 37]))))
def stat_Of_r24 : List AOper := [
  ⟨some 83, (.load true 15), [.t 5], none⟩,
  ⟨none, (.store 15), [.t 4, .t 83], none⟩]
def stat_Of : AFunc := ⟨84, (.seq (.region stat_Of_r0 [2, 3, 4]) (.seq (.region stat_Of_r1 [2, 3, 4, 5]) (.seq (.seq (.region stat_Of_r2 [2, 3, 4, 5, 18, 19, 20]) (.block 0 (.loop stat_Of_l0))) (.seq (.seq (.region stat_Of_r8 [2, 3, 4, 5, 36, 37]) (.block 2 (.loop stat_Of_l1))) (.seq (.region stat_Of_r24 [4]) .ret))))), [.cell 4 true 15]⟩
def stat_Empty_r0 : List AOper := [
  ⟨some 1, (.box 8), [.t 0], none⟩,
  ⟨some 2, (.alloc (.agg [(.int .i64 0), (.bool false), (.bool false), (.bool false), (.int .i64 0), (.int .i64 0), (.slc 0 [] true), (.slc 0 [] true), (.bool false), (.int .i64 0), (.int .i64 0), (.slc 0 [] true), (.slc 0 [] true), (.bool false), (.int .i64 0)])), [], none⟩]
def stat_Empty_r1 : List AOper := [
  ⟨some 3, (.load true 8), [.t 1], none⟩,
  ⟨some 4, (.bld [(.slc 0 [] true), (.slc 0 [] true), (.slc 0 [] true), (.slc 0 [] true), (.slc 0 [] true)] []), [], none⟩,
  ⟨some 5, (.call f_stat_Of), [.t 3, .t 4], none⟩,
  ⟨none, (.store 15), [.t 2, .t 5], none⟩]
def stat_Empty : AFunc := ⟨6, (.seq (.region stat_Empty_r0 [1, 2]) (.seq (.region stat_Empty_r1 [2]) .ret)), [.cell 2 true 15]⟩
def stat_Merge_r0 : List AOper := [
  ⟨some 3, (.box 8), [.t 0], none⟩,
  ⟨some 4, (.box 15), [.t 1], none⟩,
  ⟨some 5, (.box 15), [.t 2], none⟩,
  ⟨some 6, (.alloc (.agg [(.int .i64 0), (.bool false), (.bool false), (.bool false), (.int .i64 0), (.int .i64 0), (.slc 0 [] true), (.slc 0 [] true), (.bool false), (.int .i64 0), (.int .i64 0), (.slc 0 [] true), (.slc 0 [] true), (.bool false), (.int .i64 0)])), [], none⟩]
def stat_Merge_r1 : List AOper := [
  ⟨some 10, (.fad 0), [.t 4], none⟩,
  ⟨some 11, (.load false 1), [.t 10], none⟩,
  ⟨some 12, (.fad 0), [.t 5], none⟩,
  ⟨some 13, (.load false 1), [.t 12], none⟩,
  ⟨some 14, (.bin .add), [.t 11, .t 13], none⟩,
  ⟨some 15, (.fad 1), [.t 4], none⟩,
  ⟨some 16, (.load false 1), [.t 15], none⟩,
  ⟨some 17, .mov, [.t 16], none⟩,
  ⟨some 18, (.fad 1), [.t 5], some (17, false)⟩,
  ⟨some 19, (.load false 1), [.t 18], some (17, false)⟩,
  ⟨some 20, .pick, [.t 17, .c (.bool true), .t 19], none⟩,
  ⟨some 21, (.fad 13), [.t 4], none⟩,
  ⟨some 22, (.load false 1), [.t 21], none⟩,
  ⟨some 23, .mov, [.t 22], none⟩,
  ⟨some 24, (.fad 13), [.t 5], some (23, true)⟩,
  ⟨some 25, (.load false 1), [.t 24], some (23, true)⟩,
  ⟨some 26, .pick, [.t 23, .t 25, .c (.bool false)], none⟩,
  ⟨some 27, (.bld [(.int .i64 0), (.bool false), (.bool false), (.bool false), (.int .i64 0), (.int .i64 0), (.slc 0 [] true), (.slc 0 [] true), (.bool false), (.int .i64 0), (.int .i64 0), (.slc 0 [] true), (.slc 0 [] true), (.bool false), (.int .i64 0)] [(0, 1), (1, 1), (13, 1)]), [.t 14, .t 20, .t 26], none⟩,
  ⟨some 7, (.alloc (.agg [(.int .i64 0), (.bool false), (.bool false), (.bool false), (.int .i64 0), (.int .i64 0), (.slc 0 [] true), (.slc 0 [] true), (.bool false), (.int .i64 0), (.int .i64 0), (.slc 0 [] true), (.slc 0 [] true), (.bool false), (.int .i64 0)])), [], none⟩,
  ⟨none, (.store 15), [.t 7, .t 27], none⟩]
def stat_Merge_r2 : List AOper := [
  ⟨some 28, (.fad 13), [.t 7], none⟩,
  ⟨some 29, (.load false 1), [.t 28], none⟩]
def stat_Merge_r3 : List AOper := [
  ⟨some 30, (.fad 14), [.t 4], none⟩,
  ⟨some 31, (.load false 1), [.t 30], none⟩,
  ⟨some 32, (.call f_stat_Stats_more), [.t 7, .t 31], none⟩]
def stat_Merge_r4 : List AOper := [
  ⟨some 33, (.fad 14), [.t 5], none⟩,
  ⟨some 34, (.load false 1), [.t 33], none⟩,
  ⟨some 35, (.call f_stat_Stats_more), [.t 7, .t 34], none⟩]
def stat_Merge_r5 : List AOper := [
  ⟨some 36, (.load true 15), [.t 4], none⟩,
  ⟨some 37, (.load true 15), [.t 5], none⟩,
  ⟨some 38, (.bsl 15), [.t 36, .t 37], none⟩,
  ⟨some 39, .lens, [.t 38], none⟩,
  ⟨some 40, .mov, [.c (.int .i64 0)], none⟩]
def stat_Merge_r6 : List AOper := [
  ⟨some 41, (.bin .lss), [.t 40, .t 39], none⟩]
def stat_Merge_r7 : List AOper := [
  ⟨some 42, (.iad 15), [.t 38, .t 40], none⟩,
  ⟨some 43, (.load true 15), [.t 42], none⟩,
  ⟨some 9, (.alloc (.agg [(.int .i64 0), (.bool false), (.bool false), (.bool false), (.int .i64 0), (.int .i64 0), (.slc 0 [] true), (.slc 0 [] true), (.bool false), (.int .i64 0), (.int .i64 0), (.slc 0 [] true), (.slc 0 [] true), (.bool false), (.int .i64 0)])), [], none⟩,
  ⟨none, (.store 15), [.t 9, .t 43], none⟩]
def stat_Merge_r8 : List AOper := [
  ⟨some 44, (.fad 2), [.t 9], none⟩,
  ⟨some 45, (.load false 1), [.t 44], none⟩]
def stat_Merge_r9 : List AOper := [
  ⟨some 46, (.load true 8), [.t 3], none⟩,
  ⟨some 47, (.fad 3), [.t 9], none⟩,
  ⟨some 48, (.load true 5), [.t 47], none⟩,
  ⟨some 49, (.fad 8), [.t 9], none⟩,
  ⟨some 50, (.load true 5), [.t 49], none⟩,
  ⟨some 51, (.call f_stat_Stats_span), [.t 7, .t 46, .t 48, .t 50], none⟩]
def stat_Merge_r10 : List AOper := [
  ⟨some 52, (.bin .add), [.t 40, .c (.int .i64 1)], none⟩,
  ⟨some 40, .mov, [.t 52], none⟩]
def stat_Merge_l0 : ACode := (.seq (.region stat_Merge_r6 [3, 6, 7, 38, 39, 40, 41]) (.seq (.cond (.t 41) .skip (.exit 0)) (.seq (.block 1 (.seq (.region stat_Merge_r7 [3, 6, 7, 9, 38, 39, 40]) (.seq (.region stat_Merge_r8 [3, 6, 7, 9, 38, 39, 40, 45]) (.cond (.t 45) (.region stat_Merge_r9 [3, 6, 7, 38, 39, 40]) .skip)))) (.region stat_Merge_r10 [3, 6, 7, 38, 39, 40]))))
def stat_Merge_r11 : List AOper := [
  ⟨some 53, (.load true 15), [.t 7], none⟩,
  ⟨none, (.store 15), [.t 6, .t 53], none⟩]
def stat_Merge : AFunc := ⟨54, (.seq (.region stat_Merge_r0 [3, 4, 5, 6, 18, 19, 24, 25]) (.seq (.region stat_Merge_r1 [3, 4, 5, 6, 7]) (.seq (.seq (.region stat_Merge_r2 [3, 4, 5, 6, 7, 29]) (.cond (.t 29) (.seq (.region stat_Merge_r3 [3, 4, 5, 6, 7]) (.region stat_Merge_r4 [3, 4, 5, 6, 7])) .skip)) (.seq (.seq (.region stat_Merge_r5 [3, 6, 7, 38, 39, 40]) (.block 0 (.loop stat_Merge_l0))) (.seq (.region stat_Merge_r11 [6]) .ret))))), [.cell 6 true 15]⟩
def ingotref1_Add_r0 : List AOper := [
  ⟨some 4, .mov, [.c (.int .i64 0)], none⟩,
  ⟨some 5, .mov, [.c (.bool false)], none⟩]
def ingotref1_Add_r1 : List AOper := [
  ⟨some 6, .mov, [.t 1], none⟩,
  ⟨some 7, (.bin .gtr), [.t 6, .c (.int .i64 0)], none⟩,
  ⟨some 8, .mov, [.t 7], none⟩,
  ⟨some 9, .mov, [.t 0], some (8, true)⟩,
  ⟨some 10, .mov, [.t 1], some (8, true)⟩,
  ⟨some 11, (.bin .sub), [.c (.int .i64 9223372036854775807), .t 10], some (8, true)⟩,
  ⟨some 12, (.bin .gtr), [.t 9, .t 11], some (8, true)⟩,
  ⟨some 13, .pick, [.t 8, .t 12, .c (.bool false)], none⟩,
  ⟨some 14, .mov, [.t 13], none⟩,
  ⟨some 15, .mov, [.t 1], some (14, false)⟩,
  ⟨some 16, (.bin .lss), [.t 15, .c (.int .i64 0)], some (14, false)⟩,
  ⟨some 17, .mov, [.t 16], some (14, false)⟩,
  ⟨some 18, .mov, [.t 0], some (17, true)⟩,
  ⟨some 19, .mov, [.t 1], some (17, true)⟩,
  ⟨some 20, (.bin .sub), [.c (.int .i64 (-9223372036854775808)), .t 19], some (17, true)⟩,
  ⟨some 21, (.bin .lss), [.t 18, .t 20], some (17, true)⟩,
  ⟨some 22, .pick, [.t 17, .t 21, .c (.bool false)], some (14, false)⟩,
  ⟨some 23, .pick, [.t 14, .c (.bool true), .t 22], none⟩]
def ingotref1_Add_r2 : List AOper := [
  ⟨some 4, .mov, [.c (.int .i64 0)], none⟩,
  ⟨some 5, .mov, [.c (.bool false)], none⟩]
def ingotref1_Add_r3 : List AOper := [
  ⟨some 24, .mov, [.t 0], none⟩,
  ⟨some 25, .mov, [.t 1], none⟩,
  ⟨some 26, (.bin .add), [.t 24, .t 25], none⟩,
  ⟨some 4, .mov, [.t 26], none⟩,
  ⟨some 5, .mov, [.c (.bool true)], none⟩]
def ingotref1_Add : AFunc := ⟨27, (.seq (.region ingotref1_Add_r0 [0, 1, 9, 10, 11, 12, 15, 16, 17, 18, 19, 20, 21, 22]) (.seq (.seq (.region ingotref1_Add_r1 [0, 1, 23]) (.cond (.t 23) (.seq (.region ingotref1_Add_r2 [4, 5]) .ret) .skip)) (.seq (.region ingotref1_Add_r3 [4, 5]) .ret))), [.t 4, .t 5]⟩
def stat_Same_r0 : List AOper := [
  ⟨some 2, (.box 15), [.t 0], none⟩,
  ⟨some 3, (.box 15), [.t 1], none⟩,
  ⟨some 4, .mov, [.c (.bool false)], none⟩]
def stat_Same_r1 : List AOper := [
  ⟨some 5, (.fad 0), [.t 2], none⟩,
  ⟨some 6, (.load false 1), [.t 5], none⟩,
  ⟨some 7, (.fad 0), [.t 3], none⟩,
  ⟨some 8, (.load false 1), [.t 7], none⟩,
  ⟨some 9, (.bin .eql), [.t 6, .t 8], none⟩,
  ⟨some 10, .mov, [.t 9], none⟩,
  ⟨some 11, (.fad 1), [.t 2], some (10, true)⟩,
  ⟨some 12, (.load false 1), [.t 11], some (10, true)⟩,
  ⟨some 13, (.fad 1), [.t 3], some (10, true)⟩,
  ⟨some 14, (.load false 1), [.t 13], some (10, true)⟩,
  ⟨some 15, (.binb .eql), [.t 12, .t 14], some (10, true)⟩,
  ⟨some 16, .pick, [.t 10, .t 15, .c (.bool false)], none⟩,
  ⟨some 17, .mov, [.t 16], none⟩,
  ⟨some 18, (.fad 2), [.t 2], some (17, true)⟩,
  ⟨some 19, (.load false 1), [.t 18], some (17, true)⟩,
  ⟨some 20, (.fad 2), [.t 3], some (17, true)⟩,
  ⟨some 21, (.load false 1), [.t 20], some (17, true)⟩,
  ⟨some 22, (.binb .eql), [.t 19, .t 21], some (17, true)⟩,
  ⟨some 23, .pick, [.t 17, .t 22, .c (.bool false)], none⟩,
  ⟨some 24, .mov, [.t 23], none⟩,
  ⟨some 25, (.fad 3), [.t 2], some (24, true)⟩,
  ⟨some 26, (.load true 5), [.t 25], some (24, true)⟩,
  ⟨some 27, (.fad 3), [.t 3], some (24, true)⟩,
  ⟨some 28, (.load true 5), [.t 27], some (24, true)⟩,
  ⟨some 29, (.call f_stat_same), [.t 26, .t 28], some (24, true)⟩,
  ⟨some 30, .pick, [.t 24, .t 29, .c (.bool false)], none⟩,
  ⟨some 31, .mov, [.t 30], none⟩,
  ⟨some 32, (.fad 8), [.t 2], some (31, true)⟩,
  ⟨some 33, (.load true 5), [.t 32], some (31, true)⟩,
  ⟨some 34, (.fad 8), [.t 3], some (31, true)⟩,
  ⟨some 35, (.load true 5), [.t 34], some (31, true)⟩,
  ⟨some 36, (.call f_stat_same), [.t 33, .t 35], some (31, true)⟩,
  ⟨some 37, .pick, [.t 31, .t 36, .c (.bool false)], none⟩,
  ⟨some 38, .mov, [.t 37], none⟩,
  ⟨some 39, (.fad 13), [.t 2], some (38, true)⟩,
  ⟨some 40, (.load false 1), [.t 39], some (38, true)⟩,
  ⟨some 41, (.fad 13), [.t 3], some (38, true)⟩,
  ⟨some 42, (.load false 1), [.t 41], some (38, true)⟩,
  ⟨some 43, (.binb .eql), [.t 40, .t 42], some (38, true)⟩,
  ⟨some 44, .pick, [.t 38, .t 43, .c (.bool false)], none⟩,
  ⟨some 45, .mov, [.t 44], none⟩,
  ⟨some 46, (.fad 14), [.t 2], some (45, true)⟩,
  ⟨some 47, (.load false 1), [.t 46], some (45, true)⟩,
  ⟨some 48, (.fad 14), [.t 3], some (45, true)⟩,
  ⟨some 49, (.load false 1), [.t 48], some (45, true)⟩,
  ⟨some 50, (.bin .eql), [.t 47, .t 49], some (45, true)⟩,
  ⟨some 51, .pick, [.t 45, .t 50, .c (.bool false)], none⟩,
  ⟨some 4, .mov, [.t 51], none⟩]
def stat_Same : AFunc := ⟨52, (.seq (.region stat_Same_r0 [2, 3, 11, 12, 13, 14, 15, 18, 19, 20, 21, 22, 25, 26, 27, 28, 29, 32, 33, 34, 35, 36, 39, 40, 41, 42, 43, 46, 47, 48, 49, 50]) (.seq (.region stat_Same_r1 [4]) .ret)), [.t 4]⟩
def stat_adds_r0 : List AOper := [
  ⟨some 2, .mov, [.c (.bool false)], none⟩]
def stat_adds_r1 : List AOper := [
  ⟨some 3, .mov, [.t 0], none⟩]
def stat_adds_r2 : List AOper := [
  ⟨some 5, (.bin .eql), [.t 3, .c (.int .i64 0)], none⟩,
  ⟨some 4, .mov, [.t 5], none⟩]
def stat_adds_r3 : List AOper := [
  ⟨some 6, (.bin .eql), [.t 3, .c (.int .i64 1)], none⟩,
  ⟨some 4, .mov, [.t 6], none⟩]
def stat_adds_r4 : List AOper := [
  ⟨some 7, (.bin .eql), [.t 3, .c (.int .i64 2)], none⟩,
  ⟨some 4, .mov, [.t 7], none⟩]
def stat_adds_r5 : List AOper := [
  ⟨some 8, (.bin .eql), [.t 3, .c (.int .i64 3)], none⟩,
  ⟨some 4, .mov, [.t 8], none⟩]
def stat_adds_r6 : List AOper := [
  ⟨some 9, (.bin .eql), [.t 3, .c (.int .i64 4)], none⟩,
  ⟨some 4, .mov, [.t 9], none⟩]
def stat_adds_r7 : List AOper := [
  ⟨some 11, (.bin .eql), [.t 3, .c (.int .i64 7)], none⟩,
  ⟨some 10, .mov, [.t 11], none⟩]
def stat_adds_r8 : List AOper := [
  ⟨some 12, (.bin .eql), [.t 3, .c (.int .i64 16)], none⟩,
  ⟨some 10, .mov, [.t 12], none⟩]
def stat_adds_r9 : List AOper := [
  ⟨some 13, (.bin .eql), [.t 3, .c (.int .i64 17)], none⟩,
  ⟨some 10, .mov, [.t 13], none⟩]
def stat_adds_r10 : List AOper := [
  ⟨some 14, (.bin .eql), [.t 3, .c (.int .i64 8)], none⟩,
  ⟨some 10, .mov, [.t 14], none⟩]
def stat_adds_r11 : List AOper := [
  ⟨some 16, (.bin .eql), [.t 3, .c (.int .i64 14)], none⟩,
  ⟨some 15, .mov, [.t 16], none⟩]
def stat_adds_r12 : List AOper := [
  ⟨some 2, .mov, [.c (.bool true)], none⟩]
def stat_adds_r13 : List AOper := [
  ⟨some 2, .mov, [.c (.bool false)], none⟩]
def stat_adds : AFunc := ⟨17, (.seq (.region stat_adds_r0 [0]) (.seq (.seq (.region stat_adds_r1 [3]) (.block 0 (.seq (.block 3 (.block 2 (.block 1 (.seq (.seq (.seq (.seq (.region stat_adds_r2 [3, 4]) (.cond (.t 4) .skip (.seq (.region stat_adds_r3 [3, 4]) (.cond (.t 4) .skip (.seq (.region stat_adds_r4 [3, 4]) (.cond (.t 4) .skip (.seq (.region stat_adds_r5 [3, 4]) (.cond (.t 4) .skip (.region stat_adds_r6 [3, 4]))))))))) (.cond (.t 4) (.exit 1) .skip)) (.seq (.seq (.seq (.region stat_adds_r7 [3, 10]) (.cond (.t 10) .skip (.seq (.region stat_adds_r8 [3, 10]) (.cond (.t 10) .skip (.seq (.region stat_adds_r9 [3, 10]) (.cond (.t 10) .skip (.region stat_adds_r10 [3, 10]))))))) (.cond (.t 10) (.exit 2) .skip)) (.seq (.region stat_adds_r11 [15]) (.cond (.t 15) (.exit 3) .skip)))) (.exit 0))))) (.seq (.seq (.region stat_adds_r12 [2]) .ret) (.exit 0))))) (.seq (.region stat_adds_r13 [2]) .ret))), [.t 2]⟩
def stat_ranges_r0 : List AOper := [
  ⟨some 2, .mov, [.c (.bool false)], none⟩]
def stat_ranges_r1 : List AOper := [
  ⟨some 3, .mov, [.t 0], none⟩,
  ⟨some 4, (.call f_types_Leaf), [.t 3], none⟩,
  ⟨some 5, .mov, [.t 4], none⟩,
  ⟨some 6, .mov, [.t 0], some (5, true)⟩,
  ⟨some 7, (.bin .neq), [.t 6, .c (.int .i64 0)], some (5, true)⟩,
  ⟨some 8, .pick, [.t 5, .t 7, .c (.bool false)], none⟩,
  ⟨some 9, .mov, [.t 8], none⟩,
  ⟨some 10, .mov, [.t 0], some (9, true)⟩,
  ⟨some 11, (.bin .neq), [.t 10, .c (.int .i64 8)], some (9, true)⟩,
  ⟨some 12, .pick, [.t 9, .t 11, .c (.bool false)], none⟩,
  ⟨some 2, .mov, [.t 12], none⟩]
def stat_ranges : AFunc := ⟨13, (.seq (.region stat_ranges_r0 [0, 6, 7, 10, 11]) (.seq (.region stat_ranges_r1 [2]) .ret)), [.t 2]⟩
def stat_Stats_span_r0 : List AOper := [
  ⟨some 5, (.box 8), [.t 1], none⟩,
  ⟨some 6, (.box 5), [.t 2], none⟩,
  ⟨some 7, (.box 5), [.t 3], none⟩]
def stat_Stats_span_r1 : List AOper := [
  ⟨some 13, (.fad 0), [.t 5], none⟩,
  ⟨some 14, (.load false 1), [.t 13], none⟩,
  ⟨some 15, (.bld [(.int .i64 0), (.slc 0 [] true), (.slc 0 [] true), (.int .i64 0), (.int .i64 0), (.int .i64 0)] [(0, 1)]), [.t 14], none⟩,
  ⟨some 8, (.alloc (.agg [(.int .i64 0), (.slc 0 [] true), (.slc 0 [] true), (.int .i64 0), (.int .i64 0), (.int .i64 0)])), [], none⟩,
  ⟨none, (.store 6), [.t 8, .t 15], none⟩]
def stat_Stats_span_r2 : List AOper := [
  ⟨some 17, (.load true 6), [.t 8], none⟩,
  ⟨some 18, (.load true 5), [.t 6], none⟩,
  ⟨some 19, .mov, [.t 0], none⟩,
  ⟨some 20, .nilc, [.t 19], none⟩,
  ⟨some 21, (.fad 3), [.t 20], none⟩,
  ⟨some 22, (.load true 5), [.t 21], none⟩,
  ⟨some 23, (.call f_value_Compare), [.t 17, .t 18, .t 22], none⟩,
  ⟨some 16, .mov, [.t 23], none⟩,
  ⟨some 24, (.ext 0), [.t 16], none⟩,
  ⟨some 25, (.ext 1), [.t 16], none⟩,
  ⟨some 9, .mov, [.t 24], none⟩,
  ⟨some 10, .mov, [.t 25], none⟩]
def stat_Stats_span_r3 : List AOper := [
  ⟨some 26, .mov, [.t 0], none⟩,
  ⟨some 27, .nilc, [.t 26], none⟩,
  ⟨some 28, (.fad 2), [.t 27], none⟩,
  ⟨some 29, (.load false 1), [.t 28], none⟩,
  ⟨some 30, .unot, [.t 29], none⟩,
  ⟨some 31, .mov, [.t 30], none⟩,
  ⟨some 32, .mov, [.t 9], some (31, false)⟩,
  ⟨some 33, (.bin .lss), [.t 32, .c (.int .i64 0)], some (31, false)⟩,
  ⟨some 34, .pick, [.t 31, .c (.bool true), .t 33], none⟩]
def stat_Stats_span_r4 : List AOper := [
  ⟨some 35, .mov, [.t 0], none⟩,
  ⟨some 36, (.load true 5), [.t 6], none⟩,
  ⟨some 37, (.call f_value_Clone), [.t 36], none⟩,
  ⟨some 38, .nilc, [.t 35], none⟩,
  ⟨some 39, (.fad 3), [.t 38], none⟩,
  ⟨none, (.store 5), [.t 39, .t 37], none⟩]
def stat_Stats_span_r5 : List AOper := [
  ⟨some 41, (.load true 6), [.t 8], none⟩,
  ⟨some 42, (.load true 5), [.t 7], none⟩,
  ⟨some 43, .mov, [.t 0], none⟩,
  ⟨some 44, .nilc, [.t 43], none⟩,
  ⟨some 45, (.fad 8), [.t 44], none⟩,
  ⟨some 46, (.load true 5), [.t 45], none⟩,
  ⟨some 47, (.call f_value_Compare), [.t 41, .t 42, .t 46], none⟩,
  ⟨some 40, .mov, [.t 47], none⟩,
  ⟨some 48, (.ext 0), [.t 40], none⟩,
  ⟨some 49, (.ext 1), [.t 40], none⟩,
  ⟨some 11, .mov, [.t 48], none⟩,
  ⟨some 12, .mov, [.t 49], none⟩]
def stat_Stats_span_r6 : List AOper := [
  ⟨some 50, .mov, [.t 0], none⟩,
  ⟨some 51, .nilc, [.t 50], none⟩,
  ⟨some 52, (.fad 2), [.t 51], none⟩,
  ⟨some 53, (.load false 1), [.t 52], none⟩,
  ⟨some 54, .unot, [.t 53], none⟩,
  ⟨some 55, .mov, [.t 54], none⟩,
  ⟨some 56, .mov, [.t 11], some (55, false)⟩,
  ⟨some 57, (.bin .gtr), [.t 56, .c (.int .i64 0)], some (55, false)⟩,
  ⟨some 58, .pick, [.t 55, .c (.bool true), .t 57], none⟩]
def stat_Stats_span_r7 : List AOper := [
  ⟨some 59, .mov, [.t 0], none⟩,
  ⟨some 60, (.load true 5), [.t 7], none⟩,
  ⟨some 61, (.call f_value_Clone), [.t 60], none⟩,
  ⟨some 62, .nilc, [.t 59], none⟩,
  ⟨some 63, (.fad 8), [.t 62], none⟩,
  ⟨none, (.store 5), [.t 63, .t 61], none⟩]
def stat_Stats_span_r8 : List AOper := [
  ⟨some 64, .mov, [.t 0], none⟩,
  ⟨some 65, .nilc, [.t 64], none⟩,
  ⟨some 66, (.fad 2), [.t 65], none⟩,
  ⟨none, (.store 1), [.t 66, .c (.bool true)], none⟩]
def stat_Stats_span : AFunc := ⟨67, (.seq (.region stat_Stats_span_r0 [0, 5, 6, 7, 32, 33, 56, 57]) (.seq (.region stat_Stats_span_r1 [0, 6, 7, 8, 32, 33, 56, 57]) (.seq (.seq (.region stat_Stats_span_r2 [0, 6, 7, 8, 9, 32, 33, 56, 57]) (.seq (.region stat_Stats_span_r3 [0, 6, 7, 8, 34, 56, 57]) (.cond (.t 34) (.region stat_Stats_span_r4 [0, 7, 8, 56, 57]) .skip))) (.seq (.seq (.region stat_Stats_span_r5 [0, 7, 11, 56, 57]) (.seq (.region stat_Stats_span_r6 [0, 7, 58]) (.cond (.t 58) (.region stat_Stats_span_r7 [0]) .skip))) (.region stat_Stats_span_r8 []))))), []⟩
def stat_Stats_more_r0 : List AOper := [
  ⟨some 4, .mov, [.t 0], none⟩,
  ⟨some 5, .nilc, [.t 4], none⟩,
  ⟨some 6, (.fad 13), [.t 5], none⟩,
  ⟨some 7, (.load false 1), [.t 6], none⟩,
  ⟨some 8, .unot, [.t 7], none⟩]
def stat_Stats_more_r1 : List AOper := [
  ⟨some 10, .mov, [.t 0], none⟩,
  ⟨some 11, .mov, [.t 0], none⟩,
  ⟨some 12, .mov, [.t 0], none⟩,
  ⟨some 13, .nilc, [.t 12], none⟩,
  ⟨some 14, (.fad 14), [.t 13], none⟩,
  ⟨some 15, (.load false 1), [.t 14], none⟩,
  ⟨some 16, .mov, [.t 1], none⟩,
  ⟨some 17, (.call f_nums_Add), [.t 15, .t 16], none⟩,
  ⟨some 9, .mov, [.t 17], none⟩,
  ⟨some 18, (.ext 0), [.t 9], none⟩,
  ⟨some 19, (.ext 1), [.t 9], none⟩,
  ⟨some 20, .nilc, [.t 10], none⟩,
  ⟨some 21, (.fad 14), [.t 20], none⟩,
  ⟨none, (.store 1), [.t 21, .t 18], none⟩,
  ⟨some 22, .nilc, [.t 11], none⟩,
  ⟨some 23, (.fad 13), [.t 22], none⟩,
  ⟨none, (.store 1), [.t 23, .t 19], none⟩]
def stat_Stats_more : AFunc := ⟨24, (.seq (.seq (.region stat_Stats_more_r0 [0, 1, 8]) (.cond (.t 8) .ret .skip)) (.region stat_Stats_more_r1 [])), []⟩
def stat_same_r0 : List AOper := [
  ⟨some 2, (.box 5), [.t 0], none⟩,
  ⟨some 3, (.box 5), [.t 1], none⟩,
  ⟨some 4, .mov, [.c (.bool false)], none⟩]
def stat_same_r1 : List AOper := [
  ⟨some 5, (.fad 0), [.t 2], none⟩,
  ⟨some 6, (.load false 1), [.t 5], none⟩,
  ⟨some 7, (.fad 0), [.t 3], none⟩,
  ⟨some 8, (.load false 1), [.t 7], none⟩,
  ⟨some 9, (.binb .eql), [.t 6, .t 8], none⟩,
  ⟨some 10, .mov, [.t 9], none⟩,
  ⟨some 11, (.fad 1), [.t 2], some (10, true)⟩,
  ⟨some 12, (.load false 1), [.t 11], some (10, true)⟩,
  ⟨some 13, (.fad 1), [.t 3], some (10, true)⟩,
  ⟨some 14, (.load false 1), [.t 13], some (10, true)⟩,
  ⟨some 15, (.bin .eql), [.t 12, .t 14], some (10, true)⟩,
  ⟨some 16, .pick, [.t 10, .t 15, .c (.bool false)], none⟩,
  ⟨some 17, .mov, [.t 16], none⟩,
  ⟨some 18, (.fad 2), [.t 2], some (17, true)⟩,
  ⟨some 19, (.load false 1), [.t 18], some (17, true)⟩,
  ⟨some 20, (.fad 2), [.t 3], some (17, true)⟩,
  ⟨some 21, (.load false 1), [.t 20], some (17, true)⟩,
  ⟨some 22, (.bin .eql), [.t 19, .t 21], some (17, true)⟩,
  ⟨some 23, .pick, [.t 17, .t 22, .c (.bool false)], none⟩,
  ⟨some 24, .mov, [.t 23], none⟩,
  ⟨some 25, (.fad 3), [.t 2], some (24, true)⟩,
  ⟨some 26, (.load false 1), [.t 25], some (24, true)⟩,
  ⟨some 27, (.fad 3), [.t 3], some (24, true)⟩,
  ⟨some 28, (.load false 1), [.t 27], some (24, true)⟩,
  ⟨some 29, (.call f_bytes_Equal), [.t 26, .t 28], some (24, true)⟩,
  ⟨some 30, .pick, [.t 24, .t 29, .c (.bool false)], none⟩,
  ⟨some 31, .mov, [.t 30], none⟩,
  ⟨some 32, (.fad 4), [.t 2], some (31, true)⟩,
  ⟨some 33, (.load false 1), [.t 32], some (31, true)⟩,
  ⟨some 34, .lens, [.t 33], some (31, true)⟩,
  ⟨some 35, (.fad 4), [.t 3], some (31, true)⟩,
  ⟨some 36, (.load false 1), [.t 35], some (31, true)⟩,
  ⟨some 37, .lens, [.t 36], some (31, true)⟩,
  ⟨some 38, (.bin .eql), [.t 34, .t 37], some (31, true)⟩,
  ⟨some 39, .pick, [.t 31, .t 38, .c (.bool false)], none⟩,
  ⟨some 4, .mov, [.t 39], none⟩]
def stat_same : AFunc := ⟨40, (.seq (.region stat_same_r0 [2, 3, 11, 12, 13, 14, 15, 18, 19, 20, 21, 22, 25, 26, 27, 28, 29, 32, 33, 34, 35, 36, 37, 38]) (.seq (.region stat_same_r1 [4]) .ret)), [.t 4]⟩
def nums_Add_r0 : List AOper := [
  ⟨some 4, .mov, [.c (.int .i64 0)], none⟩,
  ⟨some 5, .mov, [.c (.bool false)], none⟩]
def nums_Add_r1 : List AOper := [
  ⟨some 7, .mov, [.t 0], none⟩,
  ⟨some 8, .mov, [.t 1], none⟩,
  ⟨some 9, (.bin .add), [.t 7, .t 8], none⟩,
  ⟨some 6, .mov, [.t 9], none⟩]
def nums_Add_r2 : List AOper := [
  ⟨some 10, .mov, [.t 6], none⟩,
  ⟨some 11, .mov, [.t 0], none⟩,
  ⟨some 12, (.bin .gtr), [.t 10, .t 11], none⟩,
  ⟨some 13, .mov, [.t 1], none⟩,
  ⟨some 14, (.bin .gtr), [.t 13, .c (.int .i64 0)], none⟩,
  ⟨some 15, (.binb .neq), [.t 12, .t 14], none⟩,
  ⟨some 16, .mov, [.t 15], none⟩,
  ⟨some 17, .mov, [.t 1], some (16, true)⟩,
  ⟨some 18, (.bin .neq), [.t 17, .c (.int .i64 0)], some (16, true)⟩,
  ⟨some 19, .pick, [.t 16, .t 18, .c (.bool false)], none⟩]
def nums_Add_r3 : List AOper := [
  ⟨some 4, .mov, [.c (.int .i64 0)], none⟩,
  ⟨some 5, .mov, [.c (.bool false)], none⟩]
def nums_Add_r4 : List AOper := [
  ⟨some 20, .mov, [.t 6], none⟩,
  ⟨some 4, .mov, [.t 20], none⟩,
  ⟨some 5, .mov, [.c (.bool true)], none⟩]
def nums_Add : AFunc := ⟨21, (.seq (.region nums_Add_r0 [0, 1, 17, 18]) (.seq (.region nums_Add_r1 [0, 1, 6, 17, 18]) (.seq (.seq (.region nums_Add_r2 [6, 19]) (.cond (.t 19) (.seq (.region nums_Add_r3 [4, 5]) .ret) .skip)) (.seq (.region nums_Add_r4 [4, 5]) .ret)))), [.t 4, .t 5]⟩
def bytes_Equal_r0 : List AOper := [
  ⟨some 4, .mov, [.c (.bool false)], none⟩]
def bytes_Equal_r1 : List AOper := [
  ⟨some 5, .mov, [.t 0], none⟩,
  ⟨some 6, .b2s, [.t 5], none⟩,
  ⟨some 7, .mov, [.t 1], none⟩,
  ⟨some 8, .b2s, [.t 7], none⟩,
  ⟨some 9, (.bin .eql), [.t 6, .t 8], none⟩,
  ⟨some 4, .mov, [.t 9], none⟩]
def bytes_Equal : AFunc := ⟨10, (.seq (.region bytes_Equal_r0 [0, 1]) (.seq (.region bytes_Equal_r1 [4]) .ret)), [.t 4]⟩
end Go.Abs
namespace Go.Abs
open Go Go.Proofs
theorem flat_Has_ok : compF Try.prog [] f_flat_Has = some flat_Has.erase := by kernel_rfl
theorem ingotref15_Has_ok : compF Try.prog [] f_ingotref15_Has = some ingotref15_Has.erase := by kernel_rfl
theorem slices_Contains_bool_bool_ok : compF Try.prog [] f_slices_Contains_bool_bool = some slices_Contains_bool_bool.erase := by kernel_rfl
theorem slices_Index_bool_bool_ok : compF Try.prog [] f_slices_Index_bool_bool = some slices_Index_bool_bool.erase := by kernel_rfl
theorem ingotlaw15_To_ok : compF Try.prog [] f_ingotlaw15_To = some ingotlaw15_To.erase := by kernel_rfl
theorem ingotlaw16_Of_ok : compF Try.prog [] f_ingotlaw16_Of = some ingotlaw16_Of.erase := by kernel_rfl
theorem stat_Of_ok : compF Try.prog [(1, 4), (1, 1)] f_stat_Of = some stat_Of.erase := by kernel_rfl
theorem stat_Empty_ok : compF Try.prog [] f_stat_Empty = some stat_Empty.erase := by kernel_rfl
theorem stat_Merge_ok : compF Try.prog [] f_stat_Merge = some stat_Merge.erase := by kernel_rfl
theorem ingotref1_Add_ok : compF Try.prog [] f_ingotref1_Add = some ingotref1_Add.erase := by kernel_rfl
theorem stat_Same_ok : compF Try.prog [] f_stat_Same = some stat_Same.erase := by kernel_rfl
theorem stat_adds_ok : compF Try.prog [] f_stat_adds = some stat_adds.erase := by kernel_rfl
theorem stat_ranges_ok : compF Try.prog [] f_stat_ranges = some stat_ranges.erase := by kernel_rfl
theorem stat_Stats_span_ok : compF Try.prog [] f_stat_Stats_span = some stat_Stats_span.erase := by kernel_rfl
theorem stat_Stats_more_ok : compF Try.prog [] f_stat_Stats_more = some stat_Stats_more.erase := by kernel_rfl
theorem stat_same_ok : compF Try.prog [] f_stat_same = some stat_same.erase := by kernel_rfl
theorem nums_Add_ok : compF Try.prog [] f_nums_Add = some nums_Add.erase := by kernel_rfl
theorem bytes_Equal_ok : compF Try.prog [] f_bytes_Equal = some bytes_Equal.erase := by kernel_rfl
end Go.Abs
/- Contracts: sums, and which kinds have what (stat, nums). -/
namespace Go.Abs
open Go Go.Proofs
set_option linter.unusedVariables false
set_option linter.unusedSimpArgs false
set_option maxHeartbeats 4000000
attribute [local irreducible] AWp aops KP

def addsF (k : Int) : Bool := decide (k = 0) || decide (k = 1) || decide (k = 2) || decide (k = 3) || decide (k = 4) || decide (k = 7) || decide (k = 16) || decide (k = 17) || decide (k = 8) || decide (k = 14)
def rangesF (k : Int) : Bool := leafF k && (decide (k ≠ 0) && decide (k ≠ 8))
/-- A sum, where it is a number. -/
def addF (a b : Int) : Int × Bool := if -9223372036854775808 ≤ a + b ∧ a + b ≤ 9223372036854775807 then (a + b, true) else (0, false)

theorem c_adds (k : Int) (σ : AHeap) : ACalls Try.prog f_stat_adds [.int .i64 k] σ fun r σ' => r = .bool (addsF k) ∧ σ' = σ := by
  refine acalls_enter rfl stat_adds_ok (Nat.le_of_ble_eq_true rfl) ?_
  by_cases h0 : k = 0
  · subst h0; (repeat (first | refine st_q rfl rfl rfl ?_ | refine st_gy rfl (st_q rfl rfl rfl ?_) | refine st_gn rfl ?_ | refine st_gu rfl ?_ | (refine st_nil ?_; (repeat (first | refine kp_cons rfl ?_ | refine kp_skip ?_)); refine kp_nil ?_) | refine awp_seq ?_ | refine aw_end (fun _ _ => rfl) ?_ | refine awp_block ?_ | refine aw_skipE (fun _ _ => rfl) ?_ | refine aw_exitE (fun _ _ => rfl) ?_ | refine awp_cond (t := true) rfl (fun _ => ?_) (fun e => by cases e) | refine awp_cond (t := false) rfl (fun e => by cases e) (fun _ => ?_))); refine awp_ret ?_; exact ares rfl (HSub.refl _) ⟨rfl, rfl⟩
  by_cases h1 : k = 1
  · subst h1; (repeat (first | refine st_q rfl rfl rfl ?_ | refine st_gy rfl (st_q rfl rfl rfl ?_) | refine st_gn rfl ?_ | refine st_gu rfl ?_ | (refine st_nil ?_; (repeat (first | refine kp_cons rfl ?_ | refine kp_skip ?_)); refine kp_nil ?_) | refine awp_seq ?_ | refine aw_end (fun _ _ => rfl) ?_ | refine awp_block ?_ | refine aw_skipE (fun _ _ => rfl) ?_ | refine aw_exitE (fun _ _ => rfl) ?_ | refine awp_cond (t := true) rfl (fun _ => ?_) (fun e => by cases e) | refine awp_cond (t := false) rfl (fun e => by cases e) (fun _ => ?_))); refine awp_ret ?_; exact ares rfl (HSub.refl _) ⟨rfl, rfl⟩
  by_cases h2 : k = 2
  · subst h2; (repeat (first | refine st_q rfl rfl rfl ?_ | refine st_gy rfl (st_q rfl rfl rfl ?_) | refine st_gn rfl ?_ | refine st_gu rfl ?_ | (refine st_nil ?_; (repeat (first | refine kp_cons rfl ?_ | refine kp_skip ?_)); refine kp_nil ?_) | refine awp_seq ?_ | refine aw_end (fun _ _ => rfl) ?_ | refine awp_block ?_ | refine aw_skipE (fun _ _ => rfl) ?_ | refine aw_exitE (fun _ _ => rfl) ?_ | refine awp_cond (t := true) rfl (fun _ => ?_) (fun e => by cases e) | refine awp_cond (t := false) rfl (fun e => by cases e) (fun _ => ?_))); refine awp_ret ?_; exact ares rfl (HSub.refl _) ⟨rfl, rfl⟩
  by_cases h3 : k = 3
  · subst h3; (repeat (first | refine st_q rfl rfl rfl ?_ | refine st_gy rfl (st_q rfl rfl rfl ?_) | refine st_gn rfl ?_ | refine st_gu rfl ?_ | (refine st_nil ?_; (repeat (first | refine kp_cons rfl ?_ | refine kp_skip ?_)); refine kp_nil ?_) | refine awp_seq ?_ | refine aw_end (fun _ _ => rfl) ?_ | refine awp_block ?_ | refine aw_skipE (fun _ _ => rfl) ?_ | refine aw_exitE (fun _ _ => rfl) ?_ | refine awp_cond (t := true) rfl (fun _ => ?_) (fun e => by cases e) | refine awp_cond (t := false) rfl (fun e => by cases e) (fun _ => ?_))); refine awp_ret ?_; exact ares rfl (HSub.refl _) ⟨rfl, rfl⟩
  by_cases h4 : k = 4
  · subst h4; (repeat (first | refine st_q rfl rfl rfl ?_ | refine st_gy rfl (st_q rfl rfl rfl ?_) | refine st_gn rfl ?_ | refine st_gu rfl ?_ | (refine st_nil ?_; (repeat (first | refine kp_cons rfl ?_ | refine kp_skip ?_)); refine kp_nil ?_) | refine awp_seq ?_ | refine aw_end (fun _ _ => rfl) ?_ | refine awp_block ?_ | refine aw_skipE (fun _ _ => rfl) ?_ | refine aw_exitE (fun _ _ => rfl) ?_ | refine awp_cond (t := true) rfl (fun _ => ?_) (fun e => by cases e) | refine awp_cond (t := false) rfl (fun e => by cases e) (fun _ => ?_))); refine awp_ret ?_; exact ares rfl (HSub.refl _) ⟨rfl, rfl⟩
  by_cases h7 : k = 7
  · subst h7; (repeat (first | refine st_q rfl rfl rfl ?_ | refine st_gy rfl (st_q rfl rfl rfl ?_) | refine st_gn rfl ?_ | refine st_gu rfl ?_ | (refine st_nil ?_; (repeat (first | refine kp_cons rfl ?_ | refine kp_skip ?_)); refine kp_nil ?_) | refine awp_seq ?_ | refine aw_end (fun _ _ => rfl) ?_ | refine awp_block ?_ | refine aw_skipE (fun _ _ => rfl) ?_ | refine aw_exitE (fun _ _ => rfl) ?_ | refine awp_cond (t := true) rfl (fun _ => ?_) (fun e => by cases e) | refine awp_cond (t := false) rfl (fun e => by cases e) (fun _ => ?_))); refine awp_ret ?_; exact ares rfl (HSub.refl _) ⟨rfl, rfl⟩
  by_cases h16 : k = 16
  · subst h16; (repeat (first | refine st_q rfl rfl rfl ?_ | refine st_gy rfl (st_q rfl rfl rfl ?_) | refine st_gn rfl ?_ | refine st_gu rfl ?_ | (refine st_nil ?_; (repeat (first | refine kp_cons rfl ?_ | refine kp_skip ?_)); refine kp_nil ?_) | refine awp_seq ?_ | refine aw_end (fun _ _ => rfl) ?_ | refine awp_block ?_ | refine aw_skipE (fun _ _ => rfl) ?_ | refine aw_exitE (fun _ _ => rfl) ?_ | refine awp_cond (t := true) rfl (fun _ => ?_) (fun e => by cases e) | refine awp_cond (t := false) rfl (fun e => by cases e) (fun _ => ?_))); refine awp_ret ?_; exact ares rfl (HSub.refl _) ⟨rfl, rfl⟩
  by_cases h17 : k = 17
  · subst h17; (repeat (first | refine st_q rfl rfl rfl ?_ | refine st_gy rfl (st_q rfl rfl rfl ?_) | refine st_gn rfl ?_ | refine st_gu rfl ?_ | (refine st_nil ?_; (repeat (first | refine kp_cons rfl ?_ | refine kp_skip ?_)); refine kp_nil ?_) | refine awp_seq ?_ | refine aw_end (fun _ _ => rfl) ?_ | refine awp_block ?_ | refine aw_skipE (fun _ _ => rfl) ?_ | refine aw_exitE (fun _ _ => rfl) ?_ | refine awp_cond (t := true) rfl (fun _ => ?_) (fun e => by cases e) | refine awp_cond (t := false) rfl (fun e => by cases e) (fun _ => ?_))); refine awp_ret ?_; exact ares rfl (HSub.refl _) ⟨rfl, rfl⟩
  by_cases h8 : k = 8
  · subst h8; (repeat (first | refine st_q rfl rfl rfl ?_ | refine st_gy rfl (st_q rfl rfl rfl ?_) | refine st_gn rfl ?_ | refine st_gu rfl ?_ | (refine st_nil ?_; (repeat (first | refine kp_cons rfl ?_ | refine kp_skip ?_)); refine kp_nil ?_) | refine awp_seq ?_ | refine aw_end (fun _ _ => rfl) ?_ | refine awp_block ?_ | refine aw_skipE (fun _ _ => rfl) ?_ | refine aw_exitE (fun _ _ => rfl) ?_ | refine awp_cond (t := true) rfl (fun _ => ?_) (fun e => by cases e) | refine awp_cond (t := false) rfl (fun e => by cases e) (fun _ => ?_))); refine awp_ret ?_; exact ares rfl (HSub.refl _) ⟨rfl, rfl⟩
  by_cases h14 : k = 14
  · subst h14; (repeat (first | refine st_q rfl rfl rfl ?_ | refine st_gy rfl (st_q rfl rfl rfl ?_) | refine st_gn rfl ?_ | refine st_gu rfl ?_ | (refine st_nil ?_; (repeat (first | refine kp_cons rfl ?_ | refine kp_skip ?_)); refine kp_nil ?_) | refine awp_seq ?_ | refine aw_end (fun _ _ => rfl) ?_ | refine awp_block ?_ | refine aw_skipE (fun _ _ => rfl) ?_ | refine aw_exitE (fun _ _ => rfl) ?_ | refine awp_cond (t := true) rfl (fun _ => ?_) (fun e => by cases e) | refine awp_cond (t := false) rfl (fun e => by cases e) (fun _ => ?_))); refine awp_ret ?_; exact ares rfl (HSub.refl _) ⟨rfl, rfl⟩
  (repeat (first | refine st_q rfl rfl rfl ?_ | refine st_gy rfl (st_q rfl rfl rfl ?_) | refine st_gn rfl ?_ | refine st_gu rfl ?_ | (refine st_nil ?_; (repeat (first | refine kp_cons rfl ?_ | refine kp_skip ?_)); refine kp_nil ?_) | refine awp_seq ?_ | refine aw_end (fun _ _ => rfl) ?_ | refine awp_block ?_ | refine aw_skipE (fun _ _ => rfl) ?_ | refine aw_exitE (fun _ _ => rfl) ?_ | refine awp_cond (t := true) rfl (fun _ => ?_) (fun e => by cases e) | refine awp_cond (t := false) rfl (fun e => by cases e) (fun _ => ?_)))
  (rw [show decide (k = 0) = false from decide_eq_false (by omega)])
  (repeat (first | refine st_q rfl rfl rfl ?_ | refine st_gy rfl (st_q rfl rfl rfl ?_) | refine st_gn rfl ?_ | refine st_gu rfl ?_ | (refine st_nil ?_; (repeat (first | refine kp_cons rfl ?_ | refine kp_skip ?_)); refine kp_nil ?_) | refine awp_seq ?_ | refine aw_end (fun _ _ => rfl) ?_ | refine awp_block ?_ | refine aw_skipE (fun _ _ => rfl) ?_ | refine aw_exitE (fun _ _ => rfl) ?_ | refine awp_cond (t := true) rfl (fun _ => ?_) (fun e => by cases e) | refine awp_cond (t := false) rfl (fun e => by cases e) (fun _ => ?_)))
  (rw [show decide (k = 1) = false from decide_eq_false (by omega)])
  (repeat (first | refine st_q rfl rfl rfl ?_ | refine st_gy rfl (st_q rfl rfl rfl ?_) | refine st_gn rfl ?_ | refine st_gu rfl ?_ | (refine st_nil ?_; (repeat (first | refine kp_cons rfl ?_ | refine kp_skip ?_)); refine kp_nil ?_) | refine awp_seq ?_ | refine aw_end (fun _ _ => rfl) ?_ | refine awp_block ?_ | refine aw_skipE (fun _ _ => rfl) ?_ | refine aw_exitE (fun _ _ => rfl) ?_ | refine awp_cond (t := true) rfl (fun _ => ?_) (fun e => by cases e) | refine awp_cond (t := false) rfl (fun e => by cases e) (fun _ => ?_)))
  (rw [show decide (k = 2) = false from decide_eq_false (by omega)])
  (repeat (first | refine st_q rfl rfl rfl ?_ | refine st_gy rfl (st_q rfl rfl rfl ?_) | refine st_gn rfl ?_ | refine st_gu rfl ?_ | (refine st_nil ?_; (repeat (first | refine kp_cons rfl ?_ | refine kp_skip ?_)); refine kp_nil ?_) | refine awp_seq ?_ | refine aw_end (fun _ _ => rfl) ?_ | refine awp_block ?_ | refine aw_skipE (fun _ _ => rfl) ?_ | refine aw_exitE (fun _ _ => rfl) ?_ | refine awp_cond (t := true) rfl (fun _ => ?_) (fun e => by cases e) | refine awp_cond (t := false) rfl (fun e => by cases e) (fun _ => ?_)))
  (rw [show decide (k = 3) = false from decide_eq_false (by omega)])
  (repeat (first | refine st_q rfl rfl rfl ?_ | refine st_gy rfl (st_q rfl rfl rfl ?_) | refine st_gn rfl ?_ | refine st_gu rfl ?_ | (refine st_nil ?_; (repeat (first | refine kp_cons rfl ?_ | refine kp_skip ?_)); refine kp_nil ?_) | refine awp_seq ?_ | refine aw_end (fun _ _ => rfl) ?_ | refine awp_block ?_ | refine aw_skipE (fun _ _ => rfl) ?_ | refine aw_exitE (fun _ _ => rfl) ?_ | refine awp_cond (t := true) rfl (fun _ => ?_) (fun e => by cases e) | refine awp_cond (t := false) rfl (fun e => by cases e) (fun _ => ?_)))
  (rw [show decide (k = 4) = false from decide_eq_false (by omega)])
  (repeat (first | refine st_q rfl rfl rfl ?_ | refine st_gy rfl (st_q rfl rfl rfl ?_) | refine st_gn rfl ?_ | refine st_gu rfl ?_ | (refine st_nil ?_; (repeat (first | refine kp_cons rfl ?_ | refine kp_skip ?_)); refine kp_nil ?_) | refine awp_seq ?_ | refine aw_end (fun _ _ => rfl) ?_ | refine awp_block ?_ | refine aw_skipE (fun _ _ => rfl) ?_ | refine aw_exitE (fun _ _ => rfl) ?_ | refine awp_cond (t := true) rfl (fun _ => ?_) (fun e => by cases e) | refine awp_cond (t := false) rfl (fun e => by cases e) (fun _ => ?_)))
  (rw [show decide (k = 7) = false from decide_eq_false (by omega)])
  (repeat (first | refine st_q rfl rfl rfl ?_ | refine st_gy rfl (st_q rfl rfl rfl ?_) | refine st_gn rfl ?_ | refine st_gu rfl ?_ | (refine st_nil ?_; (repeat (first | refine kp_cons rfl ?_ | refine kp_skip ?_)); refine kp_nil ?_) | refine awp_seq ?_ | refine aw_end (fun _ _ => rfl) ?_ | refine awp_block ?_ | refine aw_skipE (fun _ _ => rfl) ?_ | refine aw_exitE (fun _ _ => rfl) ?_ | refine awp_cond (t := true) rfl (fun _ => ?_) (fun e => by cases e) | refine awp_cond (t := false) rfl (fun e => by cases e) (fun _ => ?_)))
  (rw [show decide (k = 16) = false from decide_eq_false (by omega)])
  (repeat (first | refine st_q rfl rfl rfl ?_ | refine st_gy rfl (st_q rfl rfl rfl ?_) | refine st_gn rfl ?_ | refine st_gu rfl ?_ | (refine st_nil ?_; (repeat (first | refine kp_cons rfl ?_ | refine kp_skip ?_)); refine kp_nil ?_) | refine awp_seq ?_ | refine aw_end (fun _ _ => rfl) ?_ | refine awp_block ?_ | refine aw_skipE (fun _ _ => rfl) ?_ | refine aw_exitE (fun _ _ => rfl) ?_ | refine awp_cond (t := true) rfl (fun _ => ?_) (fun e => by cases e) | refine awp_cond (t := false) rfl (fun e => by cases e) (fun _ => ?_)))
  (rw [show decide (k = 17) = false from decide_eq_false (by omega)])
  (repeat (first | refine st_q rfl rfl rfl ?_ | refine st_gy rfl (st_q rfl rfl rfl ?_) | refine st_gn rfl ?_ | refine st_gu rfl ?_ | (refine st_nil ?_; (repeat (first | refine kp_cons rfl ?_ | refine kp_skip ?_)); refine kp_nil ?_) | refine awp_seq ?_ | refine aw_end (fun _ _ => rfl) ?_ | refine awp_block ?_ | refine aw_skipE (fun _ _ => rfl) ?_ | refine aw_exitE (fun _ _ => rfl) ?_ | refine awp_cond (t := true) rfl (fun _ => ?_) (fun e => by cases e) | refine awp_cond (t := false) rfl (fun e => by cases e) (fun _ => ?_)))
  (rw [show decide (k = 8) = false from decide_eq_false (by omega)])
  (repeat (first | refine st_q rfl rfl rfl ?_ | refine st_gy rfl (st_q rfl rfl rfl ?_) | refine st_gn rfl ?_ | refine st_gu rfl ?_ | (refine st_nil ?_; (repeat (first | refine kp_cons rfl ?_ | refine kp_skip ?_)); refine kp_nil ?_) | refine awp_seq ?_ | refine aw_end (fun _ _ => rfl) ?_ | refine awp_block ?_ | refine aw_skipE (fun _ _ => rfl) ?_ | refine aw_exitE (fun _ _ => rfl) ?_ | refine awp_cond (t := true) rfl (fun _ => ?_) (fun e => by cases e) | refine awp_cond (t := false) rfl (fun e => by cases e) (fun _ => ?_)))
  (rw [show decide (k = 14) = false from decide_eq_false (by omega)])
  (repeat (first | refine st_q rfl rfl rfl ?_ | refine st_gy rfl (st_q rfl rfl rfl ?_) | refine st_gn rfl ?_ | refine st_gu rfl ?_ | (refine st_nil ?_; (repeat (first | refine kp_cons rfl ?_ | refine kp_skip ?_)); refine kp_nil ?_) | refine awp_seq ?_ | refine aw_end (fun _ _ => rfl) ?_ | refine awp_block ?_ | refine aw_skipE (fun _ _ => rfl) ?_ | refine aw_exitE (fun _ _ => rfl) ?_ | refine awp_cond (t := true) rfl (fun _ => ?_) (fun e => by cases e) | refine awp_cond (t := false) rfl (fun e => by cases e) (fun _ => ?_)))
  refine awp_ret ?_
  exact ares rfl (HSub.refl _) ⟨by simp [addsF, tupOf, h0, h1, h2, h3, h4, h7, h16, h17, h8, h14], rfl⟩

theorem c_ranges (k : Int) (σ : AHeap) : ACalls Try.prog f_stat_ranges [.int .i64 k] σ fun r σ' => r = .bool (rangesF k) ∧ σ' = σ := by
  refine acalls_enter rfl stat_ranges_ok (Nat.le_of_ble_eq_true rfl) ?_
  (repeat (first | refine st_q rfl rfl rfl ?_ | refine st_gy rfl (st_q rfl rfl rfl ?_) | refine st_gn rfl ?_ | refine st_gu rfl ?_ | (refine st_nil ?_; (repeat (first | refine kp_cons rfl ?_ | refine kp_skip ?_)); refine kp_nil ?_) | refine awp_seq ?_ | refine aw_end (fun _ _ => rfl) ?_ | refine awp_block ?_ | refine aw_skipE (fun _ _ => rfl) ?_ | refine aw_exitE (fun _ _ => rfl) ?_ | refine awp_cond (t := true) rfl (fun _ => ?_) (fun e => by cases e) | refine awp_cond (t := false) rfl (fun e => by cases e) (fun _ => ?_)))
  refine st_callv rfl (c_Leaf k _) ?_
  cases hl : leafF k with
  | false =>
    (repeat (first | refine st_q rfl rfl rfl ?_ | refine st_gy rfl (st_q rfl rfl rfl ?_) | refine st_gn rfl ?_ | refine st_gu rfl ?_ | (refine st_nil ?_; (repeat (first | refine kp_cons rfl ?_ | refine kp_skip ?_)); refine kp_nil ?_) | refine awp_seq ?_ | refine aw_end (fun _ _ => rfl) ?_ | refine awp_block ?_ | refine aw_skipE (fun _ _ => rfl) ?_ | refine aw_exitE (fun _ _ => rfl) ?_ | refine awp_cond (t := true) rfl (fun _ => ?_) (fun e => by cases e) | refine awp_cond (t := false) rfl (fun e => by cases e) (fun _ => ?_)))
    refine awp_ret ?_
    exact ares rfl (HSub.refl _) ⟨by simp [rangesF, tupOf, hl], rfl⟩
  | true =>
    (repeat (first | refine st_q rfl rfl rfl ?_ | refine st_gy rfl (st_q rfl rfl rfl ?_) | refine st_gn rfl ?_ | refine st_gu rfl ?_ | (refine st_nil ?_; (repeat (first | refine kp_cons rfl ?_ | refine kp_skip ?_)); refine kp_nil ?_) | refine awp_seq ?_ | refine aw_end (fun _ _ => rfl) ?_ | refine awp_block ?_ | refine aw_skipE (fun _ _ => rfl) ?_ | refine aw_exitE (fun _ _ => rfl) ?_ | refine awp_cond (t := true) rfl (fun _ => ?_) (fun e => by cases e) | refine awp_cond (t := false) rfl (fun e => by cases e) (fun _ => ?_)))
    by_cases h0 : k = 0
    · (rw [show decide (k ≠ 0) = false from decide_eq_false (by omega)])
      (repeat (first | refine st_q rfl rfl rfl ?_ | refine st_gy rfl (st_q rfl rfl rfl ?_) | refine st_gn rfl ?_ | refine st_gu rfl ?_ | (refine st_nil ?_; (repeat (first | refine kp_cons rfl ?_ | refine kp_skip ?_)); refine kp_nil ?_) | refine awp_seq ?_ | refine aw_end (fun _ _ => rfl) ?_ | refine awp_block ?_ | refine aw_skipE (fun _ _ => rfl) ?_ | refine aw_exitE (fun _ _ => rfl) ?_ | refine awp_cond (t := true) rfl (fun _ => ?_) (fun e => by cases e) | refine awp_cond (t := false) rfl (fun e => by cases e) (fun _ => ?_)))
      refine awp_ret ?_
      exact ares rfl (HSub.refl _) ⟨by simp [rangesF, tupOf, h0], rfl⟩
    · (rw [show decide (k ≠ 0) = true from decide_eq_true (by omega)])
      (repeat (first | refine st_q rfl rfl rfl ?_ | refine st_gy rfl (st_q rfl rfl rfl ?_) | refine st_gn rfl ?_ | refine st_gu rfl ?_ | (refine st_nil ?_; (repeat (first | refine kp_cons rfl ?_ | refine kp_skip ?_)); refine kp_nil ?_) | refine awp_seq ?_ | refine aw_end (fun _ _ => rfl) ?_ | refine awp_block ?_ | refine aw_skipE (fun _ _ => rfl) ?_ | refine aw_exitE (fun _ _ => rfl) ?_ | refine awp_cond (t := true) rfl (fun _ => ?_) (fun e => by cases e) | refine awp_cond (t := false) rfl (fun e => by cases e) (fun _ => ?_)))
      refine awp_ret ?_
      exact ares rfl (HSub.refl _) ⟨by simp [rangesF, tupOf, hl, h0], rfl⟩

theorem c_Add (a b : Int) (ha : -9223372036854775808 ≤ a ∧ a ≤ 9223372036854775807) (hb : -9223372036854775808 ≤ b ∧ b ≤ 9223372036854775807) (σ : AHeap) : ACalls Try.prog f_nums_Add [.int .i64 a, .int .i64 b] σ fun r σ' => r = .tup [.int .i64 (addF a b).1, .bool (addF a b).2] ∧ σ' = σ := by
  refine acalls_enter rfl nums_Add_ok (Nat.le_of_ble_eq_true rfl) ?_
  have hw : IntKind.wrap .i64 (a + b) = if -9223372036854775808 ≤ a + b ∧ a + b ≤ 9223372036854775807 then a + b else if 0 ≤ a then a + b - 18446744073709551616 else a + b + 18446744073709551616 := by
    split
    · rename_i h; exact w64 _ h.1 h.2
    · simp [IntKind.wrap, IntKind.bits, IntKind.signed]; split <;> omega
  generalize hs : IntKind.wrap .i64 (a + b) = s at hw
  (repeat (first | refine st_q rfl rfl rfl ?_ | refine st_gy rfl (st_q rfl rfl rfl ?_) | refine st_gn rfl ?_ | refine st_gu rfl ?_ | (refine st_nil ?_; (repeat (first | refine kp_cons rfl ?_ | refine kp_skip ?_)); refine kp_nil ?_) | refine awp_seq ?_ | refine aw_end (fun _ _ => rfl) ?_ | refine awp_block ?_ | refine aw_skipE (fun _ _ => rfl) ?_ | refine aw_exitE (fun _ _ => rfl) ?_ | refine awp_cond (t := true) rfl (fun _ => ?_) (fun e => by cases e) | refine awp_cond (t := false) rfl (fun e => by cases e) (fun _ => ?_)))
  rw [hs]
  (repeat (first | refine st_q rfl rfl rfl ?_ | refine st_gy rfl (st_q rfl rfl rfl ?_) | refine st_gn rfl ?_ | refine st_gu rfl ?_ | (refine st_nil ?_; (repeat (first | refine kp_cons rfl ?_ | refine kp_skip ?_)); refine kp_nil ?_) | refine awp_seq ?_ | refine aw_end (fun _ _ => rfl) ?_ | refine awp_block ?_ | refine aw_skipE (fun _ _ => rfl) ?_ | refine aw_exitE (fun _ _ => rfl) ?_ | refine awp_cond (t := true) rfl (fun _ => ?_) (fun e => by cases e) | refine awp_cond (t := false) rfl (fun e => by cases e) (fun _ => ?_)))
  by_cases h : -9223372036854775808 ≤ a + b ∧ a + b ≤ 9223372036854775807
  · rw [if_pos h] at hw
    have hA : addF a b = (a + b, true) := if_pos h
    rw [hA]
    by_cases h1 : decide (a < s) = decide (0 < b)
    · rw [show (!(decide (a < s) == decide (0 < b))) = false by rw [h1]; simp]
      (repeat (first | refine st_q rfl rfl rfl ?_ | refine st_gy rfl (st_q rfl rfl rfl ?_) | refine st_gn rfl ?_ | refine st_gu rfl ?_ | (refine st_nil ?_; (repeat (first | refine kp_cons rfl ?_ | refine kp_skip ?_)); refine kp_nil ?_) | refine awp_seq ?_ | refine aw_end (fun _ _ => rfl) ?_ | refine awp_block ?_ | refine aw_skipE (fun _ _ => rfl) ?_ | refine aw_exitE (fun _ _ => rfl) ?_ | refine awp_cond (t := true) rfl (fun _ => ?_) (fun e => by cases e) | refine awp_cond (t := false) rfl (fun e => by cases e) (fun _ => ?_)))
      refine awp_ret ?_
      exact ares rfl (HSub.refl _) ⟨by rw [hw]; rfl, rfl⟩
    · have hb0 : b = 0 := by
        rcases Decidable.em (0 < b) with q | q <;> rcases Decidable.em (a < s) with q2 | q2 <;> simp [q, q2] at h1 <;> omega
      rw [show (!(decide (a < s) == decide (0 < b))) = true by simpa using h1]
      (repeat (first | refine st_q rfl rfl rfl ?_ | refine st_gy rfl (st_q rfl rfl rfl ?_) | refine st_gn rfl ?_ | refine st_gu rfl ?_ | (refine st_nil ?_; (repeat (first | refine kp_cons rfl ?_ | refine kp_skip ?_)); refine kp_nil ?_) | refine awp_seq ?_ | refine aw_end (fun _ _ => rfl) ?_ | refine awp_block ?_ | refine aw_skipE (fun _ _ => rfl) ?_ | refine aw_exitE (fun _ _ => rfl) ?_ | refine awp_cond (t := true) rfl (fun _ => ?_) (fun e => by cases e) | refine awp_cond (t := false) rfl (fun e => by cases e) (fun _ => ?_)))
      (rw [show decide (b ≠ 0) = false from decide_eq_false (by omega)])
      (repeat (first | refine st_q rfl rfl rfl ?_ | refine st_gy rfl (st_q rfl rfl rfl ?_) | refine st_gn rfl ?_ | refine st_gu rfl ?_ | (refine st_nil ?_; (repeat (first | refine kp_cons rfl ?_ | refine kp_skip ?_)); refine kp_nil ?_) | refine awp_seq ?_ | refine aw_end (fun _ _ => rfl) ?_ | refine awp_block ?_ | refine aw_skipE (fun _ _ => rfl) ?_ | refine aw_exitE (fun _ _ => rfl) ?_ | refine awp_cond (t := true) rfl (fun _ => ?_) (fun e => by cases e) | refine awp_cond (t := false) rfl (fun e => by cases e) (fun _ => ?_)))
      refine awp_ret ?_
      exact ares rfl (HSub.refl _) ⟨by rw [hw]; rfl, rfl⟩
  · rw [if_neg h] at hw
    have hA : addF a b = (0, false) := if_neg h
    rw [hA]
    have h1 : decide (a < s) ≠ decide (0 < b) := by
      intro e
      rcases Decidable.em (0 < b) with q | q <;> rcases Decidable.em (a < s) with q2 | q2 <;> simp [q, q2] at e <;> (split at hw <;> omega)
    rw [show (!(decide (a < s) == decide (0 < b))) = true by simpa using h1]
    (repeat (first | refine st_q rfl rfl rfl ?_ | refine st_gy rfl (st_q rfl rfl rfl ?_) | refine st_gn rfl ?_ | refine st_gu rfl ?_ | (refine st_nil ?_; (repeat (first | refine kp_cons rfl ?_ | refine kp_skip ?_)); refine kp_nil ?_) | refine awp_seq ?_ | refine aw_end (fun _ _ => rfl) ?_ | refine awp_block ?_ | refine aw_skipE (fun _ _ => rfl) ?_ | refine aw_exitE (fun _ _ => rfl) ?_ | refine awp_cond (t := true) rfl (fun _ => ?_) (fun e => by cases e) | refine awp_cond (t := false) rfl (fun e => by cases e) (fun _ => ?_)))
    have hb0 : b ≠ 0 := by omega
    (rw [show decide (b ≠ 0) = true from decide_eq_true (by omega)])
    (repeat (first | refine st_q rfl rfl rfl ?_ | refine st_gy rfl (st_q rfl rfl rfl ?_) | refine st_gn rfl ?_ | refine st_gu rfl ?_ | (refine st_nil ?_; (repeat (first | refine kp_cons rfl ?_ | refine kp_skip ?_)); refine kp_nil ?_) | refine awp_seq ?_ | refine aw_end (fun _ _ => rfl) ?_ | refine awp_block ?_ | refine aw_skipE (fun _ _ => rfl) ?_ | refine aw_exitE (fun _ _ => rfl) ?_ | refine awp_cond (t := true) rfl (fun _ => ?_) (fun e => by cases e) | refine awp_cond (t := false) rfl (fun e => by cases e) (fun _ => ?_)))
    refine awp_ret ?_
    exact ares rfl (HSub.refl _) ⟨rfl, rfl⟩

theorem c_refAdd (a b : Int) (ha : -9223372036854775808 ≤ a ∧ a ≤ 9223372036854775807) (hb : -9223372036854775808 ≤ b ∧ b ≤ 9223372036854775807) (σ : AHeap) : ACalls Try.prog f_ingotref1_Add [.int .i64 a, .int .i64 b] σ fun r σ' => r = .tup [.int .i64 (addF a b).1, .bool (addF a b).2] ∧ σ' = σ := by
  refine acalls_enter rfl ingotref1_Add_ok (Nat.le_of_ble_eq_true rfl) ?_
  (repeat (first | refine st_q rfl rfl rfl ?_ | refine st_gy rfl (st_q rfl rfl rfl ?_) | refine st_gn rfl ?_ | refine st_gu rfl ?_ | (refine st_nil ?_; (repeat (first | refine kp_cons rfl ?_ | refine kp_skip ?_)); refine kp_nil ?_) | refine awp_seq ?_ | refine aw_end (fun _ _ => rfl) ?_ | refine awp_block ?_ | refine aw_skipE (fun _ _ => rfl) ?_ | refine aw_exitE (fun _ _ => rfl) ?_ | refine awp_cond (t := true) rfl (fun _ => ?_) (fun e => by cases e) | refine awp_cond (t := false) rfl (fun e => by cases e) (fun _ => ?_)))
  by_cases h1 : 0 < b
  · (rw [show decide (0 < b) = true from decide_eq_true (by omega)])
    (repeat (first | refine st_q rfl rfl rfl ?_ | refine st_gy rfl (st_q rfl rfl rfl ?_) | refine st_gn rfl ?_ | refine st_gu rfl ?_ | (refine st_nil ?_; (repeat (first | refine kp_cons rfl ?_ | refine kp_skip ?_)); refine kp_nil ?_) | refine awp_seq ?_ | refine aw_end (fun _ _ => rfl) ?_ | refine awp_block ?_ | refine aw_skipE (fun _ _ => rfl) ?_ | refine aw_exitE (fun _ _ => rfl) ?_ | refine awp_cond (t := true) rfl (fun _ => ?_) (fun e => by cases e) | refine awp_cond (t := false) rfl (fun e => by cases e) (fun _ => ?_)))
    rw [w64 (9223372036854775807 - b) (by omega) (by omega)]
    by_cases h2 : 9223372036854775807 - b < a
    · (rw [show decide (9223372036854775807 - b < a) = true from decide_eq_true (by omega)])
      (repeat (first | refine st_q rfl rfl rfl ?_ | refine st_gy rfl (st_q rfl rfl rfl ?_) | refine st_gn rfl ?_ | refine st_gu rfl ?_ | (refine st_nil ?_; (repeat (first | refine kp_cons rfl ?_ | refine kp_skip ?_)); refine kp_nil ?_) | refine awp_seq ?_ | refine aw_end (fun _ _ => rfl) ?_ | refine awp_block ?_ | refine aw_skipE (fun _ _ => rfl) ?_ | refine aw_exitE (fun _ _ => rfl) ?_ | refine awp_cond (t := true) rfl (fun _ => ?_) (fun e => by cases e) | refine awp_cond (t := false) rfl (fun e => by cases e) (fun _ => ?_)))
      refine awp_ret ?_
      exact ares rfl (HSub.refl _) ⟨by rw [addF, if_neg (by omega)]; rfl, rfl⟩
    · (rw [show decide (9223372036854775807 - b < a) = false from decide_eq_false (by omega)])
      (repeat (first | refine st_q rfl rfl rfl ?_ | refine st_gy rfl (st_q rfl rfl rfl ?_) | refine st_gn rfl ?_ | refine st_gu rfl ?_ | (refine st_nil ?_; (repeat (first | refine kp_cons rfl ?_ | refine kp_skip ?_)); refine kp_nil ?_) | refine awp_seq ?_ | refine aw_end (fun _ _ => rfl) ?_ | refine awp_block ?_ | refine aw_skipE (fun _ _ => rfl) ?_ | refine aw_exitE (fun _ _ => rfl) ?_ | refine awp_cond (t := true) rfl (fun _ => ?_) (fun e => by cases e) | refine awp_cond (t := false) rfl (fun e => by cases e) (fun _ => ?_)))
      (rw [show decide (b < 0) = false from decide_eq_false (by omega)])
      (repeat (first | refine st_q rfl rfl rfl ?_ | refine st_gy rfl (st_q rfl rfl rfl ?_) | refine st_gn rfl ?_ | refine st_gu rfl ?_ | (refine st_nil ?_; (repeat (first | refine kp_cons rfl ?_ | refine kp_skip ?_)); refine kp_nil ?_) | refine awp_seq ?_ | refine aw_end (fun _ _ => rfl) ?_ | refine awp_block ?_ | refine aw_skipE (fun _ _ => rfl) ?_ | refine aw_exitE (fun _ _ => rfl) ?_ | refine awp_cond (t := true) rfl (fun _ => ?_) (fun e => by cases e) | refine awp_cond (t := false) rfl (fun e => by cases e) (fun _ => ?_)))
      refine awp_ret ?_
      exact ares rfl (HSub.refl _) ⟨by rw [addF, if_pos (by omega), w64 _ (by omega) (by omega)]; rfl, rfl⟩
  · (rw [show decide (0 < b) = false from decide_eq_false (by omega)])
    (repeat (first | refine st_q rfl rfl rfl ?_ | refine st_gy rfl (st_q rfl rfl rfl ?_) | refine st_gn rfl ?_ | refine st_gu rfl ?_ | (refine st_nil ?_; (repeat (first | refine kp_cons rfl ?_ | refine kp_skip ?_)); refine kp_nil ?_) | refine awp_seq ?_ | refine aw_end (fun _ _ => rfl) ?_ | refine awp_block ?_ | refine aw_skipE (fun _ _ => rfl) ?_ | refine aw_exitE (fun _ _ => rfl) ?_ | refine awp_cond (t := true) rfl (fun _ => ?_) (fun e => by cases e) | refine awp_cond (t := false) rfl (fun e => by cases e) (fun _ => ?_)))
    by_cases h2 : b < 0
    · (rw [show decide (b < 0) = true from decide_eq_true (by omega)])
      (repeat (first | refine st_q rfl rfl rfl ?_ | refine st_gy rfl (st_q rfl rfl rfl ?_) | refine st_gn rfl ?_ | refine st_gu rfl ?_ | (refine st_nil ?_; (repeat (first | refine kp_cons rfl ?_ | refine kp_skip ?_)); refine kp_nil ?_) | refine awp_seq ?_ | refine aw_end (fun _ _ => rfl) ?_ | refine awp_block ?_ | refine aw_skipE (fun _ _ => rfl) ?_ | refine aw_exitE (fun _ _ => rfl) ?_ | refine awp_cond (t := true) rfl (fun _ => ?_) (fun e => by cases e) | refine awp_cond (t := false) rfl (fun e => by cases e) (fun _ => ?_)))
      rw [w64 (-9223372036854775808 - b) (by omega) (by omega)]
      by_cases h3 : a < -9223372036854775808 - b
      · (rw [show decide (a < -9223372036854775808 - b) = true from decide_eq_true (by omega)])
        (repeat (first | refine st_q rfl rfl rfl ?_ | refine st_gy rfl (st_q rfl rfl rfl ?_) | refine st_gn rfl ?_ | refine st_gu rfl ?_ | (refine st_nil ?_; (repeat (first | refine kp_cons rfl ?_ | refine kp_skip ?_)); refine kp_nil ?_) | refine awp_seq ?_ | refine aw_end (fun _ _ => rfl) ?_ | refine awp_block ?_ | refine aw_skipE (fun _ _ => rfl) ?_ | refine aw_exitE (fun _ _ => rfl) ?_ | refine awp_cond (t := true) rfl (fun _ => ?_) (fun e => by cases e) | refine awp_cond (t := false) rfl (fun e => by cases e) (fun _ => ?_)))
        refine awp_ret ?_
        exact ares rfl (HSub.refl _) ⟨by rw [addF, if_neg (by omega)]; rfl, rfl⟩
      · (rw [show decide (a < -9223372036854775808 - b) = false from decide_eq_false (by omega)])
        (repeat (first | refine st_q rfl rfl rfl ?_ | refine st_gy rfl (st_q rfl rfl rfl ?_) | refine st_gn rfl ?_ | refine st_gu rfl ?_ | (refine st_nil ?_; (repeat (first | refine kp_cons rfl ?_ | refine kp_skip ?_)); refine kp_nil ?_) | refine awp_seq ?_ | refine aw_end (fun _ _ => rfl) ?_ | refine awp_block ?_ | refine aw_skipE (fun _ _ => rfl) ?_ | refine aw_exitE (fun _ _ => rfl) ?_ | refine awp_cond (t := true) rfl (fun _ => ?_) (fun e => by cases e) | refine awp_cond (t := false) rfl (fun e => by cases e) (fun _ => ?_)))
        refine awp_ret ?_
        exact ares rfl (HSub.refl _) ⟨by rw [addF, if_pos (by omega), w64 _ (by omega) (by omega)]; rfl, rfl⟩
    · (rw [show decide (b < 0) = false from decide_eq_false (by omega)])
      (repeat (first | refine st_q rfl rfl rfl ?_ | refine st_gy rfl (st_q rfl rfl rfl ?_) | refine st_gn rfl ?_ | refine st_gu rfl ?_ | (refine st_nil ?_; (repeat (first | refine kp_cons rfl ?_ | refine kp_skip ?_)); refine kp_nil ?_) | refine awp_seq ?_ | refine aw_end (fun _ _ => rfl) ?_ | refine awp_block ?_ | refine aw_skipE (fun _ _ => rfl) ?_ | refine aw_exitE (fun _ _ => rfl) ?_ | refine awp_cond (t := true) rfl (fun _ => ?_) (fun e => by cases e) | refine awp_cond (t := false) rfl (fun e => by cases e) (fun _ => ?_)))
      refine awp_ret ?_
      exact ares rfl (HSub.refl _) ⟨by rw [addF, if_pos (by omega), w64 _ (by omega) (by omega)]; rfl, rfl⟩
end Go.Abs

/- Contracts: one sum, one span more (stat). -/
namespace Go.Abs
open Go Go.Proofs
set_option linter.unusedVariables false
set_option linter.unusedSimpArgs false
set_option maxHeartbeats 4000000
attribute [local irreducible] AWp aops KP

structure Stt where
  count : Int
  null : Bool
  has : Bool
  min : Vl
  max : Vl
  sums : Bool
  sum : Int

def vl0 : Vl := .mk false 0 0 [] []
def cellsS (s : Stt) : List AVal := [.int .i64 s.count, .bool s.null, .bool s.has,
  .bool s.min.null, .int .i64 s.min.i, .int .i64 s.min.n, .slc 1 (bytes s.min.b) false, .slc 5 (encVs s.min.kids) false,
  .bool s.max.null, .int .i64 s.max.i, .int .i64 s.max.n, .slc 1 (bytes s.max.b) false, .slc 5 (encVs s.max.kids) false,
  .bool s.sums, .int .i64 s.sum]
def encS (s : Stt) : AVal := .agg (cellsS s)

def moreF (s : Stt) (v : Int) : Stt := if s.sums = true then { s with sum := (addF s.sum v).1, sums := (addF s.sum v).2 } else s
def spanF (k : Int) (s : Stt) (lo hi : Vl) : Stt :=
  { s with min := if s.has = false ∨ (cmpV k lo s.min).1 < 0 then lo else s.min, max := if s.has = false ∨ 0 < (cmpV k hi s.max).1 then hi else s.max, has := true }

theorem c_more (s : Stt) (v : Int) (hs : -9223372036854775808 ≤ s.sum ∧ s.sum ≤ 9223372036854775807) (hv : -9223372036854775808 ≤ v ∧ v ≤ 9223372036854775807) (b : Nat) (σ : AHeap) :
    ACalls Try.prog f_stat_Stats_more [.ptr b 0 0, .int .i64 v] ((b, .cells 15 [encS s]) :: σ) fun r σ' => r = .tup [] ∧ σ' = (b, .cells 15 [encS (moreF s v)]) :: σ := by
  refine acalls_enter rfl stat_Stats_more_ok (Nat.le_of_ble_eq_true rfl) ?_
  (repeat (first | refine st_q rfl rfl rfl ?_ | refine st_gy rfl (st_q rfl rfl rfl ?_) | refine st_gn rfl ?_ | refine st_gu rfl ?_ | (refine st_nil ?_; (repeat (first | refine kp_cons rfl ?_ | refine kp_skip ?_)); refine kp_nil ?_) | refine awp_seq ?_ | refine aw_end (fun _ _ => rfl) ?_ | refine awp_block ?_ | refine aw_skipE (fun _ _ => rfl) ?_ | refine aw_exitE (fun _ _ => rfl) ?_ | refine awp_cond (t := true) rfl (fun _ => ?_) (fun e => by cases e) | refine awp_cond (t := false) rfl (fun e => by cases e) (fun _ => ?_)))
  refine st_ldp rfl hget_head rfl rfl ?_
  cases hS : s.sums with
  | false =>
    (repeat (first | refine st_q rfl rfl rfl ?_ | refine st_gy rfl (st_q rfl rfl rfl ?_) | refine st_gn rfl ?_ | refine st_gu rfl ?_ | (refine st_nil ?_; (repeat (first | refine kp_cons rfl ?_ | refine kp_skip ?_)); refine kp_nil ?_) | refine awp_seq ?_ | refine aw_end (fun _ _ => rfl) ?_ | refine awp_block ?_ | refine aw_skipE (fun _ _ => rfl) ?_ | refine aw_exitE (fun _ _ => rfl) ?_ | refine awp_cond (t := true) rfl (fun _ => ?_) (fun e => by cases e) | refine awp_cond (t := false) rfl (fun e => by cases e) (fun _ => ?_)))
    refine awp_ret ?_
    exact ares rfl (HSub.refl _) ⟨rfl, by rw [moreF, if_neg (by simp [hS])]⟩
  | true =>
    (repeat (first | refine st_q rfl rfl rfl ?_ | refine st_gy rfl (st_q rfl rfl rfl ?_) | refine st_gn rfl ?_ | refine st_gu rfl ?_ | (refine st_nil ?_; (repeat (first | refine kp_cons rfl ?_ | refine kp_skip ?_)); refine kp_nil ?_) | refine awp_seq ?_ | refine aw_end (fun _ _ => rfl) ?_ | refine awp_block ?_ | refine aw_skipE (fun _ _ => rfl) ?_ | refine aw_exitE (fun _ _ => rfl) ?_ | refine awp_cond (t := true) rfl (fun _ => ?_) (fun e => by cases e) | refine awp_cond (t := false) rfl (fun e => by cases e) (fun _ => ?_)))
    refine awp_region ?_
    (repeat (refine st_q rfl rfl rfl ?_))
    refine st_ldp rfl hget_head rfl rfl ?_
    (repeat (refine st_q rfl rfl rfl ?_))
    refine st_callv rfl (c_Add s.sum v hs hv _) ?_
    (repeat (refine st_q rfl rfl rfl ?_))
    refine st_store rfl hget_head rfl (by decide) (AVal.fit_iff.1 rfl) (fun h => by cases h) hset_head ?_
    (repeat (refine st_q rfl rfl rfl ?_))
    refine st_store rfl hget_head rfl (by decide) (AVal.fit_iff.1 rfl) (fun h => by cases h) hset_head ?_
    refine st_nil ?_
    refine ⟨[], rfl, .tup [], _, VShift.refl _ _, rfl, ?_⟩
    rw [moreF, if_pos hS]
    rfl

theorem c_span (s : Stt) (k : Int) (nd : List AVal) (hnd : nd.length = 8) (hk : nd[0]? = some (.int .i64 k)) (h1 : ∀ c ∈ nd, c.one = true) (lo hi : Vl) (hlo : lo.Cl) (hhi : hi.Cl) (b : Nat) (σ : AHeap) :
    ACalls Try.prog f_stat_Stats_span [.ptr b 0 0, .agg nd, encV lo, encV hi] ((b, .cells 15 [encS s]) :: σ) fun r σ' => r = .tup [] ∧ σ' = (b, .cells 15 [encS (spanF k s lo hi)]) :: σ := by
  match nd, hnd with
  | [n0, n1, n2, n3, n4, n5, n6, n7], _ =>
  simp only [List.getElem?_cons_zero, Option.some.injEq] at hk
  subst hk
  have hcl := c_VClone lo hlo
  have hch := c_VClone hi hhi
  have hcm1 := c_Compare [.int .i64 k, .slc 0 [] true, .slc 0 [] true, .int .i64 0, .int .i64 0, .int .i64 0] k rfl rfl (by simp [AVal.one]) lo s.min
  have hcm2 := c_Compare [.int .i64 k, .slc 0 [] true, .slc 0 [] true, .int .i64 0, .int .i64 0, .int .i64 0] k rfl rfl (by simp [AVal.one]) hi s.max
  simp only [encV_eq] at *
  refine acalls_enter rfl stat_Stats_span_ok (Nat.le_of_ble_eq_true rfl) ?_
  refine aw_region ?_
  refine st_box rfl ⟨rfl, h1⟩ fun b1 hb1 => ?_
  refine st_box rfl (AVal.fit_iff.1 rfl) fun b2 hb2 => ?_
  refine st_box rfl (AVal.fit_iff.1 rfl) fun b3 hb3 => ?_
  (repeat (refine st_q rfl rfl rfl ?_))
  (refine st_nil ?_; (repeat (first | refine kp_cons rfl ?_ | refine kp_skip ?_)); refine kp_nil ?_)
  refine awp_freezeP (d := 7) (cs := cellsV hi) rfl ?_
  refine awp_freezeP (d := 6) (cs := cellsV lo) rfl ?_
  refine awp_freezeP (d := 5) (cs := [.int .i64 k, n1, n2, n3, n4, n5, n6, n7]) rfl ?_
  refine aw_region ?_
  (repeat (refine st_q rfl rfl rfl ?_))
  refine st_alloc (by simp [AVal.cells, AVal.one]) fun b4 hb4 => ?_
  refine st_store rfl hget_head rfl (by decide) (AVal.fit_iff.1 rfl) (fun h => by cases h) hset_head ?_
  (refine st_nil ?_; (repeat (first | refine kp_cons rfl ?_ | refine kp_skip ?_)); refine kp_nil ?_)
  refine awp_freezeP (d := 8) (cs := [.int .i64 k, .slc 0 [] true, .slc 0 [] true, .int .i64 0, .int .i64 0, .int .i64 0]) rfl ?_
  have part2 : ∀ s1 : Stt, s1.has = s.has → s1.max = s.max → spanF k s lo hi = { s1 with max := if s.has = false ∨ 0 < (cmpV k hi s.max).1 then hi else s.max, has := true } →
      AWp Try.prog stat_Stats_span.n (stat_Stats_span.code.snd 3) (ARet stat_Stats_span.res fun r σ' => r = .tup [] ∧ σ' = (b, .cells 15 [encS (spanF k s lo hi)]) :: σ)
        (fset 0 (some (.ptr b 0 0)) (fset 7 (some (.iptr (cellsV hi))) (fset 8 (some (.iptr [.int .i64 k, .slc 0 [] true, .slc 0 [] true, .int .i64 0, .int .i64 0, .int .i64 0])) fnone))) ((b, .cells 15 [encS s1]) :: σ) := by
    intro s1 e1 e2 e3
    rw [← e2] at hcm2
    have last : ∀ (s2 : Stt), spanF k s lo hi = { s2 with has := true } → AWp Try.prog stat_Stats_span.n (.region stat_Stats_span_r8 []) (ARet stat_Stats_span.res fun r σ' => r = .tup [] ∧ σ' = (b, .cells 15 [encS (spanF k s lo hi)]) :: σ)
        (fset 0 (some (.ptr b 0 0)) fnone) ((b, .cells 15 [encS s2]) :: σ) := by
      intro s2 e4
      refine awp_region ?_
      (repeat (refine st_q rfl rfl rfl ?_))
      refine st_store rfl hget_head rfl (by decide) (AVal.fit_iff.1 rfl) (fun h => by cases h) hset_head ?_
      refine st_nil ?_
      refine ⟨[], rfl, .tup [], _, VShift.refl _ _, rfl, ?_⟩
      rw [e4]
      rfl
    refine awp_seq ?_
    refine awp_seq ?_
    refine aw_end (fun _ _ => rfl) ?_
    (repeat (refine st_q rfl rfl rfl ?_))
    refine st_ldp rfl hget_head rfl rfl ?_
    refine st_callv rfl (hcm2 _) ?_
    (repeat (refine st_q rfl rfl rfl ?_))
    (refine st_nil ?_; (repeat (first | refine kp_cons rfl ?_ | refine kp_skip ?_)); refine kp_nil ?_)
    generalize hc : cmpV k hi s1.max = cr
    obtain ⟨c, ok⟩ := cr
    rw [e2] at hc
    rw [hc] at e3
    refine awp_seq ?_
    refine aw_end (fun _ _ => rfl) ?_
    (repeat (refine st_q rfl rfl rfl ?_))
    refine st_ldp rfl hget_head rfl rfl ?_
    have setmax : (s.has = false ∨ 0 < c) → AWp Try.prog stat_Stats_span.n (.region stat_Stats_span_r7 [0]) (AThen Try.prog stat_Stats_span.n (.region stat_Stats_span_r8 []) (ARet stat_Stats_span.res fun r σ' => r = .tup [] ∧ σ' = (b, .cells 15 [encS (spanF k s lo hi)]) :: σ))
        (fset 0 (some (.ptr b 0 0)) (fset 7 (some (.iptr (cellsV hi))) fnone)) ((b, .cells 15 [encS s1]) :: σ) := by
      intro hcond
      refine aw_end (fun _ _ => rfl) ?_
      (repeat (refine st_q rfl rfl rfl ?_))
      refine st_callv rfl (hch _) ?_
      (repeat (refine st_q rfl rfl rfl ?_))
      refine st_store rfl hget_head rfl (by decide) ⟨rfl, by simp [cellsV, AVal.cells, AVal.one]⟩ (fun h => by cases h) hset_head ?_
      (refine st_nil ?_; (repeat (first | refine kp_cons rfl ?_ | refine kp_skip ?_)); refine kp_nil ?_)
      rw [if_pos hcond] at e3
      exact last { s1 with max := hi } e3
    have keep : ¬ (s.has = false ∨ 0 < c) → AWp Try.prog stat_Stats_span.n .skip (AThen Try.prog stat_Stats_span.n (.region stat_Stats_span_r8 []) (ARet stat_Stats_span.res fun r σ' => r = .tup [] ∧ σ' = (b, .cells 15 [encS (spanF k s lo hi)]) :: σ))
        (fset 0 (some (.ptr b 0 0)) fnone) ((b, .cells 15 [encS s1]) :: σ) := by
      intro hcond
      refine aw_skipE (fun _ _ => rfl) ?_
      rw [if_neg hcond] at e3
      exact last s1 (by rw [e3, ← e2])
    cases hh : s1.has with
    | false =>
      (repeat (first | refine st_q rfl rfl rfl ?_ | refine st_gy rfl (st_q rfl rfl rfl ?_) | refine st_gn rfl ?_ | refine st_gu rfl ?_))
      (refine st_nil ?_; (repeat (first | refine kp_cons rfl ?_ | refine kp_skip ?_)); refine kp_nil ?_)
      refine awp_cond (t := true) rfl (fun _ => ?_) (fun e => by cases e)
      (refine kp_weaken (keep := [0, 7]) ?_; ((repeat (first | refine kp_cons rfl ?_ | refine kp_skip ?_)); refine kp_nil ?_))
      exact setmax (.inl (by rw [← e1]; exact hh))
    | true =>
      (repeat (first | refine st_q rfl rfl rfl ?_ | refine st_gy rfl (st_q rfl rfl rfl ?_) | refine st_gn rfl ?_ | refine st_gu rfl ?_))
      (refine st_nil ?_; (repeat (first | refine kp_cons rfl ?_ | refine kp_skip ?_)); refine kp_nil ?_)
      refine awp_condp (p := 0 < c) rfl (fun h => ?_) (fun h => ?_)
      · (refine kp_weaken (keep := [0, 7]) ?_; ((repeat (first | refine kp_cons rfl ?_ | refine kp_skip ?_)); refine kp_nil ?_))
        exact setmax (.inr h)
      · (refine kp_weaken (keep := [0]) ?_; ((repeat (first | refine kp_cons rfl ?_ | refine kp_skip ?_)); refine kp_nil ?_))
        exact keep (by rw [← e1, hh]; simp; omega)
  refine awp_seq ?_
  refine awp_seq ?_
  refine aw_end (fun _ _ => rfl) ?_
  (repeat (refine st_q rfl rfl rfl ?_))
  refine st_ldp rfl hget_head rfl rfl ?_
  refine st_callv rfl (hcm1 _) ?_
  (repeat (refine st_q rfl rfl rfl ?_))
  (refine st_nil ?_; (repeat (first | refine kp_cons rfl ?_ | refine kp_skip ?_)); refine kp_nil ?_)
  generalize hc : cmpV k lo s.min = cr
  obtain ⟨c, ok⟩ := cr
  refine awp_seq ?_
  refine aw_end (fun _ _ => rfl) ?_
  (repeat (refine st_q rfl rfl rfl ?_))
  refine st_ldp rfl hget_head rfl rfl ?_
  have setmin : (s.has = false ∨ c < 0) → AWp Try.prog stat_Stats_span.n (.region stat_Stats_span_r4 [0, 7, 8, 56, 57]) (AThen Try.prog stat_Stats_span.n (stat_Stats_span.code.snd 3) (ARet stat_Stats_span.res fun r σ' => r = .tup [] ∧ σ' = (b, .cells 15 [encS (spanF k s lo hi)]) :: σ))
      (fset 0 (some (.ptr b 0 0)) (fset 6 (some (.iptr (cellsV lo))) (fset 7 (some (.iptr (cellsV hi))) (fset 8 (some (.iptr [.int .i64 k, .slc 0 [] true, .slc 0 [] true, .int .i64 0, .int .i64 0, .int .i64 0])) fnone)))) ((b, .cells 15 [encS s]) :: σ) := by
    intro hcond
    refine aw_end (fun _ _ => rfl) ?_
    (repeat (refine st_q rfl rfl rfl ?_))
    refine st_callv rfl (hcl _) ?_
    (repeat (refine st_q rfl rfl rfl ?_))
    refine st_store rfl hget_head rfl (by decide) ⟨rfl, by simp [cellsV, AVal.cells, AVal.one]⟩ (fun h => by cases h) hset_head ?_
    (refine st_nil ?_; (repeat (first | refine kp_cons rfl ?_ | refine kp_skip ?_)); refine kp_nil ?_)
    exact part2 { s with min := lo } rfl rfl (by simp only [spanF, hc]; rw [if_pos hcond])
  have keep : ¬ (s.has = false ∨ c < 0) → AWp Try.prog stat_Stats_span.n .skip (AThen Try.prog stat_Stats_span.n (stat_Stats_span.code.snd 3) (ARet stat_Stats_span.res fun r σ' => r = .tup [] ∧ σ' = (b, .cells 15 [encS (spanF k s lo hi)]) :: σ))
      (fset 0 (some (.ptr b 0 0)) (fset 7 (some (.iptr (cellsV hi))) (fset 8 (some (.iptr [.int .i64 k, .slc 0 [] true, .slc 0 [] true, .int .i64 0, .int .i64 0, .int .i64 0])) fnone))) ((b, .cells 15 [encS s]) :: σ) := by
    intro hcond
    refine aw_skipE (fun _ _ => rfl) ?_
    exact part2 s rfl rfl (by simp only [spanF, hc]; rw [if_neg hcond])
  cases hh : s.has with
  | false =>
    (repeat (first | refine st_q rfl rfl rfl ?_ | refine st_gy rfl (st_q rfl rfl rfl ?_) | refine st_gn rfl ?_ | refine st_gu rfl ?_))
    (refine st_nil ?_; (repeat (first | refine kp_cons rfl ?_ | refine kp_skip ?_)); refine kp_nil ?_)
    refine awp_cond (t := true) rfl (fun _ => ?_) (fun e => by cases e)
    (refine kp_weaken (keep := [0, 6, 7, 8]) ?_; ((repeat (first | refine kp_cons rfl ?_ | refine kp_skip ?_)); refine kp_nil ?_))
    exact setmin (.inl hh)
  | true =>
    (repeat (first | refine st_q rfl rfl rfl ?_ | refine st_gy rfl (st_q rfl rfl rfl ?_) | refine st_gn rfl ?_ | refine st_gu rfl ?_))
    (refine st_nil ?_; (repeat (first | refine kp_cons rfl ?_ | refine kp_skip ?_)); refine kp_nil ?_)
    refine awp_condp (p := c < 0) rfl (fun h => ?_) (fun h => ?_)
    · (refine kp_weaken (keep := [0, 6, 7, 8]) ?_; ((repeat (first | refine kp_cons rfl ?_ | refine kp_skip ?_)); refine kp_nil ?_))
      exact setmin (.inr h)
    · (refine kp_weaken (keep := [0, 7, 8]) ?_; ((repeat (first | refine kp_cons rfl ?_ | refine kp_skip ?_)); refine kp_nil ?_))
      exact keep (by rw [hh]; simp; omega)
end Go.Abs

/- Contracts: is one Null (flat, the reference). -/
namespace Go.Abs
open Go Go.Proofs
set_option linter.unusedVariables false
set_option linter.unusedSimpArgs false
set_option maxHeartbeats 4000000
attribute [local irreducible] AWp aops KP

structure Col where
  here : List Bool
  ints : List Int
  ns : List Int
  texts : List (List UInt8)
  lens : List Int

def cellsC (c : Col) : List AVal := [.slc 1 (c.here.map .bool) false, .slc 1 (c.ints.map (.int .i64)) false, .slc 1 (c.ns.map (.int .i64)) false,
  .slc 1 (c.texts.map fun b => .slc 1 (bytes b) false) false, .slc 1 (c.lens.map (.int .i64)) false]
def encC (c : Col) : AVal := .agg (cellsC c)
def hasF (c : Col) : Bool := c.here.any (!·)

/-- The place of the first that is 'v'; none: -1. -/
def idxB (v : Bool) : Nat → List Bool → Int
  | _, [] => -1
  | i, b :: bs => if v = b then i else idxB v (i + 1) bs

theorem idxB_ge (v : Bool) : ∀ (bs : List Bool) (i : Nat), decide (0 ≤ idxB v i bs) = bs.any (· == v)
  | [], i => by simp [idxB]
  | b :: bs, i => by
    rw [idxB, List.any_cons]
    by_cases h : v = b
    · rw [if_pos h]; simp [h]
    · rw [if_neg h, idxB_ge v bs]
      have : (b == v) = false := by cases v <;> cases b <;> simp_all
      rw [this]; simp

theorem map_get {α : Type} {f : α → AVal} {l : List α} {j : Nat} (h : j < l.length) : (l.map f)[((j : Nat) : Int).toNat]? = some (f l[j]) := by
  rw [Int.toNat_natCast, List.getElem?_map, List.getElem?_eq_getElem h]; rfl

theorem c_IndexB (bs : List Bool) (v : Bool) (hl : bs.length ≤ 140737488355328) (σ : AHeap) : ACalls Try.prog f_slices_Index_bool_bool [.slc 1 (bs.map .bool) false, .bool v] σ fun r σ' => r = .int .i64 (idxB v 0 bs) ∧ σ' = σ := by
  refine acalls_enter rfl slices_Index_bool_bool_ok (Nat.le_of_ble_eq_true rfl) ?_
  (repeat (first | refine st_q rfl rfl rfl ?_ | refine st_gy rfl (st_q rfl rfl rfl ?_) | refine st_gn rfl ?_ | refine st_gu rfl ?_ | (refine st_nil ?_; (repeat (first | refine kp_cons rfl ?_ | refine kp_skip ?_)); refine kp_nil ?_) | refine awp_seq ?_ | refine aw_end (fun _ _ => rfl) ?_ | refine awp_block ?_ | refine aw_skipE (fun _ _ => rfl) ?_ | refine aw_exitE (fun _ _ => rfl) ?_ | refine awp_cond (t := true) rfl (fun _ => ?_) (fun e => by cases e) | refine awp_cond (t := false) rfl (fun e => by cases e) (fun _ => ?_)))
  rw [show ((bs.map AVal.bool).length : Int) = (bs.length : Int) by simp]
  generalize hX : idxB v 0 bs = X
  refine awp_loopN (fun m F σ' => ∃ (j : Nat), F = fset 0 (some (.slc 1 (bs.map .bool) false)) (fset 1 (some (.bool v)) (fset 7 (some (.int .i64 (bs.length : Int))) (fset 8 (some (.int .i64 (j : Int))) fnone))) ∧
    σ = σ' ∧ j ≤ bs.length ∧ X = idxB v j (bs.drop j) ∧ m = bs.length - j) (n := bs.length) ⟨0, rfl, rfl, by omega, hX.symm, rfl⟩ ?_
  rintro m F σ' ⟨j, rfl, rfl, hj, hXj, rfl⟩
  (repeat (first | refine st_q rfl rfl rfl ?_ | refine st_gy rfl (st_q rfl rfl rfl ?_) | refine st_gn rfl ?_ | refine st_gu rfl ?_ | (refine st_nil ?_; (repeat (first | refine kp_cons rfl ?_ | refine kp_skip ?_)); refine kp_nil ?_) | refine awp_seq ?_ | refine aw_end (fun _ _ => rfl) ?_ | refine awp_block ?_ | refine aw_skipE (fun _ _ => rfl) ?_ | refine aw_exitE (fun _ _ => rfl) ?_ | refine awp_cond (t := true) rfl (fun _ => ?_) (fun e => by cases e) | refine awp_cond (t := false) rfl (fun e => by cases e) (fun _ => ?_)))
  refine awp_condp (p := (j : Int) < (bs.length : Int)) rfl (fun h3 => ?_) (fun h3 => ?_)
  · have hjl : j < bs.length := by omega
    rw [List.drop_eq_getElem_cons hjl, idxB] at hXj
    (repeat (first | refine st_q rfl rfl rfl ?_ | refine st_gy rfl (st_q rfl rfl rfl ?_) | refine st_gn rfl ?_ | refine st_gu rfl ?_ | (refine st_nil ?_; (repeat (first | refine kp_cons rfl ?_ | refine kp_skip ?_)); refine kp_nil ?_) | refine awp_seq ?_ | refine aw_end (fun _ _ => rfl) ?_ | refine awp_block ?_ | refine aw_skipE (fun _ _ => rfl) ?_ | refine aw_exitE (fun _ _ => rfl) ?_ | refine awp_cond (t := true) rfl (fun _ => ?_) (fun e => by cases e) | refine awp_cond (t := false) rfl (fun e => by cases e) (fun _ => ?_)))
    refine st_iad rfl (by omega) (map_get hjl) ?_
    (repeat (first | refine st_q rfl rfl rfl ?_ | refine st_gy rfl (st_q rfl rfl rfl ?_) | refine st_gn rfl ?_ | refine st_gu rfl ?_ | (refine st_nil ?_; (repeat (first | refine kp_cons rfl ?_ | refine kp_skip ?_)); refine kp_nil ?_) | refine awp_seq ?_ | refine aw_end (fun _ _ => rfl) ?_ | refine awp_block ?_ | refine aw_skipE (fun _ _ => rfl) ?_ | refine aw_exitE (fun _ _ => rfl) ?_ | refine awp_cond (t := true) rfl (fun _ => ?_) (fun e => by cases e) | refine awp_cond (t := false) rfl (fun e => by cases e) (fun _ => ?_)))
    cases he : (v == bs[j]) with
    | true =>
      rw [if_pos (by simpa using he)] at hXj
      (repeat (first | refine st_q rfl rfl rfl ?_ | refine st_gy rfl (st_q rfl rfl rfl ?_) | refine st_gn rfl ?_ | refine st_gu rfl ?_ | (refine st_nil ?_; (repeat (first | refine kp_cons rfl ?_ | refine kp_skip ?_)); refine kp_nil ?_) | refine awp_seq ?_ | refine aw_end (fun _ _ => rfl) ?_ | refine awp_block ?_ | refine aw_skipE (fun _ _ => rfl) ?_ | refine aw_exitE (fun _ _ => rfl) ?_ | refine awp_cond (t := true) rfl (fun _ => ?_) (fun e => by cases e) | refine awp_cond (t := false) rfl (fun e => by cases e) (fun _ => ?_)))
      refine awp_ret ?_
      exact ares rfl (HSub.refl _) ⟨by rw [hXj]; rfl, rfl⟩
    | false =>
      rw [if_neg (by simpa using he)] at hXj
      (repeat (first | refine st_q rfl rfl rfl ?_ | refine st_gy rfl (st_q rfl rfl rfl ?_) | refine st_gn rfl ?_ | refine st_gu rfl ?_ | (refine st_nil ?_; (repeat (first | refine kp_cons rfl ?_ | refine kp_skip ?_)); refine kp_nil ?_) | refine awp_seq ?_ | refine aw_end (fun _ _ => rfl) ?_ | refine awp_block ?_ | refine aw_skipE (fun _ _ => rfl) ?_ | refine aw_exitE (fun _ _ => rfl) ?_ | refine awp_cond (t := true) rfl (fun _ => ?_) (fun e => by cases e) | refine awp_cond (t := false) rfl (fun e => by cases e) (fun _ => ?_)))
      refine aw_round ?_
      (repeat (refine st_q rfl rfl rfl ?_))
      rw [show IntKind.wrap .i64 ((j : Int) + 1) = ((j + 1 : Nat) : Int) by rw [w64 _ (by omega) (by omega)]; omega]
      (refine st_nil ?_; (repeat (first | refine kp_cons rfl ?_ | refine kp_skip ?_)); refine kp_nil ?_)
      exact ⟨_, bs.length - (j + 1), HSub.refl _, ⟨j + 1, rfl, rfl, by omega, hXj, rfl⟩, by omega⟩
  · (repeat (first | refine st_q rfl rfl rfl ?_ | refine st_gy rfl (st_q rfl rfl rfl ?_) | refine st_gn rfl ?_ | refine st_gu rfl ?_ | (refine st_nil ?_; (repeat (first | refine kp_cons rfl ?_ | refine kp_skip ?_)); refine kp_nil ?_) | refine awp_seq ?_ | refine aw_end (fun _ _ => rfl) ?_ | refine awp_block ?_ | refine aw_skipE (fun _ _ => rfl) ?_ | refine aw_exitE (fun _ _ => rfl) ?_ | refine awp_cond (t := true) rfl (fun _ => ?_) (fun e => by cases e) | refine awp_cond (t := false) rfl (fun e => by cases e) (fun _ => ?_)))
    rw [List.drop_of_length_le (by omega), idxB] at hXj
    refine awp_ret ?_
    exact ares rfl (HSub.refl _) ⟨by rw [hXj]; rfl, rfl⟩

theorem c_ContainsB (bs : List Bool) (v : Bool) (hl : bs.length ≤ 140737488355328) (σ : AHeap) : ACalls Try.prog f_slices_Contains_bool_bool [.slc 1 (bs.map .bool) false, .bool v] σ fun r σ' => r = .bool (bs.any (· == v)) ∧ σ' = σ := by
  refine acalls_enter rfl slices_Contains_bool_bool_ok (Nat.le_of_ble_eq_true rfl) ?_
  (repeat (first | refine st_q rfl rfl rfl ?_ | refine st_gy rfl (st_q rfl rfl rfl ?_) | refine st_gn rfl ?_ | refine st_gu rfl ?_ | (refine st_nil ?_; (repeat (first | refine kp_cons rfl ?_ | refine kp_skip ?_)); refine kp_nil ?_) | refine awp_seq ?_ | refine aw_end (fun _ _ => rfl) ?_ | refine awp_block ?_ | refine aw_skipE (fun _ _ => rfl) ?_ | refine aw_exitE (fun _ _ => rfl) ?_ | refine awp_cond (t := true) rfl (fun _ => ?_) (fun e => by cases e) | refine awp_cond (t := false) rfl (fun e => by cases e) (fun _ => ?_)))
  refine st_callv rfl (c_IndexB bs v hl _) ?_
  (repeat (first | refine st_q rfl rfl rfl ?_ | refine st_gy rfl (st_q rfl rfl rfl ?_) | refine st_gn rfl ?_ | refine st_gu rfl ?_ | (refine st_nil ?_; (repeat (first | refine kp_cons rfl ?_ | refine kp_skip ?_)); refine kp_nil ?_) | refine awp_seq ?_ | refine aw_end (fun _ _ => rfl) ?_ | refine awp_block ?_ | refine aw_skipE (fun _ _ => rfl) ?_ | refine aw_exitE (fun _ _ => rfl) ?_ | refine awp_cond (t := true) rfl (fun _ => ?_) (fun e => by cases e) | refine awp_cond (t := false) rfl (fun e => by cases e) (fun _ => ?_)))
  refine awp_ret ?_
  exact ares rfl (HSub.refl _) ⟨by rw [← idxB_ge v bs 0]; rfl, rfl⟩

theorem c_Has (c : Col) (hl : c.here.length ≤ 140737488355328) (σ : AHeap) : ACalls Try.prog f_flat_Has [encC c] σ fun r σ' => r = .bool (hasF c) ∧ σ' = σ := by
  refine acalls_enter rfl flat_Has_ok (Nat.le_of_ble_eq_true rfl) ?_
  refine aw_region ?_
  refine st_box rfl (AVal.fit_iff.1 rfl) fun b hb => ?_
  (repeat (refine st_q rfl rfl rfl ?_))
  (refine st_nil ?_; (repeat (first | refine kp_cons rfl ?_ | refine kp_skip ?_)); refine kp_nil ?_)
  refine awp_freezeP (d := 1) (cs := cellsC c) rfl ?_
  (repeat (first | refine st_q rfl rfl rfl ?_ | refine st_gy rfl (st_q rfl rfl rfl ?_) | refine st_gn rfl ?_ | refine st_gu rfl ?_ | (refine st_nil ?_; (repeat (first | refine kp_cons rfl ?_ | refine kp_skip ?_)); refine kp_nil ?_) | refine awp_seq ?_ | refine aw_end (fun _ _ => rfl) ?_ | refine awp_block ?_ | refine aw_skipE (fun _ _ => rfl) ?_ | refine aw_exitE (fun _ _ => rfl) ?_ | refine awp_cond (t := true) rfl (fun _ => ?_) (fun e => by cases e) | refine awp_cond (t := false) rfl (fun e => by cases e) (fun _ => ?_)))
  refine st_callv rfl (c_ContainsB c.here false hl _) ?_
  (repeat (first | refine st_q rfl rfl rfl ?_ | refine st_gy rfl (st_q rfl rfl rfl ?_) | refine st_gn rfl ?_ | refine st_gu rfl ?_ | (refine st_nil ?_; (repeat (first | refine kp_cons rfl ?_ | refine kp_skip ?_)); refine kp_nil ?_) | refine awp_seq ?_ | refine aw_end (fun _ _ => rfl) ?_ | refine awp_block ?_ | refine aw_skipE (fun _ _ => rfl) ?_ | refine aw_exitE (fun _ _ => rfl) ?_ | refine awp_cond (t := true) rfl (fun _ => ?_) (fun e => by cases e) | refine awp_cond (t := false) rfl (fun e => by cases e) (fun _ => ?_)))
  refine awp_ret ?_
  exact ares rfl (HSub.refl _) ⟨by simp [tupOf, hasF], rfl⟩

theorem c_refHas (c : Col) (hl : c.here.length ≤ 140737488355328) (σ : AHeap) : ACalls Try.prog f_ingotref15_Has [encC c] σ fun r σ' => r = .bool (hasF c) ∧ σ' = σ := by
  refine acalls_enter rfl ingotref15_Has_ok (Nat.le_of_ble_eq_true rfl) ?_
  refine aw_region ?_
  refine st_box rfl (AVal.fit_iff.1 rfl) fun b hb => ?_
  (repeat (refine st_q rfl rfl rfl ?_))
  (refine st_nil ?_; (repeat (first | refine kp_cons rfl ?_ | refine kp_skip ?_)); refine kp_nil ?_)
  refine awp_freezeP (d := 1) (cs := cellsC c) rfl ?_
  (repeat (first | refine st_q rfl rfl rfl ?_ | refine st_gy rfl (st_q rfl rfl rfl ?_) | refine st_gn rfl ?_ | refine st_gu rfl ?_ | (refine st_nil ?_; (repeat (first | refine kp_cons rfl ?_ | refine kp_skip ?_)); refine kp_nil ?_) | refine awp_seq ?_ | refine aw_end (fun _ _ => rfl) ?_ | refine awp_block ?_ | refine aw_skipE (fun _ _ => rfl) ?_ | refine aw_exitE (fun _ _ => rfl) ?_ | refine awp_cond (t := true) rfl (fun _ => ?_) (fun e => by cases e) | refine awp_cond (t := false) rfl (fun e => by cases e) (fun _ => ?_)))
  generalize hX : hasF c = X
  have hX' : X = c.here.any (!·) := hX.symm
  refine awp_loopN (fun m F σ' => ∃ (j : Nat), F = fset 1 (some (.iptr (cellsC c))) (fset 3 (some (.int .i64 (j : Int))) fnone) ∧
    σ = σ' ∧ j ≤ c.here.length ∧ X = (c.here.drop j).any (!·) ∧ m = c.here.length - j) (n := c.here.length) ⟨0, rfl, rfl, by omega, hX', rfl⟩ ?_
  rintro m F σ' ⟨j, rfl, rfl, hj, hXj, rfl⟩
  (repeat (first | refine st_q rfl rfl rfl ?_ | refine st_gy rfl (st_q rfl rfl rfl ?_) | refine st_gn rfl ?_ | refine st_gu rfl ?_ | (refine st_nil ?_; (repeat (first | refine kp_cons rfl ?_ | refine kp_skip ?_)); refine kp_nil ?_) | refine awp_seq ?_ | refine aw_end (fun _ _ => rfl) ?_ | refine awp_block ?_ | refine aw_skipE (fun _ _ => rfl) ?_ | refine aw_exitE (fun _ _ => rfl) ?_ | refine awp_cond (t := true) rfl (fun _ => ?_) (fun e => by cases e) | refine awp_cond (t := false) rfl (fun e => by cases e) (fun _ => ?_)))
  rw [show ((c.here.map AVal.bool).length : Int) = (c.here.length : Int) by simp]
  refine awp_condp (p := (j : Int) < (c.here.length : Int)) rfl (fun h3 => ?_) (fun h3 => ?_)
  · have hjl : j < c.here.length := by omega
    rw [List.drop_eq_getElem_cons hjl, List.any_cons] at hXj
    (repeat (first | refine st_q rfl rfl rfl ?_ | refine st_gy rfl (st_q rfl rfl rfl ?_) | refine st_gn rfl ?_ | refine st_gu rfl ?_ | (refine st_nil ?_; (repeat (first | refine kp_cons rfl ?_ | refine kp_skip ?_)); refine kp_nil ?_) | refine awp_seq ?_ | refine aw_end (fun _ _ => rfl) ?_ | refine awp_block ?_ | refine aw_skipE (fun _ _ => rfl) ?_ | refine aw_exitE (fun _ _ => rfl) ?_ | refine awp_cond (t := true) rfl (fun _ => ?_) (fun e => by cases e) | refine awp_cond (t := false) rfl (fun e => by cases e) (fun _ => ?_)))
    refine st_iad rfl (by omega) (map_get hjl) ?_
    (repeat (first | refine st_q rfl rfl rfl ?_ | refine st_gy rfl (st_q rfl rfl rfl ?_) | refine st_gn rfl ?_ | refine st_gu rfl ?_ | (refine st_nil ?_; (repeat (first | refine kp_cons rfl ?_ | refine kp_skip ?_)); refine kp_nil ?_) | refine awp_seq ?_ | refine aw_end (fun _ _ => rfl) ?_ | refine awp_block ?_ | refine aw_skipE (fun _ _ => rfl) ?_ | refine aw_exitE (fun _ _ => rfl) ?_ | refine awp_cond (t := true) rfl (fun _ => ?_) (fun e => by cases e) | refine awp_cond (t := false) rfl (fun e => by cases e) (fun _ => ?_)))
    cases he : c.here[j] with
    | false =>
      rw [he] at hXj
      (repeat (first | refine st_q rfl rfl rfl ?_ | refine st_gy rfl (st_q rfl rfl rfl ?_) | refine st_gn rfl ?_ | refine st_gu rfl ?_ | (refine st_nil ?_; (repeat (first | refine kp_cons rfl ?_ | refine kp_skip ?_)); refine kp_nil ?_) | refine awp_seq ?_ | refine aw_end (fun _ _ => rfl) ?_ | refine awp_block ?_ | refine aw_skipE (fun _ _ => rfl) ?_ | refine aw_exitE (fun _ _ => rfl) ?_ | refine awp_cond (t := true) rfl (fun _ => ?_) (fun e => by cases e) | refine awp_cond (t := false) rfl (fun e => by cases e) (fun _ => ?_)))
      refine awp_ret ?_
      exact ares rfl (HSub.refl _) ⟨by rw [hXj]; rfl, rfl⟩
    | true =>
      rw [he] at hXj
      (repeat (first | refine st_q rfl rfl rfl ?_ | refine st_gy rfl (st_q rfl rfl rfl ?_) | refine st_gn rfl ?_ | refine st_gu rfl ?_ | (refine st_nil ?_; (repeat (first | refine kp_cons rfl ?_ | refine kp_skip ?_)); refine kp_nil ?_) | refine awp_seq ?_ | refine aw_end (fun _ _ => rfl) ?_ | refine awp_block ?_ | refine aw_skipE (fun _ _ => rfl) ?_ | refine aw_exitE (fun _ _ => rfl) ?_ | refine awp_cond (t := true) rfl (fun _ => ?_) (fun e => by cases e) | refine awp_cond (t := false) rfl (fun e => by cases e) (fun _ => ?_)))
      refine aw_round ?_
      (repeat (refine st_q rfl rfl rfl ?_))
      rw [show IntKind.wrap .i64 ((j : Int) + 1) = ((j + 1 : Nat) : Int) by rw [w64 _ (by omega) (by omega)]; omega]
      (refine st_nil ?_; (repeat (first | refine kp_cons rfl ?_ | refine kp_skip ?_)); refine kp_nil ?_)
      exact ⟨_, c.here.length - (j + 1), HSub.refl _, ⟨j + 1, rfl, rfl, by omega, hXj, rfl⟩, by omega⟩
  · (repeat (first | refine st_q rfl rfl rfl ?_ | refine st_gy rfl (st_q rfl rfl rfl ?_) | refine st_gn rfl ?_ | refine st_gu rfl ?_ | (refine st_nil ?_; (repeat (first | refine kp_cons rfl ?_ | refine kp_skip ?_)); refine kp_nil ?_) | refine awp_seq ?_ | refine aw_end (fun _ _ => rfl) ?_ | refine awp_block ?_ | refine aw_skipE (fun _ _ => rfl) ?_ | refine aw_exitE (fun _ _ => rfl) ?_ | refine awp_cond (t := true) rfl (fun _ => ?_) (fun e => by cases e) | refine awp_cond (t := false) rfl (fun e => by cases e) (fun _ => ?_)))
    rw [List.drop_of_length_le (by omega)] at hXj
    refine awp_ret ?_
    exact ares rfl (HSub.refl _) ⟨by rw [hXj]; rfl, rfl⟩
end Go.Abs

/- Contracts: what is known of a column (stat). -/
namespace Go.Abs
open Go Go.Proofs
set_option linter.unusedVariables false
set_option linter.unusedSimpArgs false
set_option maxHeartbeats 4000000
attribute [local irreducible] AWp aops KP

structure Col.Fit (c : Col) : Prop where
  here : c.here.length ≤ 140737488355328
  ints : c.ints.length ≤ 140737488355328
  ns : c.ns.length ≤ 140737488355328
  texts : c.texts.length ≤ 140737488355328
  lens : c.lens.length ≤ 140737488355328
  int : ∀ i ∈ c.ints, -9223372036854775808 ≤ i ∧ i ≤ 9223372036854775807
  text : ∀ t ∈ c.texts, t.length ≤ 140737488355328

def getV (c : Col) (i : Nat) : Vl := .mk false (if i < c.texts.length then 0 else c.ints.getD i 0) (c.ns.getD i 0) (c.texts.getD i []) []
def getA (c : Col) (i : Nat) : Int := if i < c.texts.length then ((c.texts.getD i []).length : Int) else c.ints.getD i 0
def stepV (k : Int) (v : Vl) (add : Int) (s : Stt) : Stt := moreF (if rangesF k = true then spanF k s v v else s) add
def ofFrom (k : Int) (c : Col) : Nat → Nat → Stt → Stt
  | 0, _, s => s
  | m + 1, i, s => ofFrom k c m (i + 1) (stepV k (getV c i) (getA c i) s)
def of0 (k : Int) (c : Col) (n : Nat) : Stt := ⟨n, hasF c, false, vl0, vl0, addsF k, 0⟩
def ofF (k : Int) (c : Col) : Stt := ofFrom k c (max c.ints.length c.texts.length) 0 (of0 k c (c.here.count true))

theorem stepV_sum (k : Int) (v : Vl) (add : Int) (s : Stt) (h : -9223372036854775808 ≤ s.sum ∧ s.sum ≤ 9223372036854775807) : -9223372036854775808 ≤ (stepV k v add s).sum ∧ (stepV k v add s).sum ≤ 9223372036854775807 := by
  have h' : ∀ t : Stt, t.sum = s.sum → -9223372036854775808 ≤ (moreF t add).sum ∧ (moreF t add).sum ≤ 9223372036854775807 := by
    intro t e
    unfold moreF addF
    split
    · simp only
      split
      · assumption
      · simp
    · rw [e]; exact h
  unfold stepV
  refine h' _ ?_
  split <;> rfl

theorem HShift.content {b sz : Nat} {xs ys : List AVal} {σ : AHeap} (hl : ys.length = xs.length) (he : ∀ y ∈ ys, y.elem sz) (hv : VRle (flat xs) (flat ys)) : HShift ((b, .cells sz xs) :: σ) ((b, .cells sz ys) :: σ) :=
  fun K w r => ⟨K, Kr.le.refl K, r.content hl he (hv K)⟩

theorem VRle.nilF (z z' : Nat) : VRle [.slc z [] true] [.slc z' [] false] := (VRle.nil_slc z z' true).trans VRle.full

theorem resCell {F : AFrame} {σ : AHeap} {b s i sz : Nat} {cs xs : List AVal} (hF : F i = some (.ptr b 0 0)) (hg : hget σ b = some (.cells s (.agg cs :: xs))) (hl : cs.length = sz) : resVals F σ [.cell i true sz] = some [.agg cs] := by
  subst hl
  simp [resVals, resVal, hF, aload, hg, part_, AVal.cells]

theorem of_fin {c : ACode} {R R' : APost} (hR : ∀ F σ, R .normal F σ = AWp Try.prog stat_Of.n c R' F σ) (s : Stt) (k : Int) (nd : List AVal) (hnd : nd.length = 8) (hk : nd[0]? = some (.int .i64 k)) (h1 : ∀ c ∈ nd, c.one = true)
    (v : Vl) (hv : v.Cl) (add : Int) (hs : -9223372036854775808 ≤ s.sum ∧ s.sum ≤ 9223372036854775807) (ha : -9223372036854775808 ≤ add ∧ add ≤ 9223372036854775807) (b4 b5 : Nat) (z : ABlk) (C M I : AVal) (σ : AHeap)
    (h : AWp Try.prog stat_Of.n c R' (fset 2 (some (.iptr nd)) (fset 3 (some C) (fset 4 (some (.ptr b4 0 0)) (fset 5 (some (.ptr b5 0 0)) (fset 36 (some M) (fset 37 (some I) fnone)))))) ((b5, .cells 15 [encS (stepV k v add s)]) :: (b4, z) :: σ)) :
    AWp Try.prog stat_Of.n (((stat_Of_l1.snd 2).fst.body).snd 5) R (fset 2 (some (.iptr nd)) (fset 3 (some C) (fset 4 (some (.ptr b4 0 0)) (fset 5 (some (.ptr b5 0 0)) (fset 9 (some (.iptr (cellsV v))) (fset 10 (some (.int .i64 add)) (fset 36 (some M) (fset 37 (some I) fnone)))))))) ((b5, .cells 15 [encS s]) :: (b4, z) :: σ) := by
  match nd, hnd with
  | [n0, n1, n2, n3, n4, n5, n6, n7], _ =>
  simp only [List.getElem?_cons_zero, Option.some.injEq] at hk
  subst hk
  have hsp := c_span s k [.int .i64 k, n1, n2, n3, n4, n5, n6, n7] rfl rfl h1 v v hv hv b5 ((b4, z) :: σ)
  simp only [encV_eq] at hsp
  have last : ∀ s1 : Stt, s1.sum = s.sum → stepV k v add s = moreF s1 add → AWp Try.prog stat_Of.n ((((stat_Of_l1.snd 2).fst.body).snd 6)) R (fset 2 (some (.iptr [.int .i64 k, n1, n2, n3, n4, n5, n6, n7])) (fset 3 (some C) (fset 4 (some (.ptr b4 0 0)) (fset 5 (some (.ptr b5 0 0)) (fset 10 (some (.int .i64 add)) (fset 36 (some M) (fset 37 (some I) fnone))))))) ((b5, .cells 15 [encS s1]) :: (b4, z) :: σ) := by
    intro s1 e1 e2
    refine aw_end hR ?_
    (repeat (refine st_q rfl rfl rfl ?_))
    refine st_callv rfl (c_more s1 add (by rw [e1]; exact hs) ha _ _) ?_
    (refine st_nil ?_; (repeat (first | refine kp_cons rfl ?_ | refine kp_skip ?_)); refine kp_nil ?_)
    rw [← e2]
    exact h
  refine awp_seq ?_
  refine awp_seq ?_
  refine aw_end (fun _ _ => rfl) ?_
  (repeat (refine st_q rfl rfl rfl ?_))
  refine st_callv rfl (c_ranges k _) ?_
  (refine st_nil ?_; (repeat (first | refine kp_cons rfl ?_ | refine kp_skip ?_)); refine kp_nil ?_)
  cases hr : rangesF k with
  | true =>
    (repeat (first | refine st_q rfl rfl rfl ?_ | refine st_gy rfl (st_q rfl rfl rfl ?_) | refine st_gn rfl ?_ | refine st_gu rfl ?_ | (refine st_nil ?_; (repeat (first | refine kp_cons rfl ?_ | refine kp_skip ?_)); refine kp_nil ?_) | refine awp_seq ?_ | refine aw_end (fun _ _ => rfl) ?_ | refine awp_block ?_ | refine aw_skipE (fun _ _ => rfl) ?_ | refine aw_exitE (fun _ _ => rfl) ?_ | refine awp_cond (t := true) rfl (fun _ => ?_) (fun e => by cases e) | refine awp_cond (t := false) rfl (fun e => by cases e) (fun _ => ?_)))
    refine st_callv rfl hsp ?_
    (refine st_nil ?_; (repeat (first | refine kp_cons rfl ?_ | refine kp_skip ?_)); refine kp_nil ?_)
    exact last _ rfl (by rw [stepV, if_pos hr])
  | false =>
    (repeat (first | refine st_q rfl rfl rfl ?_ | refine st_gy rfl (st_q rfl rfl rfl ?_) | refine st_gn rfl ?_ | refine st_gu rfl ?_ | (refine st_nil ?_; (repeat (first | refine kp_cons rfl ?_ | refine kp_skip ?_)); refine kp_nil ?_) | refine awp_seq ?_ | refine aw_end (fun _ _ => rfl) ?_ | refine awp_block ?_ | refine aw_skipE (fun _ _ => rfl) ?_ | refine aw_exitE (fun _ _ => rfl) ?_ | refine awp_cond (t := true) rfl (fun _ => ?_) (fun e => by cases e) | refine awp_cond (t := false) rfl (fun e => by cases e) (fun _ => ?_)))
    refine kp_weaken (keep := [2, 3, 4, 5, 10, 36, 37]) ?_
    ((repeat (first | refine kp_cons rfl ?_ | refine kp_skip ?_)); refine kp_nil ?_)
    exact last s rfl (by rw [stepV, if_neg (by simp [hr])])

/-- One value of a column. -/
theorem of_round {c : ACode} {R R' : APost} (hR : ∀ F σ, R .normal F σ = AWp Try.prog stat_Of.n c R' F σ) (s : Stt) (k : Int) (nd : List AVal) (hnd : nd.length = 8) (hk : nd[0]? = some (.int .i64 k)) (h1 : ∀ c ∈ nd, c.one = true)
    (C : Col) (hC : C.Fit) (i : Nat) (hi : i < max C.ints.length C.texts.length) (hs : -9223372036854775808 ≤ s.sum ∧ s.sum ≤ 9223372036854775807) (b4 b5 : Nat) (z : ABlk) (M : AVal) (σ : AHeap)
    (h : AWp Try.prog stat_Of.n c R' (fset 2 (some (.iptr nd)) (fset 3 (some (.iptr (cellsC C))) (fset 4 (some (.ptr b4 0 0)) (fset 5 (some (.ptr b5 0 0)) (fset 36 (some M) (fset 37 (some (.int .i64 (i : Int))) fnone)))))) ((b5, .cells 15 [encS (stepV k (getV C i) (getA C i) s)]) :: (b4, z) :: σ)) :
    AWp Try.prog stat_Of.n ((stat_Of_l1.snd 2).fst.body) R (fset 2 (some (.iptr nd)) (fset 3 (some (.iptr (cellsC C))) (fset 4 (some (.ptr b4 0 0)) (fset 5 (some (.ptr b5 0 0)) (fset 36 (some M) (fset 37 (some (.int .i64 (i : Int))) fnone)))))) ((b5, .cells 15 [encS s]) :: (b4, z) :: σ) := by
  obtain ⟨hhere, hints, hns, htexts, hlens, hint, htext⟩ := hC
  have hmem : ∀ t, t ∈ C.texts → t.length ≤ 140737488355328 := htext
  have hgetA : -9223372036854775808 ≤ getA C i ∧ getA C i ≤ 9223372036854775807 := by
    unfold getA
    split
    · rename_i h2
      have := htext _ (List.getElem_mem h2)
      rw [List.getD_eq_getElem?_getD, List.getElem?_eq_getElem h2, Option.getD_some]
      omega
    · have h2 : i < C.ints.length := by omega
      rw [List.getD_eq_getElem?_getD, List.getElem?_eq_getElem h2, Option.getD_some]
      exact hint _ (List.getElem_mem h2)
  have hcl : (getV C i).Cl := by
    refine ⟨?_, by simp [getV, Vl.kids], by simp [getV, Vl.kids]⟩
    simp only [getV, Vl.b]
    by_cases h2 : i < C.texts.length
    · rw [List.getD_eq_getElem?_getD, List.getElem?_eq_getElem h2, Option.getD_some]
      exact htext _ (List.getElem_mem h2)
    · rw [List.getD_eq_getElem?_getD, List.getElem?_eq_none (by omega)]
      simp
  refine aw_region ?_
  (repeat (refine st_q rfl rfl rfl ?_))
  (refine st_nil ?_; (repeat (first | refine kp_cons rfl ?_ | refine kp_skip ?_)); refine kp_nil ?_)
  refine aw_region ?_
  refine st_alloc (by simp [AVal.cells, AVal.one]) fun b9 hb9 => ?_
  (refine st_nil ?_; (repeat (first | refine kp_cons rfl ?_ | refine kp_skip ?_)); refine kp_nil ?_)
  refine awp_hshift (HShift.content (ys := [.agg [.bool false, .int .i64 0, .int .i64 0, .slc 1 (bytes []) false, .slc 5 (encVs []) false]]) rfl (by intro y hy; simp at hy; subst hy; exact AVal.fit_iff.1 rfl) (VRle.same (VRle.same (VRle.same (VRle.cons (VRle.nilF _ _) (VRle.cons (VRle.nilF _ _) (VRle.refl _))))))) ?_
  have mid : ∀ (b : List UInt8) (x : Int), getV C i = .mk false x (C.ns.getD i 0) b [] → AWp Try.prog stat_Of.n (((stat_Of_l1.snd 2).fst.body).snd 4) R (fset 2 (some (.iptr nd)) (fset 3 (some (.iptr (cellsC C))) (fset 4 (some (.ptr b4 0 0)) (fset 5 (some (.ptr b5 0 0)) (fset 8 (some (.int .i64 (i : Int))) (fset 9 (some (.ptr b9 0 0)) (fset 10 (some (.int .i64 (getA C i))) (fset 36 (some M) (fset 37 (some (.int .i64 (i : Int))) fnone)))))))))
      ((b9, .cells 5 [.agg [.bool false, .int .i64 x, .int .i64 0, .slc 1 (bytes b) false, .slc 5 (encVs []) false]]) :: (b5, .cells 15 [encS s]) :: (b4, z) :: σ) := by
    intro b x hg
    refine awp_seq ?_
    refine awp_seq ?_
    refine aw_end (fun _ _ => rfl) ?_
    (repeat (refine st_q rfl rfl rfl ?_))
    (refine st_nil ?_; (repeat (first | refine kp_cons rfl ?_ | refine kp_skip ?_)); refine kp_nil ?_)
    rw [show ((C.ns.map (AVal.int .i64)).length : Int) = (C.ns.length : Int) by simp]
    have fin : ∀ y : Int, y = C.ns.getD i 0 → AWp Try.prog stat_Of.n (((stat_Of_l1.snd 2).fst.body).snd 5) R (fset 2 (some (.iptr nd)) (fset 3 (some (.iptr (cellsC C))) (fset 4 (some (.ptr b4 0 0)) (fset 5 (some (.ptr b5 0 0)) (fset 9 (some (.ptr b9 0 0)) (fset 10 (some (.int .i64 (getA C i))) (fset 36 (some M) (fset 37 (some (.int .i64 (i : Int))) fnone))))))))
        ((b9, .cells 5 [.agg [.bool false, .int .i64 x, .int .i64 y, .slc 1 (bytes b) false, .slc 5 (encVs []) false]]) :: (b5, .cells 15 [encS s]) :: (b4, z) :: σ) := by
      intro y hy
      have e : [AVal.bool false, .int .i64 x, .int .i64 y, .slc 1 (bytes b) false, .slc 5 (encVs []) false] = cellsV (getV C i) := by rw [hg, hy]; rfl
      rw [e]
      refine awp_freezeP (d := 9) (cs := cellsV (getV C i)) rfl ?_
      (refine kp_weaken (keep := [2, 3, 4, 5, 9, 10, 36, 37]) ?_; ((repeat (first | refine kp_cons rfl ?_ | refine kp_skip ?_)); refine kp_nil ?_))
      exact of_fin hR s k nd hnd hk h1 _ hcl _ hs hgetA b4 b5 z _ M _ σ h
    refine awp_condp (p := (i : Int) < (C.ns.length : Int)) rfl (fun h3 => ?_) (fun h3 => ?_)
    · have hjl : i < C.ns.length := by omega
      refine aw_end (fun _ _ => rfl) ?_
      (repeat (refine st_q rfl rfl rfl ?_))
      refine st_iad rfl (by omega) (map_get hjl) ?_
      (repeat (refine st_q rfl rfl rfl ?_))
      refine st_store rfl hget_head rfl (by decide) (AVal.fit_iff.1 rfl) (fun h => by cases h) hset_head ?_
      (refine st_nil ?_; (repeat (first | refine kp_cons rfl ?_ | refine kp_skip ?_)); refine kp_nil ?_)
      exact fin _ (by rw [List.getD_eq_getElem?_getD, List.getElem?_eq_getElem hjl, Option.getD_some])
    · refine aw_skipE (fun _ _ => rfl) ?_
      (refine kp_weaken (keep := [2, 3, 4, 5, 9, 10, 36, 37]) ?_; ((repeat (first | refine kp_cons rfl ?_ | refine kp_skip ?_)); refine kp_nil ?_))
      exact fin 0 (by rw [List.getD_eq_getElem?_getD, List.getElem?_eq_none (by omega), Option.getD_none])
  refine aw_region ?_
  (repeat (refine st_q rfl rfl rfl ?_))
  (refine st_nil ?_; (repeat (first | refine kp_cons rfl ?_ | refine kp_skip ?_)); refine kp_nil ?_)
  refine awp_seq ?_
  refine awp_seq ?_
  refine aw_end (fun _ _ => rfl) ?_
  (repeat (refine st_q rfl rfl rfl ?_))
  (refine st_nil ?_; (repeat (first | refine kp_cons rfl ?_ | refine kp_skip ?_)); refine kp_nil ?_)
  rw [show ((C.texts.map fun b => AVal.slc 1 (bytes b) false).length : Int) = (C.texts.length : Int) by simp]
  refine awp_condp (p := (i : Int) < (C.texts.length : Int)) rfl (fun h3 => ?_) (fun h3 => ?_)
  · have hjl : i < C.texts.length := by omega
    have e1 : C.texts.getD i [] = C.texts[i] := by rw [List.getD_eq_getElem?_getD, List.getElem?_eq_getElem hjl, Option.getD_some]
    have e2 : getA C i = (C.texts[i].length : Int) := by rw [getA, if_pos hjl, e1]
    have e3 : getV C i = .mk false 0 (C.ns.getD i 0) C.texts[i] [] := by rw [getV, if_pos hjl, e1]
    (repeat (first | refine st_q rfl rfl rfl ?_ | refine st_gy rfl (st_q rfl rfl rfl ?_) | refine st_gn rfl ?_ | refine st_gu rfl ?_ | (refine st_nil ?_; (repeat (first | refine kp_cons rfl ?_ | refine kp_skip ?_)); refine kp_nil ?_) | refine awp_seq ?_ | refine aw_end (fun _ _ => rfl) ?_ | refine awp_block ?_ | refine aw_skipE (fun _ _ => rfl) ?_ | refine aw_exitE (fun _ _ => rfl) ?_ | refine awp_cond (t := true) rfl (fun _ => ?_) (fun e => by cases e) | refine awp_cond (t := false) rfl (fun e => by cases e) (fun _ => ?_)))
    refine st_iad rfl (by omega) (map_get (f := fun b => AVal.slc 1 (bytes b) false) hjl) ?_
    (repeat (refine st_q rfl rfl rfl ?_))
    refine st_store rfl hget_head rfl (by decide) (AVal.fit_iff.1 rfl) (fun h => by cases h) hset_head ?_
    (refine st_nil ?_; (repeat (first | refine kp_cons rfl ?_ | refine kp_skip ?_)); refine kp_nil ?_)
    refine aw_end (fun _ _ => rfl) ?_
    (repeat (refine st_q rfl rfl rfl ?_))
    refine st_ldp rfl hget_head rfl rfl ?_
    (repeat (refine st_q rfl rfl rfl ?_))
    (refine st_nil ?_; (repeat (first | refine kp_cons rfl ?_ | refine kp_skip ?_)); refine kp_nil ?_)
    rw [show ((bytes C.texts[i]).length : Int) = getA C i by rw [e2]; simp [bytes]]
    exact mid C.texts[i] 0 e3
  · have hjl : i < C.ints.length := by omega
    have e1 : C.ints.getD i 0 = C.ints[i] := by rw [List.getD_eq_getElem?_getD, List.getElem?_eq_getElem hjl, Option.getD_some]
    have e2 : getA C i = C.ints[i] := by rw [getA, if_neg (by omega), e1]
    have e4 : C.texts.getD i [] = [] := by rw [List.getD_eq_getElem?_getD, List.getElem?_eq_none (by omega), Option.getD_none]
    have e3 : getV C i = .mk false C.ints[i] (C.ns.getD i 0) [] [] := by rw [getV, if_neg (by omega), e1, e4]
    (repeat (first | refine st_q rfl rfl rfl ?_ | refine st_gy rfl (st_q rfl rfl rfl ?_) | refine st_gn rfl ?_ | refine st_gu rfl ?_ | (refine st_nil ?_; (repeat (first | refine kp_cons rfl ?_ | refine kp_skip ?_)); refine kp_nil ?_) | refine awp_seq ?_ | refine aw_end (fun _ _ => rfl) ?_ | refine awp_block ?_ | refine aw_skipE (fun _ _ => rfl) ?_ | refine aw_exitE (fun _ _ => rfl) ?_ | refine awp_cond (t := true) rfl (fun _ => ?_) (fun e => by cases e) | refine awp_cond (t := false) rfl (fun e => by cases e) (fun _ => ?_)))
    refine st_iad rfl (by omega) (map_get (f := AVal.int .i64) hjl) ?_
    (repeat (refine st_q rfl rfl rfl ?_))
    refine st_store rfl hget_head rfl (by decide) (AVal.fit_iff.1 rfl) (fun h => by cases h) hset_head ?_
    (refine st_nil ?_; (repeat (first | refine kp_cons rfl ?_ | refine kp_skip ?_)); refine kp_nil ?_)
    refine aw_end (fun _ _ => rfl) ?_
    (repeat (refine st_q rfl rfl rfl ?_))
    refine st_ldp rfl hget_head rfl rfl ?_
    (repeat (refine st_q rfl rfl rfl ?_))
    (refine st_nil ?_; (repeat (first | refine kp_cons rfl ?_ | refine kp_skip ?_)); refine kp_nil ?_)
    rw [← e2] at e3
    have m := mid [] _ e3
    rw [e2] at m
    exact m

/-- How many are: what the first loop has counted. -/
theorem c_Of (k : Int) (nd : List AVal) (hnd : nd.length = 8) (hk : nd[0]? = some (.int .i64 k)) (h1 : ∀ c ∈ nd, c.one = true) (C : Col) (hC : C.Fit) (σ : AHeap) :
    ACalls Try.prog f_stat_Of [.agg nd, encC C] σ fun r σ' => r = encS (ofF k C) ∧ σ' = σ := by
  have hC' := hC
  obtain ⟨hhere, hints, hns, htexts, hlens, hint, htext⟩ := hC'
  have hnd' := hnd
  have hk' := hk
  have h1' := h1
  match nd, hnd with
  | [n0, n1, n2, n3, n4, n5, n6, n7], _ =>
  simp only [List.getElem?_cons_zero, Option.some.injEq] at hk
  subst hk
  refine acalls_enter rfl stat_Of_ok (Nat.le_of_ble_eq_true rfl) ?_
  refine aw_region ?_
  refine st_box rfl ⟨rfl, h1⟩ fun b2 hb2 => ?_
  refine st_box rfl (AVal.fit_iff.1 rfl) fun b3 hb3 => ?_
  refine st_alloc (by simp [AVal.cells, AVal.one]) fun b4 hb4 => ?_
  (refine st_nil ?_; (repeat (first | refine kp_cons rfl ?_ | refine kp_skip ?_)); refine kp_nil ?_)
  refine awp_weaken (FSub.refl _) (HSub.swap _ _ _) ?_
  refine awp_freezeP (d := 3) (cs := cellsC C) rfl ?_
  refine awp_weaken (FSub.refl _) (HSub.swap _ _ _) ?_
  refine awp_freezeP (d := 2) (cs := [.int .i64 k, n1, n2, n3, n4, n5, n6, n7]) rfl ?_
  have main : ∀ z : ABlk, z = .cells 15 [.agg [.int .i64 0, .bool false, .bool false, .bool false, .int .i64 0, .int .i64 0, .slc 0 [] true, .slc 0 [] true, .bool false, .int .i64 0, .int .i64 0, .slc 0 [] true, .slc 0 [] true, .bool false, .int .i64 0]] →
    AWp Try.prog stat_Of.n (stat_Of.code.snd 1) (ARet stat_Of.res fun r σ' => r = encS (ofF k C) ∧ σ' = σ) (fset 2 (some (.iptr [.int .i64 k, n1, n2, n3, n4, n5, n6, n7])) (fset 3 (some (.iptr (cellsC C))) (fset 4 (some (.ptr b4 0 0)) fnone))) ((b4, z) :: σ) := by
    intro z hz
    refine aw_region ?_
    (repeat (refine st_q rfl rfl rfl ?_))
    refine st_callp rfl (fun σ => c_Has C hhere σ) ?_
    (repeat (refine st_q rfl rfl rfl ?_))
    refine st_callp rfl (fun σ => c_adds k σ) ?_
    (repeat (refine st_q rfl rfl rfl ?_))
    refine st_alloc (by simp [AVal.cells, AVal.one]) fun b5 hb5 => ?_
    refine st_store rfl hget_head rfl (by decide) (AVal.fit_iff.1 rfl) (fun h => by cases h) hset_head ?_
    (refine st_nil ?_; (repeat (first | refine kp_cons rfl ?_ | refine kp_skip ?_)); refine kp_nil ?_)
    refine awp_hshift (HShift.content (ys := [encS (of0 k C (0 : Nat))]) rfl (by intro y hy; simp at hy; subst hy; exact AVal.fit_iff.1 rfl)
      (VRle.same (VRle.same (VRle.same (VRle.same (VRle.same (VRle.same (VRle.cons (VRle.nilF _ _) (VRle.cons (VRle.nilF _ _) (VRle.same (VRle.same (VRle.same (VRle.cons (VRle.nilF _ _) (VRle.cons (VRle.nilF _ _) (VRle.refl _))))))))))))))) ?_
    refine awp_seq ?_
    refine aw_region ?_
    (repeat (refine st_q rfl rfl rfl ?_))
    (refine st_nil ?_; (repeat (first | refine kp_cons rfl ?_ | refine kp_skip ?_)); refine kp_nil ?_)
    rw [show ((C.here.map AVal.bool).length : Int) = (C.here.length : Int) by simp]
    refine awp_block ?_
    have hcb : C.here.count true ≤ C.here.length := List.count_le_length
    refine awp_loopN (fun m F σ' => ∃ (j cnt : Nat), F = fset 2 (some (.iptr [.int .i64 k, n1, n2, n3, n4, n5, n6, n7])) (fset 3 (some (.iptr (cellsC C))) (fset 4 (some (.ptr b4 0 0)) (fset 5 (some (.ptr b5 0 0)) (fset 18 (some (.slc 1 (C.here.map .bool) false)) (fset 19 (some (.int .i64 (C.here.length : Int))) (fset 20 (some (.int .i64 (j : Int))) fnone)))))) ∧
      (b5, ABlk.cells 15 [encS (of0 k C cnt)]) :: (b4, z) :: σ = σ' ∧ j ≤ C.here.length ∧ cnt + (C.here.drop j).count true = C.here.count true ∧ m = C.here.length - j) (n := C.here.length) ⟨0, 0, rfl, rfl, by omega, by simp, rfl⟩ ?_
    rintro m F σ' ⟨j, cnt, rfl, rfl, hj, hcnt, rfl⟩
    (repeat (first | refine st_q rfl rfl rfl ?_ | refine st_gy rfl (st_q rfl rfl rfl ?_) | refine st_gn rfl ?_ | refine st_gu rfl ?_ | (refine st_nil ?_; (repeat (first | refine kp_cons rfl ?_ | refine kp_skip ?_)); refine kp_nil ?_) | refine awp_seq ?_ | refine aw_end (fun _ _ => rfl) ?_ | refine awp_block ?_ | refine aw_skipE (fun _ _ => rfl) ?_ | refine aw_exitE (fun _ _ => rfl) ?_ | refine awp_cond (t := true) rfl (fun _ => ?_) (fun e => by cases e) | refine awp_cond (t := false) rfl (fun e => by cases e) (fun _ => ?_)))
    refine awp_condp (p := (j : Int) < (C.here.length : Int)) rfl (fun h3 => ?_) (fun h3 => ?_)
    · have hjl : j < C.here.length := by omega
      rw [List.drop_eq_getElem_cons hjl, List.count_cons] at hcnt
      (repeat (first | refine st_q rfl rfl rfl ?_ | refine st_gy rfl (st_q rfl rfl rfl ?_) | refine st_gn rfl ?_ | refine st_gu rfl ?_ | (refine st_nil ?_; (repeat (first | refine kp_cons rfl ?_ | refine kp_skip ?_)); refine kp_nil ?_) | refine awp_seq ?_ | refine aw_end (fun _ _ => rfl) ?_ | refine awp_block ?_ | refine aw_skipE (fun _ _ => rfl) ?_ | refine aw_exitE (fun _ _ => rfl) ?_ | refine awp_cond (t := true) rfl (fun _ => ?_) (fun e => by cases e) | refine awp_cond (t := false) rfl (fun e => by cases e) (fun _ => ?_)))
      refine st_iad rfl (by omega) (map_get (f := AVal.bool) hjl) ?_
      (repeat (first | refine st_q rfl rfl rfl ?_ | refine st_gy rfl (st_q rfl rfl rfl ?_) | refine st_gn rfl ?_ | refine st_gu rfl ?_ | (refine st_nil ?_; (repeat (first | refine kp_cons rfl ?_ | refine kp_skip ?_)); refine kp_nil ?_) | refine awp_seq ?_ | refine aw_end (fun _ _ => rfl) ?_ | refine awp_block ?_ | refine aw_skipE (fun _ _ => rfl) ?_ | refine aw_exitE (fun _ _ => rfl) ?_ | refine awp_cond (t := true) rfl (fun _ => ?_) (fun e => by cases e) | refine awp_cond (t := false) rfl (fun e => by cases e) (fun _ => ?_)))
      cases he : C.here[j] with
      | false =>
        rw [he] at hcnt
        (repeat (first | refine st_q rfl rfl rfl ?_ | refine st_gy rfl (st_q rfl rfl rfl ?_) | refine st_gn rfl ?_ | refine st_gu rfl ?_ | (refine st_nil ?_; (repeat (first | refine kp_cons rfl ?_ | refine kp_skip ?_)); refine kp_nil ?_) | refine awp_seq ?_ | refine aw_end (fun _ _ => rfl) ?_ | refine awp_block ?_ | refine aw_skipE (fun _ _ => rfl) ?_ | refine aw_exitE (fun _ _ => rfl) ?_ | refine awp_cond (t := true) rfl (fun _ => ?_) (fun e => by cases e) | refine awp_cond (t := false) rfl (fun e => by cases e) (fun _ => ?_)))
        refine aw_round ?_
        (repeat (refine st_q rfl rfl rfl ?_))
        rw [show IntKind.wrap .i64 ((j : Int) + 1) = ((j + 1 : Nat) : Int) by rw [w64 _ (by omega) (by omega)]; omega]
        (refine st_nil ?_; (repeat (first | refine kp_cons rfl ?_ | refine kp_skip ?_)); refine kp_nil ?_)
        exact ⟨_, C.here.length - (j + 1), HSub.refl _, ⟨j + 1, cnt, rfl, rfl, by omega, by simpa using hcnt, rfl⟩, by omega⟩
      | true =>
        rw [he] at hcnt
        simp only [beq_self_eq_true, if_true] at hcnt
        (repeat (first | refine st_q rfl rfl rfl ?_ | refine st_gy rfl (st_q rfl rfl rfl ?_) | refine st_gn rfl ?_ | refine st_gu rfl ?_ | (refine st_nil ?_; (repeat (first | refine kp_cons rfl ?_ | refine kp_skip ?_)); refine kp_nil ?_) | refine awp_seq ?_ | refine aw_end (fun _ _ => rfl) ?_ | refine awp_block ?_ | refine aw_skipE (fun _ _ => rfl) ?_ | refine aw_exitE (fun _ _ => rfl) ?_ | refine awp_cond (t := true) rfl (fun _ => ?_) (fun e => by cases e) | refine awp_cond (t := false) rfl (fun e => by cases e) (fun _ => ?_)))
        refine st_ldp rfl hget_head rfl rfl ?_
        (repeat (refine st_q rfl rfl rfl ?_))
        rw [show IntKind.wrap .i64 ((of0 k C cnt).count + 1) = ((cnt + 1 : Nat) : Int) by show IntKind.wrap .i64 ((cnt : Int) + 1) = _; rw [w64 _ (by omega) (by omega)]; omega]
        refine st_store rfl hget_head rfl (by decide) (AVal.fit_iff.1 rfl) (fun h => by cases h) hset_head ?_
        (refine st_nil ?_; (repeat (first | refine kp_cons rfl ?_ | refine kp_skip ?_)); refine kp_nil ?_)
        refine aw_round ?_
        (repeat (refine st_q rfl rfl rfl ?_))
        rw [show IntKind.wrap .i64 ((j : Int) + 1) = ((j + 1 : Nat) : Int) by rw [w64 _ (by omega) (by omega)]; omega]
        (refine st_nil ?_; (repeat (first | refine kp_cons rfl ?_ | refine kp_skip ?_)); refine kp_nil ?_)
        exact ⟨_, C.here.length - (j + 1), HSub.refl _, ⟨j + 1, cnt + 1, rfl, rfl, by omega, by omega, rfl⟩, by omega⟩
    · rw [List.drop_of_length_le (by omega)] at hcnt
      simp only [List.count_nil, Nat.add_zero] at hcnt
      subst hcnt
      (repeat (first | refine st_q rfl rfl rfl ?_ | refine st_gy rfl (st_q rfl rfl rfl ?_) | refine st_gn rfl ?_ | refine st_gu rfl ?_ | (refine st_nil ?_; (repeat (first | refine kp_cons rfl ?_ | refine kp_skip ?_)); refine kp_nil ?_) | refine awp_seq ?_ | refine aw_end (fun _ _ => rfl) ?_ | refine awp_block ?_ | refine aw_skipE (fun _ _ => rfl) ?_ | refine aw_exitE (fun _ _ => rfl) ?_ | refine awp_cond (t := true) rfl (fun _ => ?_) (fun e => by cases e) | refine awp_cond (t := false) rfl (fun e => by cases e) (fun _ => ?_)))
      generalize hL : max C.ints.length C.texts.length = L
      rw [show (if ((C.texts.map fun b => AVal.slc 1 (bytes b) false).length : Int) > ((C.ints.map (AVal.int .i64)).length : Int) then ((C.texts.map fun b => AVal.slc 1 (bytes b) false).length : Int) else ((C.ints.map (AVal.int .i64)).length : Int)) = (L : Int) by rw [List.length_map, List.length_map]; split <;> omega]
      generalize hX : ofF k C = X
      have hX0 : X = ofFrom k C (L - 0) 0 (of0 k C (C.here.count true)) := by rw [← hX, ofF, hL]; rfl
      refine awp_loopN (fun m F σ' => ∃ (j : Nat) (s : Stt), F = fset 2 (some (.iptr [.int .i64 k, n1, n2, n3, n4, n5, n6, n7])) (fset 3 (some (.iptr (cellsC C))) (fset 4 (some (.ptr b4 0 0)) (fset 5 (some (.ptr b5 0 0)) (fset 36 (some (.int .i64 (L : Int))) (fset 37 (some (.int .i64 (j : Int))) fnone))))) ∧
        (b5, ABlk.cells 15 [encS s]) :: (b4, z) :: σ = σ' ∧ j ≤ L ∧ X = ofFrom k C (L - j) j s ∧ (-9223372036854775808 ≤ s.sum ∧ s.sum ≤ 9223372036854775807) ∧ m = L - j) (n := L) ⟨0, _, rfl, rfl, by omega, hX0, by simp [of0], rfl⟩ ?_
      rintro m F σ' ⟨j, s, rfl, rfl, hj, hXj, hs, rfl⟩
      (repeat (first | refine st_q rfl rfl rfl ?_ | refine st_gy rfl (st_q rfl rfl rfl ?_) | refine st_gn rfl ?_ | refine st_gu rfl ?_ | (refine st_nil ?_; (repeat (first | refine kp_cons rfl ?_ | refine kp_skip ?_)); refine kp_nil ?_) | refine awp_seq ?_ | refine aw_end (fun _ _ => rfl) ?_ | refine awp_block ?_ | refine aw_skipE (fun _ _ => rfl) ?_ | refine aw_exitE (fun _ _ => rfl) ?_ | refine awp_cond (t := true) rfl (fun _ => ?_) (fun e => by cases e) | refine awp_cond (t := false) rfl (fun e => by cases e) (fun _ => ?_)))
      refine awp_condp (p := (j : Int) < (L : Int)) rfl (fun h3 => ?_) (fun h3 => ?_)
      · have hjl : j < L := by omega
        obtain ⟨r, hr⟩ : ∃ r, L - j = r + 1 := ⟨L - j - 1, by omega⟩
        rw [hr, ofFrom] at hXj
        refine aw_skipE (fun _ _ => rfl) ?_
        refine awp_seq ?_
        refine awp_block ?_
        (refine kp_weaken (keep := [2, 3, 4, 5, 36, 37]) ?_; ((repeat (first | refine kp_cons rfl ?_ | refine kp_skip ?_)); refine kp_nil ?_))
        refine of_round (fun _ _ => rfl) s k [.int .i64 k, n1, n2, n3, n4, n5, n6, n7] rfl rfl h1 C hC j (by omega) hs b4 b5 z _ σ ?_
        refine aw_round ?_
        (repeat (refine st_q rfl rfl rfl ?_))
        rw [show IntKind.wrap .i64 ((j : Int) + 1) = ((j + 1 : Nat) : Int) by rw [w64 _ (by omega) (by omega)]; omega]
        (refine st_nil ?_; (repeat (first | refine kp_cons rfl ?_ | refine kp_skip ?_)); refine kp_nil ?_)
        exact ⟨_, L - (j + 1), HSub.refl _, ⟨j + 1, _, rfl, rfl, by omega, by rw [hXj, show L - (j + 1) = r by omega], stepV_sum _ _ _ _ hs, rfl⟩, by omega⟩
      · rw [show L - j = 0 by omega, ofFrom] at hXj
        subst hXj
        subst hz
        (repeat (first | refine st_q rfl rfl rfl ?_ | refine st_gy rfl (st_q rfl rfl rfl ?_) | refine st_gn rfl ?_ | refine st_gu rfl ?_ | (refine st_nil ?_; (repeat (first | refine kp_cons rfl ?_ | refine kp_skip ?_)); refine kp_nil ?_) | refine awp_seq ?_ | refine aw_end (fun _ _ => rfl) ?_ | refine awp_block ?_ | refine aw_skipE (fun _ _ => rfl) ?_ | refine aw_exitE (fun _ _ => rfl) ?_ | refine awp_cond (t := true) rfl (fun _ => ?_) (fun e => by cases e) | refine awp_cond (t := false) rfl (fun e => by cases e) (fun _ => ?_)))
        refine st_ldp rfl hget_head rfl rfl ?_
        (repeat (refine st_q rfl rfl rfl ?_))
        refine st_store rfl (hget_tail (fun e => hb5 (by rw [e]; simp [keys])) hget_head) rfl (by decide) (AVal.fit_iff.1 rfl) (fun h => by cases h) (hset_tail (fun e => hb5 (by rw [e]; simp [keys])) hset_head) ?_
        (refine st_nil ?_; (repeat (first | refine kp_cons rfl ?_ | refine kp_skip ?_)); refine kp_nil ?_)
        refine awp_weaken (FSub.refl _) (HSub.tail _ _) ?_
        refine awp_ret ?_
        exact ares (vs := [encS X]) (resCell rfl hget_head rfl) (HSub.tail _ _) ⟨rfl, rfl⟩
  (refine kp_weaken (keep := [2, 3, 4]) ?_; ((repeat (first | refine kp_cons rfl ?_ | refine kp_skip ?_)); refine kp_nil ?_))
  exact main _ rfl

theorem c_Empty (k : Int) (nd : List AVal) (hnd : nd.length = 8) (hk : nd[0]? = some (.int .i64 k)) (h1 : ∀ c ∈ nd, c.one = true) (σ : AHeap) :
    ACalls Try.prog f_stat_Empty [.agg nd] σ fun r σ' => r = encS (ofF k ⟨[], [], [], [], []⟩) ∧ σ' = σ := by
  have hO := c_Of k nd hnd hk h1 ⟨[], [], [], [], []⟩ ⟨by simp, by simp, by simp, by simp, by simp, by simp, by simp⟩
  have hO' : ∀ σ, ACalls Try.prog f_stat_Of [.agg nd, .agg [.slc 0 [] true, .slc 0 [] true, .slc 0 [] true, .slc 0 [] true, .slc 0 [] true]] σ fun r σ' => r = encS (ofF k ⟨[], [], [], [], []⟩) ∧ σ' = σ := by
    intro σ
    refine (hO σ).args ?_
    exact VRle.same (VRle.agg (by simp [AVal.one, cellsC]) (VRle.cons (VRle.nilF _ _) (VRle.cons (VRle.nilF _ _) (VRle.cons (VRle.nilF _ _) (VRle.cons (VRle.nilF _ _) (VRle.nilF _ _))))))
  match nd, hnd with
  | [n0, n1, n2, n3, n4, n5, n6, n7], _ =>
  refine acalls_enter rfl stat_Empty_ok (Nat.le_of_ble_eq_true rfl) ?_
  refine aw_region ?_
  refine st_box rfl ⟨rfl, h1⟩ fun b1 hb1 => ?_
  refine st_alloc (by simp [AVal.cells, AVal.one]) fun b2 hb2 => ?_
  (refine st_nil ?_; (repeat (first | refine kp_cons rfl ?_ | refine kp_skip ?_)); refine kp_nil ?_)
  refine awp_weaken (FSub.refl _) (HSub.swap _ _ _) ?_
  refine awp_freezeP (d := 1) (cs := [n0, n1, n2, n3, n4, n5, n6, n7]) rfl ?_
  refine aw_region ?_
  (repeat (refine st_q rfl rfl rfl ?_))
  refine st_callv rfl (hO' _) ?_
  (repeat (refine st_q rfl rfl rfl ?_))
  refine st_store rfl hget_head rfl (by decide) (AVal.fit_iff.1 rfl) (fun h => by cases h) hset_head ?_
  (refine st_nil ?_; (repeat (first | refine kp_cons rfl ?_ | refine kp_skip ?_)); refine kp_nil ?_)
  refine awp_ret ?_
  exact ares (vs := [encS (ofF k ⟨[], [], [], [], []⟩)]) (resCell rfl hget_head rfl) (HSub.tail _ _) ⟨rfl, rfl⟩
end Go.Abs

/- Contracts: two statistics as one (stat). -/
namespace Go.Abs
open Go Go.Proofs
set_option linter.unusedVariables false
set_option linter.unusedSimpArgs false
set_option maxHeartbeats 4000000
attribute [local irreducible] AWp aops KP

structure Stt.Fit (s : Stt) : Prop where
  min : s.min.Cl
  max : s.max.Cl
  sum : -9223372036854775808 ≤ s.sum ∧ s.sum ≤ 9223372036854775807

def merge0 (a b : Stt) : Stt := ⟨IntKind.wrap .i64 (a.count + b.count), a.null || b.null, false, vl0, vl0, a.sums && b.sums, 0⟩
def merge1 (a b : Stt) : Stt := if (merge0 a b).sums = true then moreF (moreF (merge0 a b) a.sum) b.sum else merge0 a b
def spansF (k : Int) : List Stt → Stt → Stt
  | [], s => s
  | x :: xs, s => spansF k xs (if x.has = true then spanF k s x.min x.max else s)
def mergeF (k : Int) (a b : Stt) : Stt := spansF k [a, b] (merge1 a b)

theorem merge_sum (a b : Stt) (ha : a.Fit) (hb : b.Fit) : (-9223372036854775808 ≤ (moreF (merge0 a b) a.sum).sum ∧ (moreF (merge0 a b) a.sum).sum ≤ 9223372036854775807) := by
  unfold moreF addF
  split
  · simp only
    split
    · assumption
    · simp
  · simp [merge0]

theorem c_Merge (k : Int) (nd : List AVal) (hnd : nd.length = 8) (hk : nd[0]? = some (.int .i64 k)) (h1 : ∀ c ∈ nd, c.one = true) (x y : Stt) (hx : x.Fit) (hy : y.Fit) (σ : AHeap) :
    ACalls Try.prog f_stat_Merge [.agg nd, encS x, encS y] σ fun r σ' => r = encS (mergeF k x y) ∧ σ' = σ := by
  match nd, hnd with
  | [n0, n1, n2, n3, n4, n5, n6, n7], _ =>
  simp only [List.getElem?_cons_zero, Option.some.injEq] at hk
  subst hk
  refine acalls_enter rfl stat_Merge_ok (Nat.le_of_ble_eq_true rfl) ?_
  refine aw_region ?_
  refine st_box rfl ⟨rfl, h1⟩ fun b3 hb3 => ?_
  refine st_box rfl (AVal.fit_iff.1 rfl) fun b4 hb4 => ?_
  refine st_box rfl (AVal.fit_iff.1 rfl) fun b5 hb5 => ?_
  refine st_alloc (by simp [AVal.cells, AVal.one]) fun b6 hb6 => ?_
  (refine st_nil ?_; (repeat (first | refine kp_cons rfl ?_ | refine kp_skip ?_)); refine kp_nil ?_)
  refine awp_weaken (FSub.refl _) (HSub.swap _ _ _) ?_
  refine awp_freezeP (d := 5) (cs := cellsS y) rfl ?_
  refine awp_weaken (FSub.refl _) (HSub.swap _ _ _) ?_
  refine awp_freezeP (d := 4) (cs := cellsS x) rfl ?_
  refine awp_weaken (FSub.refl _) (HSub.swap _ _ _) ?_
  refine awp_freezeP (d := 3) (cs := [.int .i64 k, n1, n2, n3, n4, n5, n6, n7]) rfl ?_
  have main : ∀ z : ABlk, z = .cells 15 [.agg [.int .i64 0, .bool false, .bool false, .bool false, .int .i64 0, .int .i64 0, .slc 0 [] true, .slc 0 [] true, .bool false, .int .i64 0, .int .i64 0, .slc 0 [] true, .slc 0 [] true, .bool false, .int .i64 0]] →
    AWp Try.prog stat_Merge.n (stat_Merge.code.snd 1) (ARet stat_Merge.res fun r σ' => r = encS (mergeF k x y) ∧ σ' = σ) (fset 3 (some (.iptr [.int .i64 k, n1, n2, n3, n4, n5, n6, n7])) (fset 4 (some (.iptr (cellsS x))) (fset 5 (some (.iptr (cellsS y))) (fset 6 (some (.ptr b6 0 0)) fnone)))) ((b6, z) :: σ) := by
    intro z hz
    have main2 : ∀ b7, b7 ∉ keys ((b6, z) :: σ) → AWp Try.prog stat_Merge.n (stat_Merge.code.snd 2) (ARet stat_Merge.res fun r σ' => r = encS (mergeF k x y) ∧ σ' = σ) (fset 3 (some (.iptr [.int .i64 k, n1, n2, n3, n4, n5, n6, n7])) (fset 4 (some (.iptr (cellsS x))) (fset 5 (some (.iptr (cellsS y))) (fset 6 (some (.ptr b6 0 0)) (fset 7 (some (.ptr b7 0 0)) fnone))))) ((b7, .cells 15 [encS (merge0 x y)]) :: (b6, z) :: σ) := by
      intro b7 hb7
      have main3 : AWp Try.prog stat_Merge.n (stat_Merge.code.snd 3) (ARet stat_Merge.res fun r σ' => r = encS (mergeF k x y) ∧ σ' = σ) (fset 3 (some (.iptr [.int .i64 k, n1, n2, n3, n4, n5, n6, n7])) (fset 4 (some (.iptr (cellsS x))) (fset 5 (some (.iptr (cellsS y))) (fset 6 (some (.ptr b6 0 0)) (fset 7 (some (.ptr b7 0 0)) fnone))))) ((b7, .cells 15 [encS (merge1 x y)]) :: (b6, z) :: σ) := by
        refine awp_seq ?_
        refine awp_seq ?_
        refine aw_end (fun _ _ => rfl) ?_
        (repeat (refine st_q rfl rfl rfl ?_))
        (refine st_nil ?_; (repeat (first | refine kp_cons rfl ?_ | refine kp_skip ?_)); refine kp_nil ?_)
        refine awp_block ?_
        generalize hX : mergeF k x y = X
        have hX0 : X = spansF k ([x, y].drop 0) (merge1 x y) := by rw [← hX, mergeF]; rfl
        refine awp_loopN (fun m F σ' => ∃ (j : Nat) (s : Stt), F = fset 3 (some (.iptr [.int .i64 k, n1, n2, n3, n4, n5, n6, n7])) (fset 6 (some (.ptr b6 0 0)) (fset 7 (some (.ptr b7 0 0)) (fset 38 (some (.slc 15 ([x, y].map encS) true)) (fset 39 (some (.int .i64 2)) (fset 40 (some (.int .i64 (j : Int))) fnone))))) ∧
          (b7, ABlk.cells 15 [encS s]) :: (b6, z) :: σ = σ' ∧ j ≤ 2 ∧ X = spansF k ([x, y].drop j) s ∧ m = 2 - j) (n := 2) ⟨0, _, rfl, rfl, by omega, hX0, rfl⟩ ?_
        rintro m F σ' ⟨j, s, rfl, rfl, hj, hXj, rfl⟩
        (repeat (first | refine st_q rfl rfl rfl ?_ | refine st_gy rfl (st_q rfl rfl rfl ?_) | refine st_gn rfl ?_ | refine st_gu rfl ?_ | (refine st_nil ?_; (repeat (first | refine kp_cons rfl ?_ | refine kp_skip ?_)); refine kp_nil ?_) | refine awp_seq ?_ | refine aw_end (fun _ _ => rfl) ?_ | refine awp_block ?_ | refine aw_skipE (fun _ _ => rfl) ?_ | refine aw_exitE (fun _ _ => rfl) ?_ | refine awp_cond (t := true) rfl (fun _ => ?_) (fun e => by cases e) | refine awp_cond (t := false) rfl (fun e => by cases e) (fun _ => ?_)))
        refine awp_condp (p := (j : Int) < 2) rfl (fun h3 => ?_) (fun h3 => ?_)
        · have hjl : j < [x, y].length := by simp; omega
          rw [List.drop_eq_getElem_cons hjl, spansF] at hXj
          have hg := map_get (f := encS) hjl
          have hF : ([x, y][j]).Fit := by
            have := List.getElem_mem hjl
            simp only [List.mem_cons, List.not_mem_nil, or_false] at this
            rcases this with h | h <;> rw [h] <;> assumption
          generalize [x, y][j] = w at hXj hg hF
          have hsp := c_span s k [.int .i64 k, n1, n2, n3, n4, n5, n6, n7] rfl rfl h1 w.min w.max hF.min hF.max b7 ((b6, z) :: σ)
          simp only [encV_eq] at hsp
          have round : ∀ s' : Stt, X = spansF k (List.drop (j + 1) [x, y]) s' → AWp Try.prog stat_Merge.n (.region stat_Merge_r10 [3, 6, 7, 38, 39, 40]) (ALess (fun m F σ' => ∃ (j : Nat) (s : Stt), F = fset 3 (some (.iptr [.int .i64 k, n1, n2, n3, n4, n5, n6, n7])) (fset 6 (some (.ptr b6 0 0)) (fset 7 (some (.ptr b7 0 0)) (fset 38 (some (.slc 15 ([x, y].map encS) true)) (fset 39 (some (.int .i64 2)) (fset 40 (some (.int .i64 (j : Int))) fnone))))) ∧
              (b7, ABlk.cells 15 [encS s]) :: (b6, z) :: σ = σ' ∧ j ≤ 2 ∧ X = spansF k ([x, y].drop j) s ∧ m = 2 - j) (2 - j) (AInBlock 0 (AThen Try.prog stat_Merge.n (stat_Merge.code.snd 4) (ARet stat_Merge.res fun r σ' => r = encS X ∧ σ' = σ))))
              (fset 3 (some (.iptr [.int .i64 k, n1, n2, n3, n4, n5, n6, n7])) (fset 6 (some (.ptr b6 0 0)) (fset 7 (some (.ptr b7 0 0)) (fset 38 (some (.slc 15 ([x, y].map encS) true)) (fset 39 (some (.int .i64 2)) (fset 40 (some (.int .i64 (j : Int))) fnone)))))) ((b7, .cells 15 [encS s']) :: (b6, z) :: σ) := by
            intro s' hs'
            refine aw_round ?_
            (repeat (refine st_q rfl rfl rfl ?_))
            rw [show IntKind.wrap .i64 ((j : Int) + 1) = ((j + 1 : Nat) : Int) by rw [w64 _ (by omega) (by omega)]; omega]
            (refine st_nil ?_; (repeat (first | refine kp_cons rfl ?_ | refine kp_skip ?_)); refine kp_nil ?_)
            exact ⟨_, 2 - (j + 1), HSub.refl _, ⟨j + 1, _, rfl, rfl, by omega, hs', rfl⟩, by omega⟩
          refine aw_skipE (fun _ _ => rfl) ?_
          refine awp_seq ?_
          refine awp_block ?_
          refine aw_region ?_
          (repeat (refine st_q rfl rfl rfl ?_))
          refine st_iad rfl (by omega) hg ?_
          (repeat (refine st_q rfl rfl rfl ?_))
          refine st_alloc (by simp [AVal.cells, AVal.one]) fun b9 hb9 => ?_
          refine st_store rfl hget_head rfl (by decide) (AVal.fit_iff.1 rfl) (fun h => by cases h) hset_head ?_
          (refine st_nil ?_; (repeat (first | refine kp_cons rfl ?_ | refine kp_skip ?_)); refine kp_nil ?_)
          refine awp_freezeP (d := 9) (cs := cellsS w) rfl ?_
          refine aw_region ?_
          (repeat (refine st_q rfl rfl rfl ?_))
          (refine st_nil ?_; (repeat (first | refine kp_cons rfl ?_ | refine kp_skip ?_)); refine kp_nil ?_)
          cases hh : w.has with
          | true =>
            rw [hh, if_pos rfl] at hXj
            (repeat (first | refine st_q rfl rfl rfl ?_ | refine st_gy rfl (st_q rfl rfl rfl ?_) | refine st_gn rfl ?_ | refine st_gu rfl ?_ | (refine st_nil ?_; (repeat (first | refine kp_cons rfl ?_ | refine kp_skip ?_)); refine kp_nil ?_) | refine awp_seq ?_ | refine aw_end (fun _ _ => rfl) ?_ | refine awp_block ?_ | refine aw_skipE (fun _ _ => rfl) ?_ | refine aw_exitE (fun _ _ => rfl) ?_ | refine awp_cond (t := true) rfl (fun _ => ?_) (fun e => by cases e) | refine awp_cond (t := false) rfl (fun e => by cases e) (fun _ => ?_)))
            refine st_callv rfl hsp ?_
            (refine st_nil ?_; (repeat (first | refine kp_cons rfl ?_ | refine kp_skip ?_)); refine kp_nil ?_)
            exact round _ hXj
          | false =>
            rw [hh, if_neg (by simp)] at hXj
            (repeat (first | refine st_q rfl rfl rfl ?_ | refine st_gy rfl (st_q rfl rfl rfl ?_) | refine st_gn rfl ?_ | refine st_gu rfl ?_ | (refine st_nil ?_; (repeat (first | refine kp_cons rfl ?_ | refine kp_skip ?_)); refine kp_nil ?_) | refine awp_seq ?_ | refine aw_end (fun _ _ => rfl) ?_ | refine awp_block ?_ | refine aw_skipE (fun _ _ => rfl) ?_ | refine aw_exitE (fun _ _ => rfl) ?_ | refine awp_cond (t := true) rfl (fun _ => ?_) (fun e => by cases e) | refine awp_cond (t := false) rfl (fun e => by cases e) (fun _ => ?_)))
            refine kp_weaken (keep := [3, 6, 7, 38, 39, 40]) ?_
            ((repeat (first | refine kp_cons rfl ?_ | refine kp_skip ?_)); refine kp_nil ?_)
            exact round _ hXj
        · have hjl : j = 2 := by omega
          subst hjl
          rw [show List.drop 2 [x, y] = [] from rfl, spansF] at hXj
          subst hXj
          subst hz
          (repeat (first | refine st_q rfl rfl rfl ?_ | refine st_gy rfl (st_q rfl rfl rfl ?_) | refine st_gn rfl ?_ | refine st_gu rfl ?_ | (refine st_nil ?_; (repeat (first | refine kp_cons rfl ?_ | refine kp_skip ?_)); refine kp_nil ?_) | refine awp_seq ?_ | refine aw_end (fun _ _ => rfl) ?_ | refine awp_block ?_ | refine aw_skipE (fun _ _ => rfl) ?_ | refine aw_exitE (fun _ _ => rfl) ?_ | refine awp_cond (t := true) rfl (fun _ => ?_) (fun e => by cases e) | refine awp_cond (t := false) rfl (fun e => by cases e) (fun _ => ?_)))
          refine st_ldp rfl hget_head rfl rfl ?_
          (repeat (refine st_q rfl rfl rfl ?_))
          refine st_store rfl (hget_tail (fun e => hb7 (by rw [e]; simp [keys])) hget_head) rfl (by decide) (AVal.fit_iff.1 rfl) (fun h => by cases h) (hset_tail (fun e => hb7 (by rw [e]; simp [keys])) hset_head) ?_
          (refine st_nil ?_; (repeat (first | refine kp_cons rfl ?_ | refine kp_skip ?_)); refine kp_nil ?_)
          refine awp_weaken (FSub.refl _) (HSub.tail _ _) ?_
          refine awp_ret ?_
          exact ares (vs := [encS X]) (resCell rfl hget_head rfl) (HSub.tail _ _) ⟨rfl, rfl⟩
      refine awp_seq ?_
      refine awp_seq ?_
      refine aw_end (fun _ _ => rfl) ?_
      (repeat (refine st_q rfl rfl rfl ?_))
      refine st_ldp rfl hget_head rfl rfl ?_
      (refine st_nil ?_; (repeat (first | refine kp_cons rfl ?_ | refine kp_skip ?_)); refine kp_nil ?_)
      cases hs : (merge0 x y).sums with
      | true =>
        rw [merge1, if_pos hs] at main3
        (repeat (first | refine st_q rfl rfl rfl ?_ | refine st_gy rfl (st_q rfl rfl rfl ?_) | refine st_gn rfl ?_ | refine st_gu rfl ?_ | (refine st_nil ?_; (repeat (first | refine kp_cons rfl ?_ | refine kp_skip ?_)); refine kp_nil ?_) | refine awp_seq ?_ | refine aw_end (fun _ _ => rfl) ?_ | refine awp_block ?_ | refine aw_skipE (fun _ _ => rfl) ?_ | refine aw_exitE (fun _ _ => rfl) ?_ | refine awp_cond (t := true) rfl (fun _ => ?_) (fun e => by cases e) | refine awp_cond (t := false) rfl (fun e => by cases e) (fun _ => ?_)))
        refine st_callv rfl (c_more (merge0 x y) x.sum (by simp [merge0]) hx.sum _ _) ?_
        (repeat (first | refine st_q rfl rfl rfl ?_ | refine st_gy rfl (st_q rfl rfl rfl ?_) | refine st_gn rfl ?_ | refine st_gu rfl ?_ | (refine st_nil ?_; (repeat (first | refine kp_cons rfl ?_ | refine kp_skip ?_)); refine kp_nil ?_) | refine awp_seq ?_ | refine aw_end (fun _ _ => rfl) ?_ | refine awp_block ?_ | refine aw_skipE (fun _ _ => rfl) ?_ | refine aw_exitE (fun _ _ => rfl) ?_ | refine awp_cond (t := true) rfl (fun _ => ?_) (fun e => by cases e) | refine awp_cond (t := false) rfl (fun e => by cases e) (fun _ => ?_)))
        refine st_callv rfl (c_more _ y.sum (merge_sum x y hx hy) hy.sum _ _) ?_
        (refine st_nil ?_; (repeat (first | refine kp_cons rfl ?_ | refine kp_skip ?_)); refine kp_nil ?_)
        exact main3
      | false =>
        rw [merge1, if_neg (by simp [hs])] at main3
        refine awp_cond (t := false) rfl (fun e => by cases e) (fun _ => ?_)
        refine aw_skipE (fun _ _ => rfl) ?_
        (refine kp_weaken (keep := [3, 4, 5, 6, 7]) ?_; ((repeat (first | refine kp_cons rfl ?_ | refine kp_skip ?_)); refine kp_nil ?_))
        exact main3
    have tail : ∀ (nn ss : Bool) (b7 : Nat), b7 ∉ keys ((b6, z) :: σ) → nn = (x.null || y.null) → ss = (x.sums && y.sums) →
        AWp Try.prog stat_Merge.n (stat_Merge.code.snd 2) (ARet stat_Merge.res fun r σ' => r = encS (mergeF k x y) ∧ σ' = σ) (fset 3 (some (.iptr [.int .i64 k, n1, n2, n3, n4, n5, n6, n7])) (fset 4 (some (.iptr (cellsS x))) (fset 5 (some (.iptr (cellsS y))) (fset 6 (some (.ptr b6 0 0)) (fset 7 (some (.ptr b7 0 0)) fnone)))))
          ((b7, .cells 15 [.agg [.int .i64 (IntKind.wrap .i64 (x.count + y.count)), .bool nn, .bool false, .bool false, .int .i64 0, .int .i64 0, .slc 0 [] true, .slc 0 [] true, .bool false, .int .i64 0, .int .i64 0, .slc 0 [] true, .slc 0 [] true, .bool ss, .int .i64 0]]) :: (b6, z) :: σ) := by
      intro nn ss b7 hb7 e1 e2
      subst e1 e2
      refine awp_hshift (HShift.content (ys := [encS (merge0 x y)]) rfl (by intro y hy; simp at hy; subst hy; exact AVal.fit_iff.1 rfl)
        (VRle.same (VRle.same (VRle.same (VRle.same (VRle.same (VRle.same (VRle.cons (VRle.nilF _ _) (VRle.cons (VRle.nilF _ _) (VRle.same (VRle.same (VRle.same (VRle.cons (VRle.nilF _ _) (VRle.cons (VRle.nilF _ _) (VRle.refl _))))))))))))))) ?_
      exact main2 b7 hb7
    refine aw_region ?_
    (repeat (refine st_q rfl rfl rfl ?_))
    cases hn : x.null with
    | true =>
      (repeat (first | refine st_q rfl rfl rfl ?_ | refine st_gy rfl (st_q rfl rfl rfl ?_) | refine st_gn rfl ?_ | refine st_gu rfl ?_))
      cases hs : x.sums with
      | true =>
        (repeat (first | refine st_q rfl rfl rfl ?_ | refine st_gy rfl (st_q rfl rfl rfl ?_) | refine st_gn rfl ?_ | refine st_gu rfl ?_))
        refine st_alloc (by simp [AVal.cells, AVal.one]) fun b7 hb7 => ?_
        refine st_store rfl hget_head rfl (by decide) (AVal.fit_iff.1 rfl) (fun h => by cases h) hset_head ?_
        (refine st_nil ?_; (repeat (first | refine kp_cons rfl ?_ | refine kp_skip ?_)); refine kp_nil ?_)
        exact tail _ _ b7 hb7 (by rw [hn]; rfl) (by rw [hs]; rfl)
      | false =>
        (repeat (first | refine st_q rfl rfl rfl ?_ | refine st_gy rfl (st_q rfl rfl rfl ?_) | refine st_gn rfl ?_ | refine st_gu rfl ?_))
        refine st_alloc (by simp [AVal.cells, AVal.one]) fun b7 hb7 => ?_
        refine st_store rfl hget_head rfl (by decide) (AVal.fit_iff.1 rfl) (fun h => by cases h) hset_head ?_
        (refine st_nil ?_; (repeat (first | refine kp_cons rfl ?_ | refine kp_skip ?_)); refine kp_nil ?_)
        exact tail _ _ b7 hb7 (by rw [hn]; rfl) (by rw [hs]; rfl)
    | false =>
      (repeat (first | refine st_q rfl rfl rfl ?_ | refine st_gy rfl (st_q rfl rfl rfl ?_) | refine st_gn rfl ?_ | refine st_gu rfl ?_))
      cases hs : x.sums with
      | true =>
        (repeat (first | refine st_q rfl rfl rfl ?_ | refine st_gy rfl (st_q rfl rfl rfl ?_) | refine st_gn rfl ?_ | refine st_gu rfl ?_))
        refine st_alloc (by simp [AVal.cells, AVal.one]) fun b7 hb7 => ?_
        refine st_store rfl hget_head rfl (by decide) (AVal.fit_iff.1 rfl) (fun h => by cases h) hset_head ?_
        (refine st_nil ?_; (repeat (first | refine kp_cons rfl ?_ | refine kp_skip ?_)); refine kp_nil ?_)
        exact tail _ _ b7 hb7 (by rw [hn]; rfl) (by rw [hs]; rfl)
      | false =>
        (repeat (first | refine st_q rfl rfl rfl ?_ | refine st_gy rfl (st_q rfl rfl rfl ?_) | refine st_gn rfl ?_ | refine st_gu rfl ?_))
        refine st_alloc (by simp [AVal.cells, AVal.one]) fun b7 hb7 => ?_
        refine st_store rfl hget_head rfl (by decide) (AVal.fit_iff.1 rfl) (fun h => by cases h) hset_head ?_
        (refine st_nil ?_; (repeat (first | refine kp_cons rfl ?_ | refine kp_skip ?_)); refine kp_nil ?_)
        exact tail _ _ b7 hb7 (by rw [hn]; rfl) (by rw [hs]; rfl)
  (refine kp_weaken (keep := [3, 4, 5, 6]) ?_; ((repeat (first | refine kp_cons rfl ?_ | refine kp_skip ?_)); refine kp_nil ?_))
  exact main _ rfl
end Go.Abs

/- Contracts: are statistics the same (stat). -/
namespace Go.Abs
open Go Go.Proofs
set_option linter.unusedVariables false
set_option linter.unusedSimpArgs false
set_option maxHeartbeats 4000000
attribute [local irreducible] AWp aops KP

theorem c_bytesEqual (a b : List UInt8) (ha : a.length ≤ 140737488355328) (hb : b.length ≤ 140737488355328) (σ : AHeap) : ACalls Try.prog f_bytes_Equal [.slc 1 (bytes a) false, .slc 1 (bytes b) false] σ fun r σ' => r = .bool (decide (a = b)) ∧ σ' = σ := by
  refine acalls_enter rfl bytes_Equal_ok (Nat.le_of_ble_eq_true rfl) ?_
  (repeat (first | refine st_q rfl rfl rfl ?_ | refine st_gy rfl (st_q rfl rfl rfl ?_) | refine st_gn rfl ?_ | refine st_gu rfl ?_ | (refine st_nil ?_; (repeat (first | refine kp_cons rfl ?_ | refine kp_skip ?_)); refine kp_nil ?_) | refine awp_seq ?_ | refine aw_end (fun _ _ => rfl) ?_ | refine awp_block ?_ | refine aw_skipE (fun _ _ => rfl) ?_ | refine aw_exitE (fun _ _ => rfl) ?_ | refine awp_cond (t := true) rfl (fun _ => ?_) (fun e => by cases e) | refine awp_cond (t := false) rfl (fun e => by cases e) (fun _ => ?_)))
  refine st_q rfl (v := .str a) (by simp [aquiet, ab2s, elemsOf, toBytes_bytes]) rfl ?_
  (repeat (refine st_q rfl rfl rfl ?_))
  refine st_q rfl (v := .str b) (by simp [aquiet, ab2s, elemsOf, toBytes_bytes]) rfl ?_
  (repeat (first | refine st_q rfl rfl rfl ?_ | refine st_gy rfl (st_q rfl rfl rfl ?_) | refine st_gn rfl ?_ | refine st_gu rfl ?_ | (refine st_nil ?_; (repeat (first | refine kp_cons rfl ?_ | refine kp_skip ?_)); refine kp_nil ?_) | refine awp_seq ?_ | refine aw_end (fun _ _ => rfl) ?_ | refine awp_block ?_ | refine aw_skipE (fun _ _ => rfl) ?_ | refine aw_exitE (fun _ _ => rfl) ?_ | refine awp_cond (t := true) rfl (fun _ => ?_) (fun e => by cases e) | refine awp_cond (t := false) rfl (fun e => by cases e) (fun _ => ?_)))
  refine awp_ret ?_
  exact ares rfl (HSub.refl _) ⟨rfl, rfl⟩

def sameV (a b : Vl) : Bool := (a.null == b.null) && (decide (a.i = b.i) && (decide (a.n = b.n) && (decide (a.b = b.b) && decide ((a.kids.length : Int) = (b.kids.length : Int)))))
def sameS (a b : Stt) : Bool := decide (a.count = b.count) && ((a.null == b.null) && ((a.has == b.has) && (sameV a.min b.min && (sameV a.max b.max && ((a.sums == b.sums) && decide (a.sum = b.sum))))))

theorem c_same (x y : Vl) (hx : x.b.length ≤ 140737488355328) (hy : y.b.length ≤ 140737488355328) (σ : AHeap) : ACalls Try.prog f_stat_same [encV x, encV y] σ fun r σ' => r = .bool (sameV x y) ∧ σ' = σ := by
  simp only [encV_eq]
  have enl : ∀ l : List Vl, (encVs l).length = l.length := by intro l; induction l <;> simp_all [encVs]
  refine acalls_enter rfl stat_same_ok (Nat.le_of_ble_eq_true rfl) ?_
  refine aw_region ?_
  refine st_box rfl (AVal.fit_iff.1 rfl) fun b2 hb2 => ?_
  refine st_box rfl (AVal.fit_iff.1 rfl) fun b3 hb3 => ?_
  (repeat (refine st_q rfl rfl rfl ?_))
  (refine st_nil ?_; (repeat (first | refine kp_cons rfl ?_ | refine kp_skip ?_)); refine kp_nil ?_)
  refine awp_freezeP (d := 3) (cs := cellsV y) rfl ?_
  refine awp_freezeP (d := 2) (cs := cellsV x) rfl ?_
  refine aw_region ?_
  (repeat (first | refine st_q rfl rfl rfl ?_ | refine st_gy rfl (st_q rfl rfl rfl ?_) | refine st_gn rfl ?_ | refine st_gu rfl ?_))
  unfold sameV
  generalize (x.null == y.null) = q0
  cases q0 with
  | false =>
    (repeat (first | refine st_q rfl rfl rfl ?_ | refine st_gy rfl (st_q rfl rfl rfl ?_) | refine st_gn rfl ?_ | refine st_gu rfl ?_))
    (refine st_nil ?_; (repeat (first | refine kp_cons rfl ?_ | refine kp_skip ?_)); refine kp_nil ?_)
    refine awp_ret ?_
    exact ares rfl (HSub.refl _) ⟨rfl, rfl⟩
  | true =>
  (repeat (first | refine st_q rfl rfl rfl ?_ | refine st_gy rfl (st_q rfl rfl rfl ?_) | refine st_gn rfl ?_ | refine st_gu rfl ?_))
  generalize decide (x.i = y.i) = q1
  cases q1 with
  | false =>
    (repeat (first | refine st_q rfl rfl rfl ?_ | refine st_gy rfl (st_q rfl rfl rfl ?_) | refine st_gn rfl ?_ | refine st_gu rfl ?_))
    (refine st_nil ?_; (repeat (first | refine kp_cons rfl ?_ | refine kp_skip ?_)); refine kp_nil ?_)
    refine awp_ret ?_
    exact ares rfl (HSub.refl _) ⟨rfl, rfl⟩
  | true =>
  (repeat (first | refine st_q rfl rfl rfl ?_ | refine st_gy rfl (st_q rfl rfl rfl ?_) | refine st_gn rfl ?_ | refine st_gu rfl ?_))
  generalize decide (x.n = y.n) = q2
  cases q2 with
  | false =>
    (repeat (first | refine st_q rfl rfl rfl ?_ | refine st_gy rfl (st_q rfl rfl rfl ?_) | refine st_gn rfl ?_ | refine st_gu rfl ?_))
    (refine st_nil ?_; (repeat (first | refine kp_cons rfl ?_ | refine kp_skip ?_)); refine kp_nil ?_)
    refine awp_ret ?_
    exact ares rfl (HSub.refl _) ⟨rfl, rfl⟩
  | true =>
  (repeat (first | refine st_q rfl rfl rfl ?_ | refine st_gy rfl (st_q rfl rfl rfl ?_) | refine st_gn rfl ?_ | refine st_gu rfl ?_))
  refine st_gy rfl (st_callv rfl (c_bytesEqual x.b y.b hx hy _) ?_)
  (repeat (first | refine st_q rfl rfl rfl ?_ | refine st_gy rfl (st_q rfl rfl rfl ?_) | refine st_gn rfl ?_ | refine st_gu rfl ?_))
  generalize decide (x.b = y.b) = q3
  cases q3 with
  | false =>
    (repeat (first | refine st_q rfl rfl rfl ?_ | refine st_gy rfl (st_q rfl rfl rfl ?_) | refine st_gn rfl ?_ | refine st_gu rfl ?_))
    (refine st_nil ?_; (repeat (first | refine kp_cons rfl ?_ | refine kp_skip ?_)); refine kp_nil ?_)
    refine awp_ret ?_
    exact ares rfl (HSub.refl _) ⟨rfl, rfl⟩
  | true =>
  (repeat (first | refine st_q rfl rfl rfl ?_ | refine st_gy rfl (st_q rfl rfl rfl ?_) | refine st_gn rfl ?_ | refine st_gu rfl ?_))
  (refine st_nil ?_; (repeat (first | refine kp_cons rfl ?_ | refine kp_skip ?_)); refine kp_nil ?_)
  refine awp_ret ?_
  exact ares rfl (HSub.refl _) ⟨by simp [tupOf, enl], rfl⟩

theorem c_Same (x y : Stt) (hx : x.Fit) (hy : y.Fit) (σ : AHeap) : ACalls Try.prog f_stat_Same [encS x, encS y] σ fun r σ' => r = .bool (sameS x y) ∧ σ' = σ := by
  have cl : ∀ v : Vl, v.Cl → v.b.length ≤ 140737488355328 := fun v h => by cases h; assumption
  have hmin := c_same x.min y.min (cl _ hx.min) (cl _ hy.min)
  have hmax := c_same x.max y.max (cl _ hx.max) (cl _ hy.max)
  simp only [encV_eq] at hmin hmax
  refine acalls_enter rfl stat_Same_ok (Nat.le_of_ble_eq_true rfl) ?_
  refine aw_region ?_
  refine st_box rfl (AVal.fit_iff.1 rfl) fun b2 hb2 => ?_
  refine st_box rfl (AVal.fit_iff.1 rfl) fun b3 hb3 => ?_
  (repeat (refine st_q rfl rfl rfl ?_))
  (refine st_nil ?_; (repeat (first | refine kp_cons rfl ?_ | refine kp_skip ?_)); refine kp_nil ?_)
  refine awp_freezeP (d := 3) (cs := cellsS y) rfl ?_
  refine awp_freezeP (d := 2) (cs := cellsS x) rfl ?_
  refine aw_region ?_
  (repeat (first | refine st_q rfl rfl rfl ?_ | refine st_gy rfl (st_q rfl rfl rfl ?_) | refine st_gn rfl ?_ | refine st_gu rfl ?_))
  unfold sameS
  generalize decide (x.count = y.count) = q
  cases q with
  | false =>
    (repeat (first | refine st_q rfl rfl rfl ?_ | refine st_gy rfl (st_q rfl rfl rfl ?_) | refine st_gn rfl ?_ | refine st_gu rfl ?_))
    (refine st_nil ?_; (repeat (first | refine kp_cons rfl ?_ | refine kp_skip ?_)); refine kp_nil ?_)
    refine awp_ret ?_
    exact ares rfl (HSub.refl _) ⟨rfl, rfl⟩
  | true =>
  (repeat (first | refine st_q rfl rfl rfl ?_ | refine st_gy rfl (st_q rfl rfl rfl ?_) | refine st_gn rfl ?_ | refine st_gu rfl ?_))
  generalize (x.null == y.null) = q
  cases q with
  | false =>
    (repeat (first | refine st_q rfl rfl rfl ?_ | refine st_gy rfl (st_q rfl rfl rfl ?_) | refine st_gn rfl ?_ | refine st_gu rfl ?_))
    (refine st_nil ?_; (repeat (first | refine kp_cons rfl ?_ | refine kp_skip ?_)); refine kp_nil ?_)
    refine awp_ret ?_
    exact ares rfl (HSub.refl _) ⟨rfl, rfl⟩
  | true =>
  (repeat (first | refine st_q rfl rfl rfl ?_ | refine st_gy rfl (st_q rfl rfl rfl ?_) | refine st_gn rfl ?_ | refine st_gu rfl ?_))
  generalize (x.has == y.has) = q
  cases q with
  | false =>
    (repeat (first | refine st_q rfl rfl rfl ?_ | refine st_gy rfl (st_q rfl rfl rfl ?_) | refine st_gn rfl ?_ | refine st_gu rfl ?_))
    (refine st_nil ?_; (repeat (first | refine kp_cons rfl ?_ | refine kp_skip ?_)); refine kp_nil ?_)
    refine awp_ret ?_
    exact ares rfl (HSub.refl _) ⟨rfl, rfl⟩
  | true =>
  (repeat (first | refine st_q rfl rfl rfl ?_ | refine st_gy rfl (st_q rfl rfl rfl ?_) | refine st_gn rfl ?_ | refine st_gu rfl ?_))
  refine st_gy rfl (st_callv rfl (hmin _) ?_)
  generalize sameV x.min y.min = q
  cases q with
  | false =>
    (repeat (first | refine st_q rfl rfl rfl ?_ | refine st_gy rfl (st_q rfl rfl rfl ?_) | refine st_gn rfl ?_ | refine st_gu rfl ?_))
    (refine st_nil ?_; (repeat (first | refine kp_cons rfl ?_ | refine kp_skip ?_)); refine kp_nil ?_)
    refine awp_ret ?_
    exact ares rfl (HSub.refl _) ⟨rfl, rfl⟩
  | true =>
  (repeat (first | refine st_q rfl rfl rfl ?_ | refine st_gy rfl (st_q rfl rfl rfl ?_) | refine st_gn rfl ?_ | refine st_gu rfl ?_))
  refine st_gy rfl (st_callv rfl (hmax _) ?_)
  generalize sameV x.max y.max = q
  cases q with
  | false =>
    (repeat (first | refine st_q rfl rfl rfl ?_ | refine st_gy rfl (st_q rfl rfl rfl ?_) | refine st_gn rfl ?_ | refine st_gu rfl ?_))
    (refine st_nil ?_; (repeat (first | refine kp_cons rfl ?_ | refine kp_skip ?_)); refine kp_nil ?_)
    refine awp_ret ?_
    exact ares rfl (HSub.refl _) ⟨rfl, rfl⟩
  | true =>
  (repeat (first | refine st_q rfl rfl rfl ?_ | refine st_gy rfl (st_q rfl rfl rfl ?_) | refine st_gn rfl ?_ | refine st_gu rfl ?_))
  generalize (x.sums == y.sums) = q
  cases q with
  | false =>
    (repeat (first | refine st_q rfl rfl rfl ?_ | refine st_gy rfl (st_q rfl rfl rfl ?_) | refine st_gn rfl ?_ | refine st_gu rfl ?_))
    (refine st_nil ?_; (repeat (first | refine kp_cons rfl ?_ | refine kp_skip ?_)); refine kp_nil ?_)
    refine awp_ret ?_
    exact ares rfl (HSub.refl _) ⟨rfl, rfl⟩
  | true =>
  (repeat (first | refine st_q rfl rfl rfl ?_ | refine st_gy rfl (st_q rfl rfl rfl ?_) | refine st_gn rfl ?_ | refine st_gu rfl ?_))
  (refine st_nil ?_; (repeat (first | refine kp_cons rfl ?_ | refine kp_skip ?_)); refine kp_nil ?_)
  refine awp_ret ?_
  exact ares rfl (HSub.refl _) ⟨by simp [tupOf], rfl⟩

theorem c_To15 (C : Col) (σ : AHeap) : ACalls Try.prog f_ingotlaw15_To [encC C] σ fun r σ' => r = encC C ∧ σ' = σ := by
  refine acalls_enter rfl ingotlaw15_To_ok (Nat.le_of_ble_eq_true rfl) ?_
  refine aw_region ?_
  refine st_box rfl (AVal.fit_iff.1 rfl) fun b1 hb1 => ?_
  refine st_alloc (by simp [AVal.cells, AVal.one]) fun b2 hb2 => ?_
  (refine st_nil ?_; (repeat (first | refine kp_cons rfl ?_ | refine kp_skip ?_)); refine kp_nil ?_)
  refine awp_weaken (FSub.refl _) (HSub.swap _ _ _) ?_
  refine awp_freezeP (d := 1) (cs := cellsC C) rfl ?_
  refine aw_region ?_
  (repeat (refine st_q rfl rfl rfl ?_))
  refine st_store rfl hget_head rfl (by decide) (AVal.fit_iff.1 rfl) (fun h => by cases h) hset_head ?_
  (refine st_nil ?_; (repeat (first | refine kp_cons rfl ?_ | refine kp_skip ?_)); refine kp_nil ?_)
  refine awp_ret ?_
  exact ares (vs := [encC C]) (resCell rfl hget_head rfl) (HSub.tail _ _) ⟨rfl, rfl⟩

theorem c_Of16 (s : Stt) (σ : AHeap) : ACalls Try.prog f_ingotlaw16_Of [encS s] σ fun r σ' => r = encS s ∧ σ' = σ := by
  refine acalls_enter rfl ingotlaw16_Of_ok (Nat.le_of_ble_eq_true rfl) ?_
  refine aw_region ?_
  refine st_box rfl (AVal.fit_iff.1 rfl) fun b1 hb1 => ?_
  refine st_alloc (by simp [AVal.cells, AVal.one]) fun b2 hb2 => ?_
  (refine st_nil ?_; (repeat (first | refine kp_cons rfl ?_ | refine kp_skip ?_)); refine kp_nil ?_)
  refine awp_weaken (FSub.refl _) (HSub.swap _ _ _) ?_
  refine awp_freezeP (d := 1) (cs := cellsS s) rfl ?_
  refine aw_region ?_
  (repeat (refine st_q rfl rfl rfl ?_))
  refine st_store rfl hget_head rfl (by decide) (AVal.fit_iff.1 rfl) (fun h => by cases h) hset_head ?_
  (refine st_nil ?_; (repeat (first | refine kp_cons rfl ?_ | refine kp_skip ?_)); refine kp_nil ?_)
  refine awp_ret ?_
  exact ares (vs := [encS s]) (resCell rfl hget_head rfl) (HSub.tail _ _) ⟨rfl, rfl⟩
end Go.Abs

