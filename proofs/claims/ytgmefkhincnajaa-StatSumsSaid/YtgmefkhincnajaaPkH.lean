/- Part H of a proof: merged by program. -/
import Derived.Test.YtgmefkhincnajaaPkG
import Derived.Test.YtgmefkhincnajaaProg
import Derived.KernelRfl
namespace Go.Abs
open Go
def ingotref16_Same_r0 : List AOper := [
  ⟨some 2, (.box 15), [.t 0], none⟩,
  ⟨some 3, (.box 15), [.t 1], none⟩,
  ⟨some 4, .mov, [.c (.bool false)], none⟩]
def ingotref16_Same_r1 : List AOper := [
  ⟨some 5, (.fad 0), [.t 2], none⟩,
  ⟨some 6, (.load false 1), [.t 5], none⟩,
  ⟨some 7, (.fad 0), [.t 3], none⟩,
  ⟨some 8, (.load false 1), [.t 7], none⟩,
  ⟨some 9, (.bin .eql), [.t 6, .t 8], none⟩,
  ⟨some 10, .mov, [.t 9], none⟩,
  ⟨some 11, (.fad 1), [.t 2], some (10, true)⟩,
  ⟨some 12, (.load false 1), [.t 11], some (10, true)⟩,
  ⟨some 13, (.fad 1), [.t 3], some (10, true)⟩,
  ⟨some 14, (.load false 1), [.t 13], some (10, true)⟩,
  ⟨some 15, (.binb .eql), [.t 12, .t 14], some (10, true)⟩,
  ⟨some 16, .pick, [.t 10, .t 15, .c (.bool false)], none⟩,
  ⟨some 17, .mov, [.t 16], none⟩,
  ⟨some 18, (.fad 2), [.t 2], some (17, true)⟩,
  ⟨some 19, (.load false 1), [.t 18], some (17, true)⟩,
  ⟨some 20, (.fad 2), [.t 3], some (17, true)⟩,
  ⟨some 21, (.load false 1), [.t 20], some (17, true)⟩,
  ⟨some 22, (.binb .eql), [.t 19, .t 21], some (17, true)⟩,
  ⟨some 23, .pick, [.t 17, .t 22, .c (.bool false)], none⟩,
  ⟨some 24, .mov, [.t 23], none⟩,
  ⟨some 25, (.fad 3), [.t 2], some (24, true)⟩,
  ⟨some 26, (.load true 5), [.t 25], some (24, true)⟩,
  ⟨some 27, (.fad 3), [.t 3], some (24, true)⟩,
  ⟨some 28, (.load true 5), [.t 27], some (24, true)⟩,
  ⟨some 29, (.call f_ingotref14_Same), [.t 26, .t 28], some (24, true)⟩,
  ⟨some 30, .pick, [.t 24, .t 29, .c (.bool false)], none⟩,
  ⟨some 31, .mov, [.t 30], none⟩,
  ⟨some 32, (.fad 8), [.t 2], some (31, true)⟩,
  ⟨some 33, (.load true 5), [.t 32], some (31, true)⟩,
  ⟨some 34, (.fad 8), [.t 3], some (31, true)⟩,
  ⟨some 35, (.load true 5), [.t 34], some (31, true)⟩,
  ⟨some 36, (.call f_ingotref14_Same), [.t 33, .t 35], some (31, true)⟩,
  ⟨some 37, .pick, [.t 31, .t 36, .c (.bool false)], none⟩,
  ⟨some 38, .mov, [.t 37], none⟩,
  ⟨some 39, (.fad 13), [.t 2], some (38, true)⟩,
  ⟨some 40, (.load false 1), [.t 39], some (38, true)⟩,
  ⟨some 41, (.fad 13), [.t 3], some (38, true)⟩,
  ⟨some 42, (.load false 1), [.t 41], some (38, true)⟩,
  ⟨some 43, (.binb .eql), [.t 40, .t 42], some (38, true)⟩,
  ⟨some 44, .pick, [.t 38, .t 43, .c (.bool false)], none⟩,
  ⟨some 45, .mov, [.t 44], none⟩,
  ⟨some 46, (.fad 14), [.t 2], some (45, true)⟩,
  ⟨some 47, (.load false 1), [.t 46], some (45, true)⟩,
  ⟨some 48, (.fad 14), [.t 3], some (45, true)⟩,
  ⟨some 49, (.load false 1), [.t 48], some (45, true)⟩,
  ⟨some 50, (.bin .eql), [.t 47, .t 49], some (45, true)⟩,
  ⟨some 51, .pick, [.t 45, .t 50, .c (.bool false)], none⟩,
  ⟨some 4, .mov, [.t 51], none⟩]
def ingotref16_Same : AFunc := ⟨52, (.seq (.region ingotref16_Same_r0 [2, 3]) (.seq (.region ingotref16_Same_r1 [4]) .ret)), [.t 4]⟩
def ingotref16_Merge_r0 : List AOper := [
  ⟨some 3, (.box 6), [.t 0], none⟩,
  ⟨some 4, (.box 15), [.t 1], none⟩,
  ⟨some 5, (.box 15), [.t 2], none⟩,
  ⟨some 6, (.alloc (.agg [(.int .i64 0), (.bool false), (.bool false), (.bool false), (.int .i64 0), (.int .i64 0), (.slc 0 [] true), (.slc 0 [] true), (.bool false), (.int .i64 0), (.int .i64 0), (.slc 0 [] true), (.slc 0 [] true), (.bool false), (.int .i64 0)])), [], none⟩]
def ingotref16_Merge_r1 : List AOper := [
  ⟨some 12, (.fad 0), [.t 4], none⟩,
  ⟨some 13, (.load false 1), [.t 12], none⟩,
  ⟨some 14, (.fad 0), [.t 5], none⟩,
  ⟨some 15, (.load false 1), [.t 14], none⟩,
  ⟨some 16, (.bin .add), [.t 13, .t 15], none⟩,
  ⟨some 17, (.fad 1), [.t 4], none⟩,
  ⟨some 18, (.load false 1), [.t 17], none⟩,
  ⟨some 19, .mov, [.t 18], none⟩,
  ⟨some 20, (.fad 1), [.t 5], some (19, false)⟩,
  ⟨some 21, (.load false 1), [.t 20], some (19, false)⟩,
  ⟨some 22, .pick, [.t 19, .c (.bool true), .t 21], none⟩,
  ⟨some 23, (.fad 2), [.t 4], none⟩,
  ⟨some 24, (.load false 1), [.t 23], none⟩,
  ⟨some 25, .mov, [.t 24], none⟩,
  ⟨some 26, (.fad 2), [.t 5], some (25, false)⟩,
  ⟨some 27, (.load false 1), [.t 26], some (25, false)⟩,
  ⟨some 28, .pick, [.t 25, .c (.bool true), .t 27], none⟩,
  ⟨some 29, (.fad 3), [.t 4], none⟩,
  ⟨some 30, (.load true 5), [.t 29], none⟩,
  ⟨some 31, (.fad 8), [.t 4], none⟩,
  ⟨some 32, (.load true 5), [.t 31], none⟩,
  ⟨some 33, (.bld [(.int .i64 0), (.bool false), (.bool false), (.bool false), (.int .i64 0), (.int .i64 0), (.slc 0 [] true), (.slc 0 [] true), (.bool false), (.int .i64 0), (.int .i64 0), (.slc 0 [] true), (.slc 0 [] true), (.bool false), (.int .i64 0)] [(0, 1), (1, 1), (2, 1), (3, 5), (8, 5)]), [.t 16, .t 22, .t 28, .t 30, .t 32], none⟩,
  ⟨some 7, (.alloc (.agg [(.int .i64 0), (.bool false), (.bool false), (.bool false), (.int .i64 0), (.int .i64 0), (.slc 0 [] true), (.slc 0 [] true), (.bool false), (.int .i64 0), (.int .i64 0), (.slc 0 [] true), (.slc 0 [] true), (.bool false), (.int .i64 0)])), [], none⟩,
  ⟨none, (.store 15), [.t 7, .t 33], none⟩]
def ingotref16_Merge_r2 : List AOper := [
  ⟨some 34, (.fad 13), [.t 4], none⟩,
  ⟨some 35, (.load false 1), [.t 34], none⟩,
  ⟨some 36, .mov, [.t 35], none⟩,
  ⟨some 37, (.fad 13), [.t 5], some (36, true)⟩,
  ⟨some 38, (.load false 1), [.t 37], some (36, true)⟩,
  ⟨some 39, .pick, [.t 36, .t 38, .c (.bool false)], none⟩]
def ingotref16_Merge_r3 : List AOper := [
  ⟨some 41, (.fad 14), [.t 4], none⟩,
  ⟨some 42, (.load false 1), [.t 41], none⟩,
  ⟨some 43, (.fad 14), [.t 5], none⟩,
  ⟨some 44, (.load false 1), [.t 43], none⟩,
  ⟨some 45, (.call f_ingotref1_Add), [.t 42, .t 44], none⟩,
  ⟨some 40, .mov, [.t 45], none⟩,
  ⟨some 46, (.ext 0), [.t 40], none⟩,
  ⟨some 47, (.ext 1), [.t 40], none⟩,
  ⟨some 48, (.fad 14), [.t 7], none⟩,
  ⟨none, (.store 1), [.t 48, .t 46], none⟩,
  ⟨some 49, (.fad 13), [.t 7], none⟩,
  ⟨none, (.store 1), [.t 49, .t 47], none⟩]
def ingotref16_Merge_r4 : List AOper := [
  ⟨some 50, (.fad 2), [.t 4], none⟩,
  ⟨some 51, (.load false 1), [.t 50], none⟩,
  ⟨some 52, .unot, [.t 51], none⟩]
def ingotref16_Merge_r5 : List AOper := [
  ⟨some 53, (.fad 3), [.t 5], none⟩,
  ⟨some 54, (.load true 5), [.t 53], none⟩,
  ⟨some 55, (.fad 3), [.t 7], none⟩,
  ⟨none, (.store 5), [.t 55, .t 54], none⟩]
def ingotref16_Merge_r6 : List AOper := [
  ⟨some 56, (.fad 8), [.t 5], none⟩,
  ⟨some 57, (.load true 5), [.t 56], none⟩,
  ⟨some 58, (.fad 8), [.t 7], none⟩,
  ⟨none, (.store 5), [.t 58, .t 57], none⟩]
def ingotref16_Merge_r7 : List AOper := [
  ⟨some 59, (.fad 2), [.t 5], none⟩,
  ⟨some 60, (.load false 1), [.t 59], none⟩]
def ingotref16_Merge_r8 : List AOper := [
  ⟨some 62, (.load true 6), [.t 3], none⟩,
  ⟨some 63, (.fad 3), [.t 5], none⟩,
  ⟨some 64, (.load true 5), [.t 63], none⟩,
  ⟨some 65, (.fad 3), [.t 4], none⟩,
  ⟨some 66, (.load true 5), [.t 65], none⟩,
  ⟨some 67, (.call f_ingotref14_Compare), [.t 62, .t 64, .t 66], none⟩,
  ⟨some 61, .mov, [.t 67], none⟩,
  ⟨some 68, (.ext 0), [.t 61], none⟩,
  ⟨some 69, (.ext 1), [.t 61], none⟩,
  ⟨some 8, .mov, [.t 68], none⟩,
  ⟨some 9, .mov, [.t 69], none⟩]
def ingotref16_Merge_r9 : List AOper := [
  ⟨some 71, (.load true 6), [.t 3], none⟩,
  ⟨some 72, (.fad 8), [.t 5], none⟩,
  ⟨some 73, (.load true 5), [.t 72], none⟩,
  ⟨some 74, (.fad 8), [.t 4], none⟩,
  ⟨some 75, (.load true 5), [.t 74], none⟩,
  ⟨some 76, (.call f_ingotref14_Compare), [.t 71, .t 73, .t 75], none⟩,
  ⟨some 70, .mov, [.t 76], none⟩,
  ⟨some 77, (.ext 0), [.t 70], none⟩,
  ⟨some 78, (.ext 1), [.t 70], none⟩,
  ⟨some 10, .mov, [.t 77], none⟩,
  ⟨some 11, .mov, [.t 78], none⟩]
def ingotref16_Merge_r10 : List AOper := [
  ⟨some 79, .mov, [.t 8], none⟩,
  ⟨some 80, (.bin .lss), [.t 79, .c (.int .i64 0)], none⟩]
def ingotref16_Merge_r11 : List AOper := [
  ⟨some 81, (.fad 3), [.t 5], none⟩,
  ⟨some 82, (.load true 5), [.t 81], none⟩,
  ⟨some 83, (.fad 3), [.t 7], none⟩,
  ⟨none, (.store 5), [.t 83, .t 82], none⟩]
def ingotref16_Merge_r12 : List AOper := [
  ⟨some 84, .mov, [.t 10], none⟩,
  ⟨some 85, (.bin .gtr), [.t 84, .c (.int .i64 0)], none⟩]
def ingotref16_Merge_r13 : List AOper := [
  ⟨some 86, (.fad 8), [.t 5], none⟩,
  ⟨some 87, (.load true 5), [.t 86], none⟩,
  ⟨some 88, (.fad 8), [.t 7], none⟩,
  ⟨none, (.store 5), [.t 88, .t 87], none⟩]
def ingotref16_Merge_r14 : List AOper := [
  ⟨some 89, (.load true 15), [.t 7], none⟩,
  ⟨none, (.store 15), [.t 6, .t 89], none⟩]
def ingotref16_Merge : AFunc := ⟨90, (.seq (.region ingotref16_Merge_r0 [3, 4, 5, 6]) (.seq (.region ingotref16_Merge_r1 [3, 4, 5, 6, 7]) (.seq (.seq (.region ingotref16_Merge_r2 [3, 4, 5, 6, 7, 39]) (.cond (.t 39) (.region ingotref16_Merge_r3 [3, 4, 5, 6, 7]) .skip)) (.seq (.seq (.region ingotref16_Merge_r4 [3, 4, 5, 6, 7, 52]) (.cond (.t 52) (.seq (.region ingotref16_Merge_r5 [5, 6, 7]) (.region ingotref16_Merge_r6 [6, 7])) (.seq (.region ingotref16_Merge_r7 [3, 4, 5, 6, 7, 60]) (.cond (.t 60) (.seq (.region ingotref16_Merge_r8 [3, 4, 5, 6, 7, 8]) (.seq (.region ingotref16_Merge_r9 [5, 6, 7, 8, 10]) (.seq (.seq (.region ingotref16_Merge_r10 [5, 6, 7, 10, 80]) (.cond (.t 80) (.region ingotref16_Merge_r11 [5, 6, 7, 10]) .skip)) (.seq (.region ingotref16_Merge_r12 [5, 6, 7, 85]) (.cond (.t 85) (.region ingotref16_Merge_r13 [6, 7]) .skip))))) .skip)))) (.seq (.region ingotref16_Merge_r14 [6]) .ret))))), [.cell 6 true 15]⟩
def ingotref16_Adds_r0 : List AOper := [
  ⟨some 2, .mov, [.c (.bool false)], none⟩]
def ingotref16_Adds_r1 : List AOper := [
  ⟨some 3, .mov, [.t 0], none⟩]
def ingotref16_Adds_r2 : List AOper := [
  ⟨some 5, (.bin .eql), [.t 3, .c (.int .i64 0)], none⟩,
  ⟨some 4, .mov, [.t 5], none⟩]
def ingotref16_Adds_r3 : List AOper := [
  ⟨some 6, (.bin .eql), [.t 3, .c (.int .i64 1)], none⟩,
  ⟨some 4, .mov, [.t 6], none⟩]
def ingotref16_Adds_r4 : List AOper := [
  ⟨some 7, (.bin .eql), [.t 3, .c (.int .i64 2)], none⟩,
  ⟨some 4, .mov, [.t 7], none⟩]
def ingotref16_Adds_r5 : List AOper := [
  ⟨some 8, (.bin .eql), [.t 3, .c (.int .i64 3)], none⟩,
  ⟨some 4, .mov, [.t 8], none⟩]
def ingotref16_Adds_r6 : List AOper := [
  ⟨some 9, (.bin .eql), [.t 3, .c (.int .i64 4)], none⟩,
  ⟨some 4, .mov, [.t 9], none⟩]
def ingotref16_Adds_r7 : List AOper := [
  ⟨some 10, (.bin .eql), [.t 3, .c (.int .i64 7)], none⟩,
  ⟨some 4, .mov, [.t 10], none⟩]
def ingotref16_Adds_r8 : List AOper := [
  ⟨some 11, (.bin .eql), [.t 3, .c (.int .i64 16)], none⟩,
  ⟨some 4, .mov, [.t 11], none⟩]
def ingotref16_Adds_r9 : List AOper := [
  ⟨some 12, (.bin .eql), [.t 3, .c (.int .i64 17)], none⟩,
  ⟨some 4, .mov, [.t 12], none⟩]
def ingotref16_Adds_r10 : List AOper := [
  ⟨some 13, (.bin .eql), [.t 3, .c (.int .i64 8)], none⟩,
  ⟨some 4, .mov, [.t 13], none⟩]
def ingotref16_Adds_r11 : List AOper := [
  ⟨some 14, (.bin .eql), [.t 3, .c (.int .i64 14)], none⟩,
  ⟨some 4, .mov, [.t 14], none⟩]
def ingotref16_Adds_r12 : List AOper := [
  ⟨some 2, .mov, [.c (.bool true)], none⟩]
def ingotref16_Adds_r13 : List AOper := [
  ⟨some 2, .mov, [.c (.bool false)], none⟩]
def ingotref16_Adds : AFunc := ⟨15, (.seq (.region ingotref16_Adds_r0 [0]) (.seq (.seq (.region ingotref16_Adds_r1 [3]) (.block 0 (.seq (.seq (.region ingotref16_Adds_r2 [3, 4]) (.cond (.t 4) .skip (.seq (.region ingotref16_Adds_r3 [3, 4]) (.cond (.t 4) .skip (.seq (.region ingotref16_Adds_r4 [3, 4]) (.cond (.t 4) .skip (.seq (.region ingotref16_Adds_r5 [3, 4]) (.cond (.t 4) .skip (.seq (.region ingotref16_Adds_r6 [3, 4]) (.cond (.t 4) .skip (.seq (.region ingotref16_Adds_r7 [3, 4]) (.cond (.t 4) .skip (.seq (.region ingotref16_Adds_r8 [3, 4]) (.cond (.t 4) .skip (.seq (.region ingotref16_Adds_r9 [3, 4]) (.cond (.t 4) .skip (.seq (.region ingotref16_Adds_r10 [3, 4]) (.cond (.t 4) .skip (.region ingotref16_Adds_r11 [4]))))))))))))))))))) (.cond (.t 4) (.seq (.region ingotref16_Adds_r12 [2]) .ret) .skip)))) (.seq (.region ingotref16_Adds_r13 [2]) .ret))), [.t 2]⟩
def ingotref16_Ranges_r0 : List AOper := [
  ⟨some 2, .mov, [.c (.bool false)], none⟩]
def ingotref16_Ranges_r1 : List AOper := [
  ⟨some 3, .mov, [.t 0], none⟩,
  ⟨some 4, (.call f_ingotref13_Leaf), [.t 3], none⟩,
  ⟨some 5, .mov, [.t 4], none⟩,
  ⟨some 6, .mov, [.t 0], some (5, true)⟩,
  ⟨some 7, (.bin .neq), [.t 6, .c (.int .i64 0)], some (5, true)⟩,
  ⟨some 8, .pick, [.t 5, .t 7, .c (.bool false)], none⟩,
  ⟨some 9, .mov, [.t 8], none⟩,
  ⟨some 10, .mov, [.t 0], some (9, true)⟩,
  ⟨some 11, (.bin .neq), [.t 10, .c (.int .i64 8)], some (9, true)⟩,
  ⟨some 12, .pick, [.t 9, .t 11, .c (.bool false)], none⟩,
  ⟨some 2, .mov, [.t 12], none⟩]
def ingotref16_Ranges : AFunc := ⟨13, (.seq (.region ingotref16_Ranges_r0 [0]) (.seq (.region ingotref16_Ranges_r1 [2]) .ret)), [.t 2]⟩
def ingotref14_Same_r0 : List AOper := [
  ⟨some 2, (.box 5), [.t 0], none⟩,
  ⟨some 3, (.box 5), [.t 1], none⟩,
  ⟨some 4, .mov, [.c (.bool false)], none⟩]
def ingotref14_Same_r1 : List AOper := [
  ⟨some 6, (.fad 0), [.t 2], none⟩,
  ⟨some 7, (.load false 1), [.t 6], none⟩,
  ⟨some 8, (.fad 0), [.t 3], none⟩,
  ⟨some 9, (.load false 1), [.t 8], none⟩,
  ⟨some 10, (.binb .neq), [.t 7, .t 9], none⟩,
  ⟨some 11, .mov, [.t 10], none⟩,
  ⟨some 12, (.fad 1), [.t 2], some (11, false)⟩,
  ⟨some 13, (.load false 1), [.t 12], some (11, false)⟩,
  ⟨some 14, (.fad 1), [.t 3], some (11, false)⟩,
  ⟨some 15, (.load false 1), [.t 14], some (11, false)⟩,
  ⟨some 16, (.bin .neq), [.t 13, .t 15], some (11, false)⟩,
  ⟨some 17, .pick, [.t 11, .c (.bool true), .t 16], none⟩,
  ⟨some 18, .mov, [.t 17], none⟩,
  ⟨some 19, (.fad 2), [.t 2], some (18, false)⟩,
  ⟨some 20, (.load false 1), [.t 19], some (18, false)⟩,
  ⟨some 21, (.fad 2), [.t 3], some (18, false)⟩,
  ⟨some 22, (.load false 1), [.t 21], some (18, false)⟩,
  ⟨some 23, (.bin .neq), [.t 20, .t 22], some (18, false)⟩,
  ⟨some 24, .pick, [.t 18, .c (.bool true), .t 23], none⟩,
  ⟨some 25, .mov, [.t 24], none⟩,
  ⟨some 26, (.fad 3), [.t 2], some (25, false)⟩,
  ⟨some 27, (.load false 1), [.t 26], some (25, false)⟩,
  ⟨some 28, .b2s, [.t 27], some (25, false)⟩,
  ⟨some 29, (.fad 3), [.t 3], some (25, false)⟩,
  ⟨some 30, (.load false 1), [.t 29], some (25, false)⟩,
  ⟨some 31, .b2s, [.t 30], some (25, false)⟩,
  ⟨some 32, (.bin .neq), [.t 28, .t 31], some (25, false)⟩,
  ⟨some 33, .pick, [.t 25, .c (.bool true), .t 32], none⟩,
  ⟨some 34, .mov, [.t 33], none⟩,
  ⟨some 35, (.fad 4), [.t 2], some (34, false)⟩,
  ⟨some 36, (.load false 1), [.t 35], some (34, false)⟩,
  ⟨some 37, .lens, [.t 36], some (34, false)⟩,
  ⟨some 38, (.fad 4), [.t 3], some (34, false)⟩,
  ⟨some 39, (.load false 1), [.t 38], some (34, false)⟩,
  ⟨some 40, .lens, [.t 39], some (34, false)⟩,
  ⟨some 41, (.bin .neq), [.t 37, .t 40], some (34, false)⟩,
  ⟨some 42, .pick, [.t 34, .c (.bool true), .t 41], none⟩]
def ingotref14_Same_r2 : List AOper := [
  ⟨some 4, .mov, [.c (.bool false)], none⟩]
def ingotref14_Same_r3 : List AOper := [
  ⟨some 5, .mov, [.c (.int .i64 0)], none⟩]
def ingotref14_Same_r4 : List AOper := [
  ⟨some 43, .mov, [.t 5], none⟩,
  ⟨some 44, (.fad 4), [.t 2], none⟩,
  ⟨some 45, (.load false 1), [.t 44], none⟩,
  ⟨some 46, .lens, [.t 45], none⟩,
  ⟨some 47, (.bin .lss), [.t 43, .t 46], none⟩]
def ingotref14_Same_r5 : List AOper := [
  ⟨some 50, (.fad 4), [.t 2], none⟩,
  ⟨some 51, (.load false 1), [.t 50], none⟩,
  ⟨some 52, .mov, [.t 5], none⟩,
  ⟨some 53, (.iad 5), [.t 51, .t 52], none⟩,
  ⟨some 54, (.load true 5), [.t 53], none⟩,
  ⟨some 55, (.fad 4), [.t 3], none⟩,
  ⟨some 56, (.load false 1), [.t 55], none⟩,
  ⟨some 57, .mov, [.t 5], none⟩,
  ⟨some 58, (.iad 5), [.t 56, .t 57], none⟩,
  ⟨some 59, (.load true 5), [.t 58], none⟩,
  ⟨some 60, (.call f_ingotref14_Same), [.t 54, .t 59], none⟩,
  ⟨some 61, .unot, [.t 60], none⟩]
def ingotref14_Same_r6 : List AOper := [
  ⟨some 4, .mov, [.c (.bool false)], none⟩]
def ingotref14_Same_r7 : List AOper := [
  ⟨some 48, .mov, [.t 5], none⟩,
  ⟨some 49, (.bin .add), [.t 48, .c (.int .i64 1)], none⟩,
  ⟨some 5, .mov, [.t 49], none⟩]
def ingotref14_Same_l0 : ACode := (.seq (.seq (.region ingotref14_Same_r4 [2, 3, 5, 47]) (.cond (.t 47) .skip (.exit 0))) (.seq (.block 1 (.seq (.region ingotref14_Same_r5 [2, 3, 5, 61]) (.cond (.t 61) (.seq (.region ingotref14_Same_r6 [4]) .ret) .skip))) (.region ingotref14_Same_r7 [2, 3, 5])))
def ingotref14_Same_r8 : List AOper := [
  ⟨some 4, .mov, [.c (.bool true)], none⟩]
def ingotref14_Same : AFunc := ⟨62, (.seq (.region ingotref14_Same_r0 [2, 3, 12, 13, 14, 15, 16, 19, 20, 21, 22, 23, 26, 27, 28, 29, 30, 31, 32, 35, 36, 37, 38, 39, 40, 41]) (.seq (.seq (.region ingotref14_Same_r1 [2, 3, 42]) (.cond (.t 42) (.seq (.region ingotref14_Same_r2 [4]) .ret) .skip)) (.seq (.seq (.region ingotref14_Same_r3 [2, 3, 5]) (.block 0 (.loop ingotref14_Same_l0))) (.seq (.region ingotref14_Same_r8 [4]) .ret)))), [.t 4]⟩
def ingotref14_Compare_r0 : List AOper := [
  ⟨some 3, (.box 6), [.t 0], none⟩,
  ⟨some 4, (.box 5), [.t 1], none⟩,
  ⟨some 5, (.box 5), [.t 2], none⟩,
  ⟨some 6, .mov, [.c (.int .i64 0)], none⟩,
  ⟨some 7, .mov, [.c (.bool false)], none⟩]
def ingotref14_Compare_r1 : List AOper := [
  ⟨some 8, (.fad 0), [.t 4], none⟩,
  ⟨some 9, (.load false 1), [.t 8], none⟩,
  ⟨some 10, .mov, [.t 9], none⟩,
  ⟨some 11, (.fad 0), [.t 5], some (10, false)⟩,
  ⟨some 12, (.load false 1), [.t 11], some (10, false)⟩,
  ⟨some 13, .pick, [.t 10, .c (.bool true), .t 12], none⟩,
  ⟨some 14, .mov, [.t 13], none⟩,
  ⟨some 15, (.fad 0), [.t 3], some (14, false)⟩,
  ⟨some 16, (.load false 1), [.t 15], some (14, false)⟩,
  ⟨some 17, (.call f_ingotref13_Leaf), [.t 16], some (14, false)⟩,
  ⟨some 18, .unot, [.t 17], some (14, false)⟩,
  ⟨some 19, .pick, [.t 14, .c (.bool true), .t 18], none⟩]
def ingotref14_Compare_r2 : List AOper := [
  ⟨some 6, .mov, [.c (.int .i64 0)], none⟩,
  ⟨some 7, .mov, [.c (.bool false)], none⟩]
def ingotref14_Compare_r3 : List AOper := [
  ⟨some 20, (.fad 0), [.t 3], none⟩,
  ⟨some 21, (.load false 1), [.t 20], none⟩,
  ⟨some 22, (.call f_ingotref14_Texts), [.t 21], none⟩]
def ingotref14_Compare_r4 : List AOper := [
  ⟨some 24, (.fad 3), [.t 4], none⟩,
  ⟨some 25, (.load false 1), [.t 24], none⟩,
  ⟨some 26, .b2s, [.t 25], none⟩,
  ⟨some 27, (.fad 3), [.t 5], none⟩,
  ⟨some 28, (.load false 1), [.t 27], none⟩,
  ⟨some 29, .b2s, [.t 28], none⟩,
  ⟨some 30, (.bin .lss), [.t 26, .t 29], none⟩,
  ⟨some 23, .mov, [.t 30], none⟩]
def ingotref14_Compare_r5 : List AOper := [
  ⟨some 6, .mov, [.c (.int .i64 (-1))], none⟩,
  ⟨some 7, .mov, [.c (.bool true)], none⟩]
def ingotref14_Compare_r6 : List AOper := [
  ⟨some 32, (.fad 3), [.t 4], none⟩,
  ⟨some 33, (.load false 1), [.t 32], none⟩,
  ⟨some 34, .b2s, [.t 33], none⟩,
  ⟨some 35, (.fad 3), [.t 5], none⟩,
  ⟨some 36, (.load false 1), [.t 35], none⟩,
  ⟨some 37, .b2s, [.t 36], none⟩,
  ⟨some 38, (.bin .gtr), [.t 34, .t 37], none⟩,
  ⟨some 31, .mov, [.t 38], none⟩]
def ingotref14_Compare_r7 : List AOper := [
  ⟨some 6, .mov, [.c (.int .i64 1)], none⟩,
  ⟨some 7, .mov, [.c (.bool true)], none⟩]
def ingotref14_Compare_r8 : List AOper := [
  ⟨some 6, .mov, [.c (.int .i64 0)], none⟩,
  ⟨some 7, .mov, [.c (.bool true)], none⟩]
def ingotref14_Compare_r9 : List AOper := [
  ⟨some 40, (.fad 1), [.t 4], none⟩,
  ⟨some 41, (.load false 1), [.t 40], none⟩,
  ⟨some 42, (.fad 1), [.t 5], none⟩,
  ⟨some 43, (.load false 1), [.t 42], none⟩,
  ⟨some 44, (.bin .lss), [.t 41, .t 43], none⟩,
  ⟨some 45, .mov, [.t 44], none⟩,
  ⟨some 46, (.fad 1), [.t 4], some (45, false)⟩,
  ⟨some 47, (.load false 1), [.t 46], some (45, false)⟩,
  ⟨some 48, (.fad 1), [.t 5], some (45, false)⟩,
  ⟨some 49, (.load false 1), [.t 48], some (45, false)⟩,
  ⟨some 50, (.bin .eql), [.t 47, .t 49], some (45, false)⟩,
  ⟨some 51, .mov, [.t 50], some (45, false)⟩,
  ⟨some 52, (.fad 2), [.t 4], some (51, true)⟩,
  ⟨some 53, (.load false 1), [.t 52], some (51, true)⟩,
  ⟨some 54, (.fad 2), [.t 5], some (51, true)⟩,
  ⟨some 55, (.load false 1), [.t 54], some (51, true)⟩,
  ⟨some 56, (.bin .lss), [.t 53, .t 55], some (51, true)⟩,
  ⟨some 57, .pick, [.t 51, .t 56, .c (.bool false)], some (45, false)⟩,
  ⟨some 58, .pick, [.t 45, .c (.bool true), .t 57], none⟩,
  ⟨some 39, .mov, [.t 58], none⟩]
def ingotref14_Compare_r10 : List AOper := [
  ⟨some 6, .mov, [.c (.int .i64 (-1))], none⟩,
  ⟨some 7, .mov, [.c (.bool true)], none⟩]
def ingotref14_Compare_r11 : List AOper := [
  ⟨some 60, (.fad 1), [.t 4], none⟩,
  ⟨some 61, (.load false 1), [.t 60], none⟩,
  ⟨some 62, (.fad 1), [.t 5], none⟩,
  ⟨some 63, (.load false 1), [.t 62], none⟩,
  ⟨some 64, (.bin .gtr), [.t 61, .t 63], none⟩,
  ⟨some 65, .mov, [.t 64], none⟩,
  ⟨some 66, (.fad 2), [.t 4], some (65, false)⟩,
  ⟨some 67, (.load false 1), [.t 66], some (65, false)⟩,
  ⟨some 68, (.fad 2), [.t 5], some (65, false)⟩,
  ⟨some 69, (.load false 1), [.t 68], some (65, false)⟩,
  ⟨some 70, (.bin .gtr), [.t 67, .t 69], some (65, false)⟩,
  ⟨some 71, .pick, [.t 65, .c (.bool true), .t 70], none⟩,
  ⟨some 59, .mov, [.t 71], none⟩]
def ingotref14_Compare_r12 : List AOper := [
  ⟨some 6, .mov, [.c (.int .i64 1)], none⟩,
  ⟨some 7, .mov, [.c (.bool true)], none⟩]
def ingotref14_Compare_r13 : List AOper := [
  ⟨some 6, .mov, [.c (.int .i64 0)], none⟩,
  ⟨some 7, .mov, [.c (.bool true)], none⟩]
def ingotref14_Compare : AFunc := ⟨72, (.seq (.region ingotref14_Compare_r0 [3, 4, 5, 11, 12, 15, 16, 17, 18, 46, 47, 48, 49, 50, 51, 52, 53, 54, 55, 56, 57, 66, 67, 68, 69, 70]) (.seq (.seq (.region ingotref14_Compare_r1 [3, 4, 5, 19, 46, 47, 48, 49, 50, 51, 52, 53, 54, 55, 56, 57, 66, 67, 68, 69, 70]) (.cond (.t 19) (.seq (.region ingotref14_Compare_r2 [6, 7]) .ret) .skip)) (.seq (.seq (.region ingotref14_Compare_r3 [4, 5, 22, 46, 47, 48, 49, 50, 51, 52, 53, 54, 55, 56, 57, 66, 67, 68, 69, 70]) (.cond (.t 22) (.seq (.block 0 (.seq (.region ingotref14_Compare_r4 [4, 5, 23]) (.cond (.t 23) (.seq (.region ingotref14_Compare_r5 [6, 7]) .ret) (.seq (.region ingotref14_Compare_r6 [31]) (.cond (.t 31) (.seq (.region ingotref14_Compare_r7 [6, 7]) .ret) .skip))))) (.seq (.region ingotref14_Compare_r8 [6, 7]) .ret)) .skip)) (.seq (.block 1 (.seq (.region ingotref14_Compare_r9 [4, 5, 39, 66, 67, 68, 69, 70]) (.cond (.t 39) (.seq (.region ingotref14_Compare_r10 [6, 7]) .ret) (.seq (.region ingotref14_Compare_r11 [59]) (.cond (.t 59) (.seq (.region ingotref14_Compare_r12 [6, 7]) .ret) .skip))))) (.seq (.region ingotref14_Compare_r13 [6, 7]) .ret))))), [.t 6, .t 7]⟩
end Go.Abs
namespace Go.Abs
open Go Go.Proofs
theorem ingotref16_Same_ok : compF Try.prog [] f_ingotref16_Same = some ingotref16_Same.erase := by kernel_rfl
theorem ingotref16_Merge_ok : compF Try.prog [] f_ingotref16_Merge = some ingotref16_Merge.erase := by kernel_rfl
theorem ingotref16_Adds_ok : compF Try.prog [] f_ingotref16_Adds = some ingotref16_Adds.erase := by kernel_rfl
theorem ingotref16_Ranges_ok : compF Try.prog [] f_ingotref16_Ranges = some ingotref16_Ranges.erase := by kernel_rfl
theorem ingotref14_Same_ok : compF Try.prog [] f_ingotref14_Same = some ingotref14_Same.erase := by kernel_rfl
theorem ingotref14_Compare_ok : compF Try.prog [] f_ingotref14_Compare = some ingotref14_Compare.erase := by kernel_rfl
end Go.Abs
/- Plain laws: columns of rows; what is known of them; two parts. -/
namespace Go.Abs
open Go Go.Proofs
set_option linter.unusedVariables false
set_option linter.unusedSimpArgs false

/-! ### What holds of columns -/

theorem putF_inv (l : List Nd) (p : Nat → Col → Prop) (q : Vl → Prop) (hq : ∀ v, q v → ∀ k ∈ v.kids, q k) (h0 : ∀ j c, p j c → p j (hereC false c))
    (h1 : ∀ j c v, p j c → q v → v.null = false → p j (addC (kindC l j) v c)) : ∀ (v : Vl) (at_ : Nat) (cs : List Col), q v → (∀ j c, cs[j]? = some c → p j c) → ∀ j c, (putF l at_ v cs).1[j]? = some c → p j c := by
  refine Vl.ind fun nu i n bs vks ih at_ cs hv h => ?_
  have hL : ∀ (vks : List Vl), (∀ v ∈ vks, q v) → (∀ v ∈ vks, ∀ (at_ : Nat) (cs : List Col), q v → (∀ j c, cs[j]? = some c → p j c) → ∀ j c, (putF l at_ v cs).1[j]? = some c → p j c) →
      ∀ (j : Nat) (cs : List Col), (∀ j c, cs[j]? = some c → p j c) → ∀ j' c, (putL l at_ i j vks cs).1[j']? = some c → p j' c := by
    intro vks
    induction vks with
    | nil => intro _ _ j cs h; exact h
    | cons v vs ih2 =>
      intro hqs hv j cs h
      rw [putL]
      split
      · exact ih2 (fun v h => hqs v (List.mem_cons_of_mem _ h)) (fun v h => hv v (List.mem_cons_of_mem _ h)) _ _ (hv v (by simp) _ _ (hqs v (by simp)) h)
      · exact hv v (by simp) _ _ (hqs v (by simp)) h
  have hset : ∀ f : Col → Col, (∀ c, p at_ c → p at_ (f c)) → ∀ j c, (cs.set at_ (f (cs.getD at_ col0)))[j]? = some c → p j c := by
    intro f hf j c e
    rw [List.getElem?_set] at e
    split at e
    · rename_i hj
      subst hj
      split at e
      · rename_i hlt
        simp only [Option.some.injEq] at e
        subst e
        rw [List.getD_eq_getElem?_getD, List.getElem?_eq_getElem hlt, Option.getD_some]
        exact hf _ (h _ _ (List.getElem?_eq_getElem hlt))
      · cases e
    · exact h j c e
  rw [putF]
  split
  · exact h
  · split
    · exact hset (hereC false) (fun c hc => h0 _ c hc)
    · rename_i hnu
      exact hL vks (fun k hk => hq _ hv k hk) (fun v hm at_ cs => ih v hm at_ cs) _ _ (hset (fun c => addC (kindC l at_) (.mk nu i n bs vks) c) (fun c hc => h1 _ c _ hc hv (by simpa [Vl.null] using hnu)))

theorem putRows_inv (l : List Nd) (p : Nat → Col → Prop) (q : Vl → Prop) (hq : ∀ v, q v → ∀ k ∈ v.kids, q k) (h0 : ∀ j c, p j c → p j (hereC false c))
    (h1 : ∀ j c v, p j c → q v → v.null = false → p j (addC (kindC l j) v c)) : ∀ (rows : List Vl) (cs : List Col), (∀ v ∈ rows, q v) → (∀ j c, cs[j]? = some c → p j c) → ∀ j c, (putRows l rows cs).1[j]? = some c → p j c
  | [], cs, _, h => h
  | v :: vs, cs, hv, h => by
    rw [putRows]
    split
    · exact putRows_inv l p q hq h0 h1 vs _ (fun v hm => hv v (List.mem_cons_of_mem _ hm)) (putF_inv l p q hq h0 h1 v 0 cs (hv v (by simp)) h)
    · exact putF_inv l p q hq h0 h1 v 0 cs (hv v (by simp)) h

theorem putRows_keep (l : List Nd) : ∀ (rows : List Vl) (cs : List Col), (putRows l rows cs).1.length = cs.length
  | [], cs => rfl
  | v :: vs, cs => by
    rw [putRows]
    split
    · rw [putRows_keep l vs, putF_keep]
    · exact putF_keep l v 0 cs

theorem putRows_Sm (l : List Nd) : ∀ (rows : List Vl) (cs : List Col), (∀ c ∈ cs, c.Sm) → ∀ c ∈ (putRows l rows cs).1, c.Sm
  | [], cs, h => h
  | v :: vs, cs, h => by
    rw [putRows]
    split
    · exact putRows_Sm l vs _ (putF_Sm l v 0 cs h)
    · exact putF_Sm l v 0 cs h

/-- Values whose bytes are not too many. -/
inductive Vl.Sht : Vl → Prop
  | mk {v : Vl} (h1 : v.b.length ≤ 4096) (h2 : -9223372036854775808 ≤ v.i ∧ v.i ≤ 9223372036854775807) (h : ∀ k ∈ v.kids, Vl.Sht k) : Vl.Sht v

theorem vchkL_all (t : Ty) (i : Int) : ∀ (ks : List Vl) (j : Nat), vchkL t i j ks = 0 → ∀ k ∈ ks, ∃ u, vchk u k = 0
  | [], _, _, k, hk => by cases hk
  | v :: vs, j, h, k, hk => by
    rw [vchkL] at h
    split at h
    · omega
    · split at h
      · rename_i h1; exact absurd h h1
      · rename_i h1
        rcases List.mem_cons.1 hk with e | e
        · rw [e]; exact ⟨_, by simpa using h1⟩
        · exact vchkL_all t i vs _ h k e

theorem vchk_Sht : ∀ (v : Vl) (t : Ty), v.Fit → vchk t v = 0 → v.Sht := by
  refine Vl.ind fun nu i n bs vks ih t hf h => ?_
  cases hf with
  | mk hi hbl hkl hks =>
  rw [vchk] at h
  split at h
  · split at h
    · omega
    · rename_i h1
      simp only [not_or, Decidable.not_not] at h1
      obtain ⟨_, _, hb, hk⟩ := h1
      have hk' : vks = [] := List.length_eq_zero_iff.1 hk
      subst hb hk'
      exact .mk (by simp [Vl.b]) hi (by simp [Vl.kids])
  · split at h
    · rename_i h1; exact absurd h h1
    · rename_i h1
      have h1' : ownV t i n bs vks.length = 0 := by simpa using h1
      refine .mk ?_ hi fun k hk => ?_
      · show bs.length ≤ 4096
        unfold ownV at h1'
        split at h1'
        · omega
        · split at h1'
          · omega
          · rename_i h2
            omega
      · obtain ⟨u, hu⟩ := vchkL_all t i vks _ h k hk
        exact ih k hk u (hks k hk) hu

/-- The numbers and texts of columns. -/
structure Col.Rng (c : Col) : Prop where
  int : ∀ i ∈ c.ints, -9223372036854775808 ≤ i ∧ i ≤ 9223372036854775807
  text : ∀ t ∈ c.texts, t.length ≤ 4096

theorem mem_snoc {α : Type} {p : α → Prop} {l : List α} {a : α} (h : ∀ x ∈ l, p x) (ha : p a) : ∀ x ∈ l ++ [a], p x := fun x hx => by
  rcases List.mem_append.1 hx with e | e
  · exact h x e
  · rw [List.mem_singleton.1 e]; exact ha

theorem addC_Rng {c : Col} {k : Int} {v : Vl} (h : c.Rng) (hv : v.Sht) : (addC k v c).Rng := by
  cases hv with
  | mk h1 h2 _ =>
  obtain ⟨g1, g2⟩ := h
  have h3 : (addC1 k v (hereC true c)).Rng := by
    unfold addC1 hereC
    split
    · exact ⟨g1, mem_snoc g2 h1⟩
    · split
      · exact ⟨g1, g2⟩
      · split
        · exact ⟨g1, g2⟩
        · split
          · exact ⟨mem_snoc g1 h2, g2⟩
          · exact ⟨g1, g2⟩
  unfold addC addC2
  split
  · exact ⟨h3.1, h3.2⟩
  · exact h3

/-- A column has of each value that is what its kind wants. -/
structure Col.Good (k : Int) (c : Col) : Prop where
  texts : c.texts.length = if textF k = true then c.here.count true else 0
  ints : c.ints.length = if textF k = true ∨ k = 10 ∨ k = 11 ∨ k = 12 then 0 else c.here.count true
  ns : c.ns.length = if k = 9 then c.here.count true else 0
  lens : c.lens.length = if k = 10 ∨ k = 11 then c.here.count true else 0

theorem textF_cases {k : Int} (h : textF k = true) : k = 7 ∨ k = 16 ∨ k = 17 ∨ k = 8 := by
  simp only [textF, Bool.or_eq_true, decide_eq_true_eq] at h
  omega

theorem hereC_Good {k : Int} {c : Col} (h : c.Good k) : (hereC false c).Good k := by
  obtain ⟨h1, h2, h3, h4⟩ := h
  constructor <;> simp only [hereC, List.count_append, List.count_singleton] <;> simpa

theorem addC_Good {k : Int} {c : Col} {v : Vl} (h : c.Good k) : (addC k v c).Good k := by
  obtain ⟨h1, h2, h3, h4⟩ := h
  have hc : (c.here ++ [true]).count true = c.here.count true + 1 := by simp
  cases ht : textF k with
  | true =>
    have hk := textF_cases ht
    rw [if_pos ht] at h1
    rw [if_pos (.inl ht)] at h2
    rw [if_neg (by omega)] at h3 h4
    have e : addC k v c = ⟨c.here ++ [true], c.ints, c.ns, c.texts ++ [v.b], c.lens⟩ := by rw [addC, addC2, if_neg (by omega), addC1, if_pos ht]; rfl
    rw [e]
    exact ⟨by rw [if_pos ht, hc]; simp [h1], by rw [if_pos (.inl ht)]; exact h2, by rw [if_neg (by omega)]; exact h3, by rw [if_neg (by omega)]; exact h4⟩
  | false =>
    have hf : ¬ textF k = true := by simp [ht]
    rw [if_neg hf] at h1
    by_cases h10 : k = 10
    · rw [if_pos (.inr (.inl h10))] at h2
      rw [if_neg (by omega)] at h3
      rw [if_pos (.inl h10)] at h4
      have e : addC k v c = ⟨c.here ++ [true], c.ints, c.ns, c.texts, c.lens ++ [(v.kids.length : Int)]⟩ := by rw [addC, addC2, if_neg (by omega), addC1, if_neg hf, if_pos h10]; rfl
      rw [e]
      exact ⟨by rw [if_neg hf]; exact h1, by rw [if_pos (.inr (.inl h10))]; exact h2, by rw [if_neg (by omega)]; exact h3, by rw [if_pos (.inl h10), hc]; simp [h4]⟩
    · by_cases h11 : k = 11
      · rw [if_pos (.inr (.inr (.inl h11)))] at h2
        rw [if_neg (by omega)] at h3
        rw [if_pos (.inr h11)] at h4
        have e : addC k v c = ⟨c.here ++ [true], c.ints, c.ns, c.texts, c.lens ++ [((v.kids.length / 2 : Nat) : Int)]⟩ := by rw [addC, addC2, if_neg (by omega), addC1, if_neg hf, if_neg h10, if_pos h11]; rfl
        rw [e]
        exact ⟨by rw [if_neg hf]; exact h1, by rw [if_pos (.inr (.inr (.inl h11)))]; exact h2, by rw [if_neg (by omega)]; exact h3, by rw [if_pos (.inr h11), hc]; simp [h4]⟩
      · rw [if_neg (by omega)] at h4
        by_cases h12 : k = 12
        · rw [if_pos (.inr (.inr (.inr h12)))] at h2
          rw [if_neg (by omega)] at h3
          have e : addC k v c = ⟨c.here ++ [true], c.ints, c.ns, c.texts, c.lens⟩ := by rw [addC, addC2, if_neg (by omega), addC1, if_neg hf, if_neg h10, if_neg h11, if_neg (by omega)]; rfl
          rw [e]
          exact ⟨by rw [if_neg hf]; exact h1, by rw [if_pos (.inr (.inr (.inr h12)))]; exact h2, by rw [if_neg (by omega)]; exact h3, by rw [if_neg (by omega)]; exact h4⟩
        · have hn : ¬ (textF k = true ∨ k = 10 ∨ k = 11 ∨ k = 12) := by rintro (h | h | h | h) <;> simp_all
          rw [if_neg hn] at h2
          by_cases h9 : k = 9
          · rw [if_pos h9] at h3
            have e : addC k v c = ⟨c.here ++ [true], c.ints ++ [v.i], c.ns ++ [v.n], c.texts, c.lens⟩ := by rw [addC, addC2, if_pos h9, addC1, if_neg hf, if_neg h10, if_neg h11, if_pos h12]; rfl
            rw [e]
            exact ⟨by rw [if_neg hf]; exact h1, by rw [if_neg hn, hc]; simp [h2], by rw [if_pos h9, hc]; simp [h3], by rw [if_neg (by omega)]; exact h4⟩
          · rw [if_neg h9] at h3
            have e : addC k v c = ⟨c.here ++ [true], c.ints ++ [v.i], c.ns, c.texts, c.lens⟩ := by rw [addC, addC2, if_neg h9, addC1, if_neg hf, if_neg h10, if_neg h11, if_pos h12]; rfl
            rw [e]
            exact ⟨by rw [if_neg hf]; exact h1, by rw [if_neg hn, hc]; simp [h2], by rw [if_neg h9]; exact h3, by rw [if_neg (by omega)]; exact h4⟩

theorem col0_Good (k : Int) : col0.Good k := by constructor <;> simp [col0]

/-! ### The reference's statistics of a column -/

def getR (k : Int) (c : Col) (j : Nat) : Vl :=
  if textF k = true then .mk false 0 0 (c.texts.getD j []) []
  else if leafF k = true then .mk false (c.ints.getD j 0) (if k = 9 then c.ns.getD j 0 else 0) [] []
  else vl0
def getRA (k : Int) (c : Col) (j : Nat) : Int :=
  if textF k = true then ((c.texts.getD j []).length : Int) else if leafF k = true then c.ints.getD j 0 else 0
def stepR (k : Int) (v : Vl) (add : Int) (s : Stt) : Stt := stepV k v add { s with count := s.count + 1 }
def refFrom (k : Int) (c : Col) : List Bool → Nat → Stt → Stt
  | [], _, s => s
  | true :: bs, j, s => refFrom k c bs (j + 1) (stepR k (getR k c j) (getRA k c j) s)
  | false :: bs, j, s => refFrom k c bs j s
def refOf (k : Int) (c : Col) : Stt := refFrom k c c.here 0 (of0 k c 0)

theorem stepV_count (k : Int) (v : Vl) (add : Int) (s : Stt) (n : Int) : stepV k v add { s with count := n } = { stepV k v add s with count := n } := by
  obtain ⟨c, nl, h, mi, ma, su, sm⟩ := s
  unfold stepV moreF spanF
  cases rangesF k <;> cases su <;> simp

theorem stepV_cnt (k : Int) (v : Vl) (add : Int) (s : Stt) : (stepV k v add s).count = s.count := by
  obtain ⟨c, nl, h, mi, ma, su, sm⟩ := s
  unfold stepV moreF spanF
  cases rangesF k <;> cases su <;> simp
theorem ofFrom_cnt (k : Int) (c : Col) : ∀ (m i : Nat) (s : Stt), (ofFrom k c m i s).count = s.count
  | 0, i, s => rfl
  | m + 1, i, s => by rw [ofFrom, ofFrom_cnt k c m, stepV_cnt]

theorem ofFrom_count (k : Int) (c : Col) (n : Int) : ∀ (m j : Nat) (s : Stt), ofFrom k c m j { s with count := n } = { ofFrom k c m j s with count := n }
  | 0, j, s => rfl
  | m + 1, j, s => by rw [ofFrom, stepV_count, ofFrom_count k c n m, ofFrom]

theorem refFrom_eq (k : Int) (c : Col) (hg : ∀ j, j < c.here.count true → getR k c j = getV c j ∧ getRA k c j = getA c j) : ∀ (bs : List Bool) (j : Nat) (s : Stt), j + bs.count true ≤ c.here.count true → refFrom k c bs j s = { ofFrom k c (bs.count true) j s with count := (ofFrom k c (bs.count true) j s).count + (bs.count true : Nat) }
  | [], j, s, _ => by simp [refFrom, ofFrom]
  | false :: bs, j, s, h => by
    rw [List.count_cons] at h ⊢
    simp only [show ((false == true) = true) = False by simp, if_false, Nat.add_zero] at h ⊢
    rw [refFrom]
    exact refFrom_eq k c hg bs j s h
  | true :: bs, j, s, h => by
    rw [List.count_cons] at h ⊢
    simp only [beq_self_eq_true, if_true] at h ⊢
    rw [refFrom, refFrom_eq k c hg bs (j + 1) _ (by omega), ofFrom, (hg j (by omega)).1, (hg j (by omega)).2, stepR, stepV_count, ofFrom_count]
    rw [ofFrom_cnt, stepV_cnt]
    simp only [Stt.mk.injEq, and_true, true_and]
    omega

theorem leafF_cases {k : Int} (h : leafF k = false) : k = 10 ∨ k = 11 ∨ k = 12 ∨ k = 13 := by
  simp only [leafF, Bool.not_eq_false', Bool.or_eq_true, decide_eq_true_eq] at h
  omega

theorem stepV_none {k : Int} (h : leafF k = false) (v : Vl) (add : Int) (s : Stt) (hs : s.sums = false) : stepV k v add s = s := by
  have hr : rangesF k = false := by simp [rangesF, h]
  rw [stepV, if_neg (by simp [hr]), moreF, if_neg (by simp [hs])]

theorem ofFrom_none {k : Int} (h : leafF k = false) (c : Col) : ∀ (m j : Nat) (s : Stt), s.sums = false → ofFrom k c m j s = s
  | 0, j, s, _ => rfl
  | m + 1, j, s, hs => by rw [ofFrom, stepV_none h _ _ _ hs, ofFrom_none h c m _ s hs]

theorem refFrom_none {k : Int} (h : leafF k = false) (c : Col) : ∀ (bs : List Bool) (j : Nat) (s : Stt), s.sums = false → refFrom k c bs j s = { s with count := s.count + (bs.count true : Nat) }
  | [], j, s, _ => by simp [refFrom]
  | false :: bs, j, s, hs => by
    rw [List.count_cons]
    simp only [show ((false == true) = true) = False by simp, if_false, Nat.add_zero]
    rw [refFrom]
    exact refFrom_none h c bs j s hs
  | true :: bs, j, s, hs => by
    rw [List.count_cons]
    simp only [beq_self_eq_true, if_true]
    rw [refFrom, stepR, stepV_none h _ _ { s with count := s.count + 1 } hs, refFrom_none h c bs (j + 1) { s with count := s.count + 1 } hs]
    simp only [Stt.mk.injEq, and_true, true_and]
    omega

theorem addsF_leaf {k : Int} (h : leafF k = false) : addsF k = false := by
  rcases leafF_cases h with rfl | rfl | rfl | rfl <;> rfl
theorem textF_leaf {k : Int} (h : textF k = true) : leafF k = true := by
  rcases textF_cases h with rfl | rfl | rfl | rfl <;> rfl

theorem refOf_eq (k : Int) (c : Col) (h : c.Good k) : refOf k c = ofF k c := by
  obtain ⟨h1, h2, h3, h4⟩ := h
  unfold refOf ofF
  cases hl : leafF k with
  | false =>
    rw [refFrom_none hl c _ _ _ (addsF_leaf hl), ofFrom_none hl c _ _ _ (addsF_leaf hl)]
    simp [of0]
  | true =>
    have hk : k ≠ 10 ∧ k ≠ 11 ∧ k ≠ 12 := by
      refine ⟨?_, ?_, ?_⟩ <;> (intro e; subst e; simp [leafF] at hl)
    have hm : max c.ints.length c.texts.length = c.here.count true := by
      cases ht : textF k with
      | true => rw [if_pos ht] at h1; rw [if_pos (.inl ht)] at h2; omega
      | false =>
        have hn : ¬ (textF k = true ∨ k = 10 ∨ k = 11 ∨ k = 12) := by rw [ht]; simp; omega
        rw [if_neg (by simp [ht])] at h1; rw [if_neg hn] at h2; omega
    rw [refFrom_eq k c ?_ _ _ _ (by omega), hm]
    · have e : ofFrom k c (c.here.count true) 0 (of0 k c (c.here.count true)) = { ofFrom k c (c.here.count true) 0 (of0 k c 0) with count := (c.here.count true : Nat) } := ofFrom_count k c _ _ _ (of0 k c 0)
      rw [e, ofFrom_cnt]
      simp [of0]
    · intro j hj
      cases ht : textF k with
      | true =>
        rw [if_pos ht] at h1
        rw [if_pos (.inl ht)] at h2
        have h9 : k ≠ 9 := by rcases textF_cases ht with rfl | rfl | rfl | rfl <;> decide
        rw [if_neg h9] at h3
        have hn : c.ns = [] := List.length_eq_zero_iff.1 h3
        rw [getR, if_pos ht, getRA, if_pos ht, getV, getA, if_pos (by omega), if_pos (by omega), hn]
        exact ⟨rfl, rfl⟩
      | false =>
        have hn : ¬ (textF k = true ∨ k = 10 ∨ k = 11 ∨ k = 12) := by rw [ht]; simp; omega
        rw [if_neg (by simp [ht])] at h1
        have htx : c.texts = [] := List.length_eq_zero_iff.1 h1
        have hf : ¬ textF k = true := by simp [ht]
        rw [getR, if_neg hf, if_pos hl, getRA, if_neg hf, if_pos hl, getV, getA, htx]
        refine ⟨?_, rfl⟩
        by_cases h9 : k = 9
        · rw [if_pos h9]; rfl
        · rw [if_neg h9] at h3
          have hn : c.ns = [] := List.length_eq_zero_iff.1 h3
          rw [if_neg h9, hn]; rfl
end Go.Abs

/- Plain laws: least and greatest, sums, two parts. -/
namespace Go.Abs
open Go Go.Proofs
set_option linter.unusedVariables false
set_option linter.unusedSimpArgs false

/-! ### An order of values -/

theorem u8_lt (a b : UInt8) : (a < b) ↔ a.toNat < b.toNat := UInt8.lt_iff_toNat_lt

theorem cb_anti : ∀ a b : List UInt8, Lib.compareBytes b a = - Lib.compareBytes a b
  | [], [] => rfl
  | [], _ :: _ => rfl
  | _ :: _, [] => rfl
  | a :: xs, b :: bs => by
    simp only [Lib.compareBytes]
    simp only [u8_lt]
    (repeat' split) <;> first | omega | exact cb_anti xs bs | rfl

theorem cb_trans : ∀ a b c : List UInt8, Lib.compareBytes a b < 0 → Lib.compareBytes b c ≤ 0 → Lib.compareBytes a c < 0
  | [], [], _, h, _ => by simp [Lib.compareBytes] at h
  | [], _ :: _, [], _, h => by simp [Lib.compareBytes] at h
  | [], _ :: _, _ :: _, _, _ => by simp [Lib.compareBytes]
  | _ :: _, [], _, h, _ => by simp [Lib.compareBytes] at h
  | _ :: _, _ :: _, [], _, h => by simp [Lib.compareBytes] at h
  | a :: xs, b :: bs, c :: cs, h1, h2 => by
    simp only [Lib.compareBytes, u8_lt] at h1 h2 ⊢
    split at h1
    · split at h2
      · rw [if_pos (by omega)]; omega
      · split at h2
        · omega
        · rw [if_pos (by omega)]; omega
    · split at h1
      · omega
      · split at h2
        · rw [if_pos (by omega)]; omega
        · split at h2
          · omega
          · rw [if_neg (by omega), if_neg (by omega)]
            exact cb_trans xs bs cs h1 h2

theorem cmpV_leaf {k : Int} (hk : leafF k = true) (a b : Vl) (ha : a.null = false) (hb : b.null = false) : (cmpV k a b).1 = if textF k = true then Lib.compareBytes a.b b.b else if cmpI a.i b.i ≠ 0 then cmpI a.i b.i else cmpI a.n b.n := by
  have h : ¬ (leafF k = false ∨ a.null = true ∨ b.null = true) := by simp [hk, ha, hb]
  unfold cmpV
  rw [if_neg h]
  split <;> rfl

theorem cmpV_anti {k : Int} (hk : leafF k = true) (a b : Vl) (ha : a.null = false) (hb : b.null = false) : (cmpV k b a).1 = - (cmpV k a b).1 := by
  rw [cmpV_leaf hk b a hb ha, cmpV_leaf hk a b ha hb]
  cases textF k with
  | true => exact cb_anti _ _
  | false =>
    simp only [Bool.false_eq_true, if_false, cmpI]
    (repeat' split) <;> omega

theorem lex_lt (x y u v : Int) : (if cmpI x y ≠ 0 then cmpI x y else cmpI u v) < 0 ↔ x < y ∨ (x = y ∧ u < v) := by
  unfold cmpI
  rcases Int.lt_trichotomy x y with h | h | h
  · simp [h]
  · subst h
    simp only [Int.lt_irrefl, if_false, ne_eq, not_true_eq_false, false_or, true_and]
    (repeat' split) <;> omega
  · rw [if_neg (show ¬ x < y by omega), if_pos h]
    simp
    omega
theorem lex_le (x y u v : Int) : (if cmpI x y ≠ 0 then cmpI x y else cmpI u v) ≤ 0 ↔ x < y ∨ (x = y ∧ u ≤ v) := by
  unfold cmpI
  rcases Int.lt_trichotomy x y with h | h | h
  · simp [h]
  · subst h
    simp only [Int.lt_irrefl, if_false, ne_eq, not_true_eq_false, false_or, true_and]
    (repeat' split) <;> omega
  · rw [if_neg (show ¬ x < y by omega), if_pos h]
    simp
    omega
theorem cmpV_trans {k : Int} (hk : leafF k = true) (a b c : Vl) (ha : a.null = false) (hb : b.null = false) (hc : c.null = false) (h1 : (cmpV k a b).1 < 0) (h2 : (cmpV k b c).1 ≤ 0) : (cmpV k a c).1 < 0 := by
  rw [cmpV_leaf hk a b ha hb] at h1
  rw [cmpV_leaf hk b c hb hc] at h2
  rw [cmpV_leaf hk a c ha hc]
  cases ht : textF k with
  | true =>
    rw [ht] at h1 h2
    exact cb_trans _ _ _ h1 h2
  | false =>
    rw [ht] at h1 h2
    simp only [Bool.false_eq_true, if_false] at h1 h2 ⊢
    rw [lex_lt] at h1 ⊢
    rw [lex_le] at h2
    omega

theorem cmpV_trans' {k : Int} (hk : leafF k = true) (a b c : Vl) (ha : a.null = false) (hb : b.null = false) (hc : c.null = false) (h1 : (cmpV k a b).1 ≤ 0) (h2 : (cmpV k b c).1 < 0) : (cmpV k a c).1 < 0 := by
  have e1 := cmpV_anti hk a c ha hc
  have e2 := cmpV_anti hk a b ha hb
  by_cases h : (cmpV k a c).1 < 0
  · exact h
  · have := cmpV_trans hk b c a hb hc ha h2 (by omega)
    omega

theorem cmpV_refl {k : Int} (hk : leafF k = true) (a : Vl) (ha : a.null = false) : (cmpV k a a).1 = 0 := by
  have := cmpV_anti hk a a ha ha
  omega

/-! ### The least and the greatest -/

structure Sp where
  has : Bool
  min : Vl
  max : Vl

def spOf (s : Stt) : Sp := ⟨s.has, s.min, s.max⟩
def sp0 : Sp := ⟨false, vl0, vl0⟩
def spStep (k : Int) (s : Sp) (v : Vl) : Sp :=
  if rangesF k = true then ⟨true, if s.has = false ∨ (cmpV k v s.min).1 < 0 then v else s.min, if s.has = false ∨ 0 < (cmpV k v s.max).1 then v else s.max⟩ else s
def smStep (p : Int × Bool) (a : Int) : Int × Bool := if p.2 = true then addF p.1 a else p

theorem stepV_eq (k : Int) (v : Vl) (add : Int) (s : Stt) : stepV k v add s = ⟨s.count, s.null, (spStep k (spOf s) v).has, (spStep k (spOf s) v).min, (spStep k (spOf s) v).max, (smStep (s.sum, s.sums) add).2, (smStep (s.sum, s.sums) add).1⟩ := by
  obtain ⟨c, n, h, mi, ma, su, sm⟩ := s
  unfold stepV moreF spStep smStep spOf
  cases rangesF k <;> cases su <;> simp [spanF]

def getsC (c : Col) (n : Nat) : List (Vl × Int) := (List.range n).map fun i => (getV c i, getA c i)
def colN (c : Col) : Nat := max c.ints.length c.texts.length
def valsC (c : Col) : List (Vl × Int) := getsC c (colN c)

def ofL (k : Int) (l : List (Vl × Int)) (s : Stt) : Stt :=
  ⟨s.count, s.null, ((l.map (·.1)).foldl (spStep k) (spOf s)).has, ((l.map (·.1)).foldl (spStep k) (spOf s)).min, ((l.map (·.1)).foldl (spStep k) (spOf s)).max, ((l.map (·.2)).foldl smStep (s.sum, s.sums)).2, ((l.map (·.2)).foldl smStep (s.sum, s.sums)).1⟩

theorem ofFrom_L (k : Int) (c : Col) : ∀ (m i : Nat) (s : Stt), ofFrom k c m i s = ofL k ((List.range' i m).map fun i => (getV c i, getA c i)) s
  | 0, i, s => by simp [ofFrom, ofL, spOf]
  | m + 1, i, s => by
    rw [ofFrom, ofFrom_L k c m, stepV_eq]
    simp only [ofL, List.range'_succ, List.map_cons, List.foldl_cons, spOf]

theorem ofF_L (k : Int) (c : Col) : ofF k c = ofL k (valsC c) (of0 k c (c.here.count true)) := by
  rw [ofF, ofFrom_L, valsC, getsC, colN, List.range_eq_range']

def spC (k : Int) (c : Col) : Sp := ((valsC c).map (·.1)).foldl (spStep k) sp0
def smC (k : Int) (c : Col) : Int × Bool := ((valsC c).map (·.2)).foldl smStep (0, addsF k)

theorem ofF_eq (k : Int) (c : Col) : ofF k c = ⟨(c.here.count true : Nat), hasF c, (spC k c).has, (spC k c).min, (spC k c).max, (smC k c).2, (smC k c).1⟩ := by
  rw [ofF_L, ofL]; rfl

/-- What is known of values that were looked at. -/
structure Bnd (k : Int) (vs : List Vl) (s : Sp) : Prop where
  nmin : s.min.null = false
  nmax : s.max.null = false
  all : s.has = true → ∀ v ∈ vs, 0 ≤ (cmpV k v s.min).1 ∧ (cmpV k v s.max).1 ≤ 0
  min : s.has = true → s.min ∈ vs
  max : s.has = true → s.max ∈ vs
  none : s.has = false → rangesF k = true → vs = []
  zero : s.has = false → s = sp0

theorem rangesF_leaf {k : Int} (h : rangesF k = true) : leafF k = true := by
  simp only [rangesF, Bool.and_eq_true] at h
  exact h.1

theorem Bnd.step {k : Int} {vs : List Vl} {s : Sp} (h : Bnd k vs s) (hnr : rangesF k = false → s.has = false) {v : Vl} (hv : v.null = false) : Bnd k (vs ++ [v]) (spStep k s v) := by
  obtain ⟨n1, n2, ha, hmi, hma, hno, hz⟩ := h
  unfold spStep
  cases hr : rangesF k with
  | false =>
    have hh := hnr hr
    rw [if_neg (by simp)]
    exact ⟨n1, n2, fun e => (by rw [hh] at e; cases e), fun e => (by rw [hh] at e; cases e), fun e => (by rw [hh] at e; cases e), fun _ e => by simp [hr] at e, hz⟩
  | true =>
    rw [if_pos rfl]
    have hk := rangesF_leaf hr
    have hvv := cmpV_refl hk v hv
    cases hh : s.has with
    | false =>
      rw [if_pos (.inl rfl), if_pos (.inl rfl), hno hh hr]
      refine ⟨hv, hv, fun _ x hx => ?_, fun _ => by simp, fun _ => by simp, fun e => (by cases e), fun e => (by cases e)⟩
      rw [List.mem_singleton.1 hx]
      show 0 ≤ (cmpV k v v).1 ∧ (cmpV k v v).1 ≤ 0
      omega
    | true =>
      have ha' := ha hh
      have a1 := cmpV_anti hk v s.min hv n1
      have a2 := cmpV_anti hk v s.max hv n2
      refine ⟨?_, ?_, fun _ x hx => ⟨?_, ?_⟩, fun _ => ?_, fun _ => ?_, fun e => (by cases e), fun e => (by cases e)⟩
      · simp only []; split <;> assumption
      · simp only []; split <;> assumption
      · simp only [Bool.true_eq_false, false_or]
        split
        · rename_i h1
          rcases List.mem_append.1 hx with e | e
          · have h2 := ha' x e
            by_cases hxn : x.null = true
            · have : (cmpV k x v).1 = 0 := by unfold cmpV; rw [if_pos (.inr (.inl hxn))]
              omega
            · have hxn : x.null = false := by simpa using hxn
              have h3 := cmpV_trans hk v s.min x hv n1 hxn h1 (by have := cmpV_anti hk x s.min hxn n1; omega)
              have := cmpV_anti hk x v hxn hv
              omega
          · rw [List.mem_singleton.1 e]; omega
        · rename_i h1
          rcases List.mem_append.1 hx with e | e
          · exact (ha' x e).1
          · rw [List.mem_singleton.1 e]; omega
      · simp only [Bool.true_eq_false, false_or]
        split
        · rename_i h1
          rcases List.mem_append.1 hx with e | e
          · have h2 := ha' x e
            by_cases hxn : x.null = true
            · have : (cmpV k x v).1 = 0 := by unfold cmpV; rw [if_pos (.inr (.inl hxn))]
              omega
            · have hxn : x.null = false := by simpa using hxn
              have h3 := cmpV_trans' hk x s.max v hxn n2 hv h2.2 (by omega)
              omega
          · rw [List.mem_singleton.1 e]; omega
        · rename_i h1
          rcases List.mem_append.1 hx with e | e
          · exact (ha' x e).2
          · rw [List.mem_singleton.1 e]; omega
      · simp only [Bool.true_eq_false, false_or]
        split
        · simp
        · exact List.mem_append_left _ (hmi hh)
      · simp only [Bool.true_eq_false, false_or]
        split
        · simp
        · exact List.mem_append_left _ (hma hh)

theorem spStep_has {k : Int} {s : Sp} {v : Vl} (h : rangesF k = false → s.has = false) : rangesF k = false → (spStep k s v).has = false := by
  intro e
  unfold spStep
  rw [if_neg (by simp [e])]
  exact h e

theorem Bnd.fold {k : Int} : ∀ (ws vs : List Vl) (s : Sp), Bnd k vs s → (rangesF k = false → s.has = false) → (∀ v ∈ ws, v.null = false) → Bnd k (vs ++ ws) (ws.foldl (spStep k) s)
  | [], vs, s, h, _, _ => by simpa using h
  | w :: ws, vs, s, h, hr, hn => by
    have := Bnd.fold ws (vs ++ [w]) _ (h.step hr (hn w (by simp))) (spStep_has hr) (fun v hv => hn v (List.mem_cons_of_mem _ hv))
    simpa using this

theorem bnd0 (k : Int) : Bnd k [] sp0 := ⟨rfl, rfl, fun e => (by cases e), fun e => (by cases e), fun e => (by cases e), fun _ _ => rfl, fun _ => rfl⟩

theorem valsC_null (c : Col) : ∀ v ∈ (valsC c).map (·.1), v.null = false := by
  intro v hv
  simp only [valsC, getsC, List.map_map, List.mem_map] at hv
  obtain ⟨i, _, rfl⟩ := hv
  rfl

theorem spC_bnd (k : Int) (c : Col) : Bnd k ((valsC c).map (·.1)) (spC k c) := by
  have := Bnd.fold (k := k) ((valsC c).map (·.1)) [] sp0 (bnd0 k) (fun _ => rfl) (valsC_null c)
  rw [List.nil_append] at this
  exact this

/-! ### Two parts -/

def spMerge (k : Int) (a b : Sp) : Sp :=
  if a.has = false then b else if b.has = false then a
  else ⟨true, if (cmpV k b.min a.min).1 < 0 then b.min else a.min, if 0 < (cmpV k b.max a.max).1 then b.max else a.max⟩

theorem spMerge_step {k : Int} (a b : Sp) (v : Vl) (a1 : a.min.null = false) (a2 : a.max.null = false) (b1 : b.min.null = false) (b2 : b.max.null = false) (hv : v.null = false) : spMerge k a (spStep k b v) = spStep k (spMerge k a b) v := by
  unfold spStep
  cases hr : rangesF k with
  | false => simp
  | true =>
    have hk := rangesF_leaf hr
    simp only [if_true]
    cases ha : a.has with
    | false => simp [spMerge, ha]
    | true =>
      cases hb : b.has with
      | false => simp [spMerge, ha, hb]
      | true =>
        have t1 := cmpV_trans hk v b.min a.min hv b1 a1
        have t2 := cmpV_trans hk v a.min b.min hv a1 b1
        have e1 := cmpV_anti hk a.min b.min a1 b1
        have u1 := cmpV_trans' hk a.max b.max v a2 b2 hv
        have u2 := cmpV_trans' hk b.max a.max v b2 a2 hv
        have e2 := cmpV_anti hk a.max b.max a2 b2
        have e3 := cmpV_anti hk v b.max hv b2
        have e4 := cmpV_anti hk v a.max hv a2
        have e5 := cmpV_anti hk v b.min hv b1
        have e6 := cmpV_anti hk v a.min hv a1
        simp only [spMerge, ha, hb, Bool.true_eq_false, false_or, if_false, Sp.mk.injEq, true_and]
        constructor
        · by_cases h1 : (cmpV k v b.min).1 < 0
          · by_cases h2 : (cmpV k b.min a.min).1 < 0
            · simp only [if_pos h1, if_pos h2, if_pos (t1 h1 (by omega))]
            · simp only [if_pos h1, if_neg h2]
          · by_cases h2 : (cmpV k b.min a.min).1 < 0
            · simp only [if_neg h1, if_pos h2]
            · have : ¬ (cmpV k v a.min).1 < 0 := fun h => h1 (t2 h (by omega))
              simp only [if_neg h1, if_neg h2, if_neg this]
        · by_cases h1 : 0 < (cmpV k v b.max).1
          · by_cases h2 : 0 < (cmpV k b.max a.max).1
            · have := u1 (by omega) (by omega)
              simp only [if_pos h1, if_pos h2, if_pos (show 0 < (cmpV k v a.max).1 by omega)]
            · simp only [if_pos h1, if_neg h2]
          · by_cases h2 : 0 < (cmpV k b.max a.max).1
            · simp only [if_neg h1, if_pos h2]
            · have : ¬ 0 < (cmpV k v a.max).1 := fun h => h1 (by have := u2 (by omega) (by omega); omega)
              simp only [if_neg h1, if_neg h2, if_neg this]

theorem spStep_null {k : Int} {s : Sp} {v : Vl} (h1 : s.min.null = false) (h2 : s.max.null = false) (hv : v.null = false) : (spStep k s v).min.null = false ∧ (spStep k s v).max.null = false := by
  unfold spStep
  split
  · simp only []
    constructor <;> (split <;> assumption)
  · exact ⟨h1, h2⟩

theorem spMerge_fold {k : Int} (a : Sp) (a1 : a.min.null = false) (a2 : a.max.null = false) : ∀ (vs : List Vl) (b : Sp), b.min.null = false → b.max.null = false → (∀ v ∈ vs, v.null = false) → spMerge k a (vs.foldl (spStep k) b) = vs.foldl (spStep k) (spMerge k a b)
  | [], b, _, _, _ => rfl
  | v :: vs, b, b1, b2, hv => by
    have hvn := hv v (by simp)
    have := spStep_null (k := k) b1 b2 hvn
    rw [List.foldl_cons, spMerge_fold a a1 a2 vs _ this.1 this.2 (fun v h => hv v (List.mem_cons_of_mem _ h)), spMerge_step a b v a1 a2 b1 b2 hvn, List.foldl_cons]

theorem spMerge_zero (k : Int) (a : Sp) (h : a.has = false → a = sp0) : spMerge k a sp0 = a := by
  unfold spMerge
  split
  · rename_i e; rw [h e]
  · rw [if_pos (show sp0.has = false from rfl)]

/-- The program's way to merge. -/
theorem mergeF_eq (k : Int) (x y : Stt) (hx : x.has = false → spOf x = sp0) : mergeF k x y = ⟨IntKind.wrap .i64 (x.count + y.count), x.null || y.null, (spMerge k (spOf x) (if y.has = true then spOf y else sp0)).has, (spMerge k (spOf x) (if y.has = true then spOf y else sp0)).min, (spMerge k (spOf x) (if y.has = true then spOf y else sp0)).max,
    (merge1 x y).sums, (merge1 x y).sum⟩ := by
  have h0 : (merge1 x y).count = IntKind.wrap .i64 (x.count + y.count) ∧ (merge1 x y).null = (x.null || y.null) ∧ (merge1 x y).has = false ∧ (merge1 x y).min = vl0 ∧ (merge1 x y).max = vl0 := by
    unfold merge1 moreF merge0
    (repeat' split) <;> exact ⟨rfl, rfl, rfl, rfl, rfl⟩
  obtain ⟨e1, e2, e3, e4, e5⟩ := h0
  rw [mergeF, spansF, spansF, spansF]
  cases hxh : x.has with
  | false =>
    rw [hx hxh]
    cases hyh : y.has with
    | false =>
      simp only [Bool.false_eq_true, if_false, spMerge, sp0, if_true]
      rw [← e1, ← e2]
      cases hm : merge1 x y with
      | mk c n h mi ma su sm =>
        rw [hm] at e3 e4 e5
        simp only at e3 e4 e5
        simp [e3, e4, e5]
    | true =>
      simp only [Bool.false_eq_true, if_false, spMerge, sp0, if_true, spanF, e3, spOf, true_or]
      simp [e1, e2, hyh]
  | true =>
    cases hyh : y.has with
    | false =>
      simp only [Bool.false_eq_true, spMerge, spOf, hxh, sp0, Bool.true_eq_false, if_false, if_true, spanF, e3, true_or, e1, e2]
    | true =>
      simp only [spMerge, spOf, hxh, hyh, Bool.true_eq_false, if_false, if_true, spanF, e3, true_or, false_or, e1, e2]

/-! ### Sums -/

theorem smStep_false (a b : Int) : smStep (a, false) b = (a, false) := rfl
theorem sm_false : ∀ (l : List Int) (a : Int), l.foldl smStep (a, false) = (a, false)
  | [], a => rfl
  | b :: l, a => by rw [List.foldl_cons, smStep_false, sm_false l a]
theorem sm_sum : ∀ (l : List Int) (p : Int × Bool), (l.foldl smStep p).2 = true → p.2 = true ∧ (l.foldl smStep p).1 = p.1 + l.sum
  | [], p, h => ⟨h, by simp⟩
  | b :: l, p, h => by
    obtain ⟨h1, h2⟩ := sm_sum l _ (by simpa using h)
    obtain ⟨s, t⟩ := p
    cases t with
    | false => cases h1
    | true =>
      refine ⟨rfl, ?_⟩
      rw [List.foldl_cons, h2]
      simp only [smStep, if_true, addF] at h1 ⊢
      split at h1
      · rename_i hb
        rw [if_pos hb, List.sum_cons]; omega
      · cases h1
theorem sm_app (l m : List Int) (p : Int × Bool) : (l ++ m).foldl smStep p = m.foldl smStep (l.foldl smStep p) := List.foldl_append

/-! ### One column behind another -/

def appC (a b : Col) : Col := ⟨a.here ++ b.here, a.ints ++ b.ints, a.ns ++ b.ns, a.texts ++ b.texts, a.lens ++ b.lens⟩
def appCs (xs cs : List Col) : List Col := List.zipWith appC xs cs

theorem appC_here (b : Bool) (x c : Col) : hereC b (appC x c) = appC x (hereC b c) := by simp [hereC, appC]
theorem appC_add (k : Int) (v : Vl) (x c : Col) : addC k v (appC x c) = appC x (addC k v c) := by
  unfold addC addC2 addC1 hereC appC
  (repeat' split) <;> simp

theorem appCs_set (f : Col → Col) (hf : ∀ x c, f (appC x c) = appC x (f c)) : ∀ (xs cs : List Col) (i : Nat), xs.length = cs.length → (appCs xs cs).set i (f ((appCs xs cs).getD i col0)) = appCs xs (cs.set i (f (cs.getD i col0)))
  | [], [], i, _ => by simp [appCs]
  | x :: xs, c :: cs, 0, _ => by simp [appCs, hf]
  | x :: xs, c :: cs, i + 1, h => by
    have := appCs_set f hf xs cs i (by simpa using h)
    simp only [appCs, List.zipWith_cons_cons, List.set_cons_succ, List.getD_cons_succ] at this ⊢
    rw [this]
  | [], _ :: _, _, h => by simp at h
  | _ :: _, [], _, h => by simp at h

theorem appCs_len (xs cs : List Col) (h : xs.length = cs.length) : (appCs xs cs).length = cs.length := by simp [appCs, h]

theorem appCs_here : ∀ (xs cs : List Col) (i : Nat), xs.length = cs.length → (cs.getD i col0).here.length ≤ ((appCs xs cs).getD i col0).here.length
  | [], [], i, _ => by simp [appCs]
  | x :: xs, c :: cs, 0, _ => by simp [appCs, appC]
  | x :: xs, c :: cs, i + 1, h => by
    have := appCs_here xs cs i (by simpa using h)
    simpa [appCs] using this
  | [], _ :: _, _, h => by simp at h
  | _ :: _, [], _, h => by simp at h

theorem putF_app (l : List Nd) : ∀ (v : Vl) (at_ : Nat) (xs cs : List Col), xs.length = cs.length → (putF l at_ v (appCs xs cs)).2 = true → (putF l at_ v cs).2 = true ∧ (putF l at_ v (appCs xs cs)).1 = appCs xs (putF l at_ v cs).1 := by
  refine Vl.ind fun nu i n bs vks ih at_ xs cs hl h => ?_
  have hL : ∀ (vks : List Vl), (∀ v ∈ vks, ∀ (at_ : Nat) (xs cs : List Col), xs.length = cs.length → (putF l at_ v (appCs xs cs)).2 = true → (putF l at_ v cs).2 = true ∧ (putF l at_ v (appCs xs cs)).1 = appCs xs (putF l at_ v cs).1) →
      ∀ (j : Nat) (xs cs : List Col), xs.length = cs.length → (putL l at_ i j vks (appCs xs cs)).2 = true → (putL l at_ i j vks cs).2 = true ∧ (putL l at_ i j vks (appCs xs cs)).1 = appCs xs (putL l at_ i j vks cs).1 := by
    intro vks
    induction vks with
    | nil => intro _ j xs cs _ _; exact ⟨rfl, rfl⟩
    | cons v vs ih2 =>
      intro hv j xs cs hl h
      rw [putL] at h
      split at h
      · rename_i h1
        obtain ⟨g1, g2⟩ := hv v (by simp) _ xs cs hl h1
        rw [g2] at h
        rw [putL, putL, if_pos h1, if_pos g1, g2]
        exact ih2 (fun v h => hv v (List.mem_cons_of_mem _ h)) _ xs _ (by rw [hl, putF_keep]) h
      · cases h
  have hle := appCs_here xs cs at_ hl
  rw [putF] at h ⊢
  rw [putF]
  split at h
  · cases h
  · rename_i h1
    rw [if_neg h1, if_neg (by omega)]
    split at h
    · rename_i h2
      rw [if_pos h2, if_pos h2]
      exact ⟨rfl, appCs_set (hereC false) (appC_here false) xs cs at_ hl⟩
    · rename_i h2
      rw [if_neg h2, if_neg h2]
      rw [appCs_set (fun c => addC (kindC l at_) (.mk nu i n bs vks) c) (appC_add _ _) xs cs at_ hl] at h ⊢
      exact hL vks (fun v hm at_ xs cs => ih v hm at_ xs cs) 0 xs _ (by rw [hl, List.length_set]) h

theorem putRows_app (l : List Nd) : ∀ (rows : List Vl) (xs cs : List Col), xs.length = cs.length → (putRows l rows (appCs xs cs)).2 = true → (putRows l rows cs).2 = true ∧ (putRows l rows (appCs xs cs)).1 = appCs xs (putRows l rows cs).1
  | [], xs, cs, _, _ => ⟨rfl, rfl⟩
  | v :: vs, xs, cs, hl, h => by
    rw [putRows] at h
    split at h
    · rename_i h1
      obtain ⟨g1, g2⟩ := putF_app l v 0 xs cs hl h1
      rw [g2] at h
      rw [putRows, putRows, if_pos h1, if_pos g1, g2]
      exact putRows_app l vs xs _ (by rw [hl, putF_keep]) h
    · cases h

theorem putRows_two (l : List Nd) : ∀ (r1 r2 : List Vl) (cs : List Col), putRows l (r1 ++ r2) cs = if (putRows l r1 cs).2 = true then putRows l r2 (putRows l r1 cs).1 else putRows l r1 cs
  | [], r2, cs => by simp [putRows]
  | v :: vs, r2, cs => by
    rw [List.cons_append, putRows, putRows]
    split
    · exact putRows_two l vs r2 _
    · simp

theorem appCs_zero : ∀ (xs : List Col), appCs xs (List.replicate xs.length col0) = xs
  | [] => rfl
  | x :: xs => by
    have := appCs_zero xs
    simp only [appCs, List.length_cons, List.replicate_succ, List.zipWith_cons_cons] at this ⊢
    rw [this]
    simp [appC, col0]

theorem shredF_ok {t : Ty} {rows : List Vl} (h : (shredF t rows).2 = 0) : checkF t = 0 ∧ rowsE t rows = 0 ∧ (putRows (flattenF t) rows (List.replicate (flattenF t).length col0)).2 = true ∧ (shredF t rows).1 = (putRows (flattenF t) rows (List.replicate (flattenF t).length col0)).1 := by
  unfold shredF at h ⊢
  split at h
  · rename_i h0; exact absurd h h0
  · rename_i h0
    split at h
    · rename_i h1; exact absurd h h1
    · rename_i h1
      split at h
      · rename_i h2
        rw [if_neg h0, if_neg h1, if_pos h2]
        exact ⟨by simpa using h0, by simpa using h1, h2, rfl⟩
      · cases h

theorem shredF_two {t : Ty} {r1 r2 : List Vl} (h1 : (shredF t r1).2 = 0) (h2 : (shredF t r2).2 = 0) (h : (shredF t (r1 ++ r2)).2 = 0) : (shredF t (r1 ++ r2)).1 = appCs (shredF t r1).1 (shredF t r2).1 := by
  obtain ⟨_, _, a1, a2⟩ := shredF_ok h1
  obtain ⟨_, _, b1, b2⟩ := shredF_ok h2
  obtain ⟨_, _, c1, c2⟩ := shredF_ok h
  rw [putRows_two, if_pos a1] at c1 c2
  rw [c2, a2, b2]
  generalize flattenF t = l at *
  have hlen : (putRows l r1 (List.replicate l.length col0)).1.length = l.length := by rw [putRows_keep, List.length_replicate]
  generalize (putRows l r1 (List.replicate l.length col0)).1 = xs at *
  have e := appCs_zero xs
  rw [hlen] at e
  rw [← e] at c1
  have := putRows_app l r2 xs (List.replicate l.length col0) (by rw [hlen, List.length_replicate]) c1
  rw [← this.2, e]

theorem shredF_len {t : Ty} {rows : List Vl} (h : (shredF t rows).2 = 0) : (shredF t rows).1.length = (flattenF t).length := by
  rw [(shredF_ok h).2.2.2, putRows_keep, List.length_replicate]

/-- What holds of each column of rows. -/
structure ColOk (k : Int) (c : Col) : Prop where
  good : c.Good k
  rng : c.Rng
  sm : c.Sm

theorem ColOk.fit {k : Int} {c : Col} (h : ColOk k c) : c.Fit := by
  obtain ⟨_, ⟨h1, h2⟩, ⟨s1, s2, s3, s4, s5⟩⟩ := h
  exact ⟨by omega, by omega, by omega, by omega, by omega, h1, fun t ht => by have := h2 t ht; omega⟩

theorem shredF_col {t : Ty} {rows : List Vl} (hf : ∀ v ∈ rows, v.Fit) (h : (shredF t rows).2 = 0) {j : Nat} {c : Col} (hc : (shredF t rows).1[j]? = some c) : ColOk (kindC (flattenF t) j) c := by
  obtain ⟨h0, h1, h2, h3⟩ := shredF_ok h
  have hok := rowsE_ok h1
  rw [h3] at hc
  generalize flattenF t = l at *
  have hz : ∀ j c, (List.replicate l.length col0)[j]? = some c → c = col0 := fun j c e => List.eq_of_mem_replicate (List.mem_of_getElem? e)
  have hq : ∀ v ∈ rows, v.Sht := fun v hv => vchk_Sht v t (hf v hv) (hok v hv).1
  have hqk : ∀ v : Vl, v.Sht → ∀ k ∈ v.kids, k.Sht := fun v hv k hk => by cases hv with | mk _ _ h => exact h k hk
  refine ⟨?_, ?_, ?_⟩
  · exact putRows_inv l (fun j c => c.Good (kindC l j)) Vl.Sht hqk (fun j c h => hereC_Good h) (fun j c v h _ _ => addC_Good h) rows _ hq (fun j c e => by rw [hz j c e]; exact col0_Good _) j c hc
  · exact putRows_inv l (fun _ c => c.Rng) Vl.Sht hqk (fun j c h => ⟨h.1, h.2⟩) (fun j c v h hv _ => addC_Rng h hv) rows _ hq (fun j c e => by rw [hz j c e]; exact ⟨by simp [col0], by simp [col0]⟩) j c hc
  · refine putRows_Sm l rows _ (fun c hc => ?_) c (List.mem_of_getElem? hc)
    rw [List.eq_of_mem_replicate hc]
    exact ⟨by simp [col0], by simp [col0], by simp [col0], by simp [col0], by simp [col0]⟩

theorem Good.n {k : Int} {c : Col} (h : c.Good k) : (textF k = true ∧ c.ints = [] ∧ c.ns = [] ∧ colN c = c.texts.length) ∨ (c.texts = [] ∧ colN c = c.ints.length ∧ (c.ns = [] ∨ c.ns.length = c.ints.length) ∧ (c.ns = [] ↔ (k ≠ 9 ∨ c.ints = []))) := by
  obtain ⟨h1, h2, h3, h4⟩ := h
  unfold colN
  cases ht : textF k with
  | true =>
    have := textF_cases ht
    rw [if_pos (.inl ht)] at h2
    rw [if_neg (by omega)] at h3
    exact .inl ⟨rfl, List.length_eq_zero_iff.1 h2, List.length_eq_zero_iff.1 h3, by omega⟩
  | false =>
    rw [if_neg (by simp [ht])] at h1
    refine .inr ⟨List.length_eq_zero_iff.1 h1, by omega, ?_, ?_⟩
    · by_cases h9 : k = 9
      · rw [if_pos h9] at h3
        rw [if_neg (by rw [ht]; simp; omega)] at h2
        exact .inr (by omega)
      · rw [if_neg h9] at h3
        exact .inl (List.length_eq_zero_iff.1 h3)
    · by_cases h9 : k = 9
      · rw [if_pos h9] at h3
        rw [if_neg (by rw [ht]; simp; omega)] at h2
        rw [← List.length_eq_zero_iff, ← List.length_eq_zero_iff, h3, h2]
        simp [h9]
      · rw [if_neg h9] at h3
        simp [List.length_eq_zero_iff.1 h3, h9]

theorem getD_app {α : Type} (a b : List α) (d : α) (i : Nat) : (a ++ b).getD i d = if i < a.length then a.getD i d else b.getD (i - a.length) d := by
  simp only [List.getD_eq_getElem?_getD, List.getElem?_append]
  split <;> rfl

theorem valsC_app {k : Int} {a b : Col} (ha : a.Good k) (hb : b.Good k) : valsC (appC a b) = valsC a ++ valsC b := by
  have key : colN (appC a b) = colN a + colN b ∧ (∀ i, i < colN a → getV (appC a b) i = getV a i ∧ getA (appC a b) i = getA a i) ∧ (∀ i, i < colN b → getV (appC a b) (colN a + i) = getV b i ∧ getA (appC a b) (colN a + i) = getA b i) := by
    rcases Good.n ha with ⟨t1, i1, n1, c1⟩ | ⟨t1, c1, n1, m1⟩ <;> rcases Good.n hb with ⟨t2, i2, n2, c2⟩ | ⟨t2, c2, n2, m2⟩
    · refine ⟨by simp [colN, appC, i1, i2], fun i hi => ?_, fun i hi => ?_⟩
      · rw [c1] at hi
        simp only [getV, getA, appC, i1, i2, n1, n2, List.append_nil, List.length_append, getD_app, if_pos hi, if_pos (show i < a.texts.length + b.texts.length by omega)]
        constructor <;> trivial
      · rw [c2] at hi
        simp only [getV, getA, appC, i1, i2, n1, n2, c1, List.append_nil, List.length_append, getD_app, if_neg (show ¬ a.texts.length + i < a.texts.length by omega), Nat.add_sub_cancel_left, if_pos (show a.texts.length + i < a.texts.length + b.texts.length by omega), if_pos hi]
        constructor <;> trivial
    · have e := hb.texts
      rw [if_pos t1, t2] at e
      have e2 := hb.ints
      rw [if_pos (.inl t1)] at e2
      have e2 := List.length_eq_zero_iff.1 e2
      have e3 := m2.2 (.inr e2)
      refine ⟨by simp [colN, appC, i1, t2, e2], fun i hi => ?_, fun i hi => ?_⟩
      · rw [c1] at hi
        simp only [getV, getA, appC, i1, e2, t2, n1, e3, List.append_nil]
        constructor <;> trivial
      · rw [c2, e2] at hi; cases hi
    · have e := ha.texts
      rw [if_pos t2, t1] at e
      have e2 := ha.ints
      rw [if_pos (.inl t2)] at e2
      have e2 := List.length_eq_zero_iff.1 e2
      have e3 := m1.2 (.inr e2)
      have e4 : colN a = 0 := by rw [c1, e2]; rfl
      refine ⟨by simp [colN, appC, i2, t1, e2], fun i hi => by omega, fun i hi => ?_⟩
      simp only [getV, getA, appC, i2, e2, t1, n2, e3, List.nil_append, e4, Nat.zero_add]
      constructor <;> trivial
    · refine ⟨by simp [colN, appC, t1, t2], fun i hi => ?_, fun i hi => ?_⟩
      · rw [c1] at hi
        have hns : (a.ns ++ b.ns).getD i 0 = a.ns.getD i 0 := by
          rw [getD_app]
          rcases n1 with n1 | n1
          · have : k ≠ 9 := by
              rcases m1.1 n1 with h | h
              · exact h
              · rw [h] at hi; cases hi
            rw [n1, m2.2 (.inl this)]; simp
          · rw [if_pos (by omega)]
        simp only [getV, getA, appC, t1, t2, List.append_nil, hns, getD_app, if_pos hi]
        constructor <;> trivial
      · rw [c2] at hi
        have hns : (a.ns ++ b.ns).getD (a.ints.length + i) 0 = b.ns.getD i 0 := by
          rw [getD_app]
          rcases n1 with n1 | n1
          · by_cases h9 : k = 9
            · have e := m1.1 n1
              have : a.ints = [] := by rcases e with h | h; exact absurd h9 h; exact h
              rw [n1, this]; simp
            · rw [n1, m2.2 (.inl h9)]; simp
          · rw [if_neg (by omega), n1, Nat.add_sub_cancel_left]
        simp only [getV, getA, appC, t1, t2, c1, List.append_nil, hns, getD_app, if_neg (show ¬ a.ints.length + i < a.ints.length by omega), Nat.add_sub_cancel_left]
        constructor <;> trivial
  obtain ⟨h1, h2, h3⟩ := key
  unfold valsC getsC
  rw [h1, List.range_add, List.map_append, List.map_map]
  congr 1
  · refine List.map_congr_left fun i hi => ?_
    have := h2 i (List.mem_range.1 hi)
    rw [this.1, this.2]
  · refine List.map_congr_left fun i hi => ?_
    have := h3 i (List.mem_range.1 hi)
    simp only [Function.comp_apply]
    rw [this.1, this.2]

theorem hasF_app (a b : Col) : hasF (appC a b) = (hasF a || hasF b) := by simp [hasF, appC]

/-- The reference's way to merge. -/
def refMerge (k : Int) (a b : Stt) : Stt :=
  ⟨IntKind.wrap .i64 (a.count + b.count), a.null || b.null, a.has || b.has,
   if a.has = false then b.min else if b.has = true ∧ (cmpV k b.min a.min).1 < 0 then b.min else a.min,
   if a.has = false then b.max else if b.has = true ∧ 0 < (cmpV k b.max a.max).1 then b.max else a.max,
   if a.sums = true ∧ b.sums = true then (addF a.sum b.sum).2 else false,
   if a.sums = true ∧ b.sums = true then (addF a.sum b.sum).1 else 0⟩

theorem merge1_sum (x y : Stt) (hx : -9223372036854775808 ≤ x.sum ∧ x.sum ≤ 9223372036854775807) : ((merge1 x y).sums, (merge1 x y).sum) = (if x.sums = true ∧ y.sums = true then (addF x.sum y.sum).2 else false, if x.sums = true ∧ y.sums = true then (addF x.sum y.sum).1 else 0) := by
  have h0 : addF 0 x.sum = (x.sum, true) := by rw [addF, if_pos (by omega)]; simp
  unfold merge1 merge0 moreF
  cases hxs : x.sums <;> cases hys : y.sums <;> simp [h0]

theorem mergeF_ref (k : Int) (x y : Stt) (hx : x.has = false → spOf x = sp0) (hy : y.has = false → spOf y = sp0) (hs : -9223372036854775808 ≤ x.sum ∧ x.sum ≤ 9223372036854775807) : mergeF k x y = refMerge k x y := by
  have hm := merge1_sum x y hs
  simp only [Prod.mk.injEq] at hm
  rw [mergeF_eq k x y hx, refMerge, hm.1, hm.2]
  have e : (if y.has = true then spOf y else sp0) = spOf y := by
    split
    · rfl
    · rename_i h; exact (hy (by simpa using h)).symm
  rw [e]
  cases hxh : x.has with
  | false => simp [spMerge, spOf, hxh]
  | true =>
    cases hyh : y.has with
    | false => simp [spMerge, spOf, hxh, hyh]
    | true => simp [spMerge, spOf, hxh, hyh]

theorem ofF_sp (k : Int) (c : Col) : spOf (ofF k c) = spC k c := by rw [ofF_eq]; rfl

/-- Of two columns, merged: what is known of both. -/
theorem two_parts {k : Int} {a b : Col} (ha : a.Good k) (hb : b.Good k) : spMerge k (spC k a) (spC k b) = spC k (appC a b) := by
  have h1 := spC_bnd k a
  have h2 : spMerge k (spC k a) sp0 = spC k a := spMerge_zero k _ h1.zero
  show spMerge k (spC k a) (((valsC b).map (·.1)).foldl (spStep k) sp0) = ((valsC (appC a b)).map (·.1)).foldl (spStep k) sp0
  rw [spMerge_fold (k := k) _ h1.nmin h1.nmax _ sp0 rfl rfl (valsC_null b), h2, valsC_app ha hb, List.map_append, List.foldl_append]
  rfl
end Go.Abs

/- Contracts: values compared (the reference's). -/
namespace Go.Abs
open Go Go.Proofs
set_option linter.unusedVariables false
set_option linter.unusedSimpArgs false
set_option maxHeartbeats 4000000
attribute [local irreducible] AWp aops KP

mutual
def sameVl : Vl → Vl → Bool
  | .mk nu i n b ks, w => (nu == w.null) && (decide (i = w.i) && (decide (n = w.n) && (decide (b = w.b) && (decide (ks.length = w.kids.length) && sameVls ks w.kids))))
def sameVls : List Vl → List Vl → Bool
  | [], _ => true
  | v :: vs, ws => sameVl v (ws.getD 0 default) && sameVls vs (ws.drop 1)
end

theorem sameVl_refl : ∀ v : Vl, sameVl v v = true := by
  refine Vl.ind fun nu i n b ks ih => ?_
  have hL : ∀ (ks : List Vl), (∀ v ∈ ks, sameVl v v = true) → sameVls ks ks = true := by
    intro ks
    induction ks with
    | nil => intro _; rfl
    | cons v vs ih2 => intro h; rw [sameVls]; simp [h v (by simp), ih2 (fun v hv => h v (by simp [hv]))]
  rw [sameVl]
  simp [Vl.null, Vl.i, Vl.n, Vl.b, Vl.kids, hL ks ih]

theorem sameVls_drop : ∀ (ks ws : List Vl) (j : Nat) (v w : Vl), ks[j]? = some v → ws[j]? = some w → sameVls (ks.drop j) (ws.drop j) = (sameVl v w && sameVls (ks.drop (j + 1)) (ws.drop (j + 1))) := by
  intro ks ws j v w h1 h2
  obtain ⟨h1', rfl⟩ := List.getElem?_eq_some_iff.1 h1
  obtain ⟨h2', rfl⟩ := List.getElem?_eq_some_iff.1 h2
  rw [List.drop_eq_getElem_cons h1', sameVls, List.drop_eq_getElem_cons h2']
  simp [h2']

theorem c_refSame : ∀ (a : Vl), a.Fit → ∀ (b : Vl) (σ : AHeap), ACalls Try.prog f_ingotref14_Same [encV a, encV b] σ fun r σ' => r = .bool (sameVl a b) ∧ σ' = σ := by
  refine Vl.ind fun nu i n bs ks ih hf b σ => ?_
  cases hf with
  | mk _ hb hk hks =>
  have hk : ks.length ≤ 9223372036854775807 := hk
  rw [encV_eq, encV_eq]
  obtain ⟨bn, bi, b_n, bb, bk⟩ := b
  refine acalls_enter rfl ingotref14_Same_ok (Nat.le_of_ble_eq_true rfl) ?_
  refine aw_region ?_
  refine st_box rfl (AVal.fit_iff.1 rfl) fun b2 hb2 => ?_
  refine st_box rfl (AVal.fit_iff.1 rfl) fun b3 hb3 => ?_
  (repeat (refine st_q rfl rfl rfl ?_))
  (refine st_nil ?_; (repeat (first | refine kp_cons rfl ?_ | refine kp_skip ?_)); refine kp_nil ?_)
  refine awp_freezeP (d := 3) (cs := [.bool bn, .int .i64 bi, .int .i64 b_n, .slc 1 (bytes bb) false, .slc 5 (encVs bk) false]) rfl ?_
  refine awp_freezeP (d := 2) (cs := [.bool nu, .int .i64 i, .int .i64 n, .slc 1 (bytes bs) false, .slc 5 (encVs ks) false]) rfl ?_
  generalize hX : sameVl (.mk nu i n bs ks) (.mk bn bi b_n bb bk) = X
  simp only [sameVl, Vl.null, Vl.i, Vl.n, Vl.b, Vl.kids] at hX
  have eL : ∀ l : List Vl, (encVs l).length = l.length := encVs_length
  cases q0 : (nu == bn) with
  | false =>
    have q0' : (!(nu == bn)) = true := by rw [q0]; rfl
    (repeat (first | refine st_q rfl rfl rfl ?_ | refine st_gy rfl (st_q rfl rfl rfl ?_) | refine st_ldp rfl hget_head rfl rfl ?_ | refine st_gy rfl (st_ldp rfl hget_head rfl rfl ?_) | refine st_b2s rfl rfl ?_ | refine st_gy rfl (st_b2s rfl rfl ?_) | refine st_gn rfl ?_ | refine st_gu rfl ?_ | (refine st_nil ?_; (repeat (first | refine kp_cons rfl ?_ | refine kp_skip ?_)); refine kp_nil ?_) | refine awp_seq ?_ | refine aw_end (fun _ _ => rfl) ?_ | refine awp_block ?_ | refine aw_skipE (fun _ _ => rfl) ?_ | refine aw_exitE (fun _ _ => rfl) ?_ | refine awp_cond (t := true) rfl (fun _ => ?_) (fun e => by cases e) | refine awp_cond (t := false) rfl (fun e => by cases e) (fun _ => ?_)))
    rw [q0']
    (repeat (first | refine st_q rfl rfl rfl ?_ | refine st_gy rfl (st_q rfl rfl rfl ?_) | refine st_ldp rfl hget_head rfl rfl ?_ | refine st_gy rfl (st_ldp rfl hget_head rfl rfl ?_) | refine st_b2s rfl rfl ?_ | refine st_gy rfl (st_b2s rfl rfl ?_) | refine st_gn rfl ?_ | refine st_gu rfl ?_ | (refine st_nil ?_; (repeat (first | refine kp_cons rfl ?_ | refine kp_skip ?_)); refine kp_nil ?_) | refine awp_seq ?_ | refine aw_end (fun _ _ => rfl) ?_ | refine awp_block ?_ | refine aw_skipE (fun _ _ => rfl) ?_ | refine aw_exitE (fun _ _ => rfl) ?_ | refine awp_cond (t := true) rfl (fun _ => ?_) (fun e => by cases e) | refine awp_cond (t := false) rfl (fun e => by cases e) (fun _ => ?_)))
    (refine awp_ret ?_; exact ares rfl (HSub.refl _) ⟨(by rw [← hX, q0]; rfl), rfl⟩)
  | true =>
  have q0' : (!(nu == bn)) = false := by rw [q0]; rfl
  (repeat (first | refine st_q rfl rfl rfl ?_ | refine st_gy rfl (st_q rfl rfl rfl ?_) | refine st_ldp rfl hget_head rfl rfl ?_ | refine st_gy rfl (st_ldp rfl hget_head rfl rfl ?_) | refine st_b2s rfl rfl ?_ | refine st_gy rfl (st_b2s rfl rfl ?_) | refine st_gn rfl ?_ | refine st_gu rfl ?_ | (refine st_nil ?_; (repeat (first | refine kp_cons rfl ?_ | refine kp_skip ?_)); refine kp_nil ?_) | refine awp_seq ?_ | refine aw_end (fun _ _ => rfl) ?_ | refine awp_block ?_ | refine aw_skipE (fun _ _ => rfl) ?_ | refine aw_exitE (fun _ _ => rfl) ?_ | refine awp_cond (t := true) rfl (fun _ => ?_) (fun e => by cases e) | refine awp_cond (t := false) rfl (fun e => by cases e) (fun _ => ?_)))
  rw [q0']
  (repeat (first | refine st_q rfl rfl rfl ?_ | refine st_gy rfl (st_q rfl rfl rfl ?_) | refine st_ldp rfl hget_head rfl rfl ?_ | refine st_gy rfl (st_ldp rfl hget_head rfl rfl ?_) | refine st_b2s rfl rfl ?_ | refine st_gy rfl (st_b2s rfl rfl ?_) | refine st_gn rfl ?_ | refine st_gu rfl ?_ | (refine st_nil ?_; (repeat (first | refine kp_cons rfl ?_ | refine kp_skip ?_)); refine kp_nil ?_) | refine awp_seq ?_ | refine aw_end (fun _ _ => rfl) ?_ | refine awp_block ?_ | refine aw_skipE (fun _ _ => rfl) ?_ | refine aw_exitE (fun _ _ => rfl) ?_ | refine awp_cond (t := true) rfl (fun _ => ?_) (fun e => by cases e) | refine awp_cond (t := false) rfl (fun e => by cases e) (fun _ => ?_)))
  by_cases q1 : i = bi
  rotate_left
  · (rw [show decide (i ≠ bi) = true from decide_eq_true (by omega)])
    (repeat (first | refine st_q rfl rfl rfl ?_ | refine st_gy rfl (st_q rfl rfl rfl ?_) | refine st_ldp rfl hget_head rfl rfl ?_ | refine st_gy rfl (st_ldp rfl hget_head rfl rfl ?_) | refine st_b2s rfl rfl ?_ | refine st_gy rfl (st_b2s rfl rfl ?_) | refine st_gn rfl ?_ | refine st_gu rfl ?_ | (refine st_nil ?_; (repeat (first | refine kp_cons rfl ?_ | refine kp_skip ?_)); refine kp_nil ?_) | refine awp_seq ?_ | refine aw_end (fun _ _ => rfl) ?_ | refine awp_block ?_ | refine aw_skipE (fun _ _ => rfl) ?_ | refine aw_exitE (fun _ _ => rfl) ?_ | refine awp_cond (t := true) rfl (fun _ => ?_) (fun e => by cases e) | refine awp_cond (t := false) rfl (fun e => by cases e) (fun _ => ?_)))
    (refine awp_ret ?_; exact ares rfl (HSub.refl _) ⟨(by rw [← hX]; simp [q1, tupOf]), rfl⟩)
  (rw [show decide (i ≠ bi) = false from decide_eq_false (by omega)])
  (repeat (first | refine st_q rfl rfl rfl ?_ | refine st_gy rfl (st_q rfl rfl rfl ?_) | refine st_ldp rfl hget_head rfl rfl ?_ | refine st_gy rfl (st_ldp rfl hget_head rfl rfl ?_) | refine st_b2s rfl rfl ?_ | refine st_gy rfl (st_b2s rfl rfl ?_) | refine st_gn rfl ?_ | refine st_gu rfl ?_ | (refine st_nil ?_; (repeat (first | refine kp_cons rfl ?_ | refine kp_skip ?_)); refine kp_nil ?_) | refine awp_seq ?_ | refine aw_end (fun _ _ => rfl) ?_ | refine awp_block ?_ | refine aw_skipE (fun _ _ => rfl) ?_ | refine aw_exitE (fun _ _ => rfl) ?_ | refine awp_cond (t := true) rfl (fun _ => ?_) (fun e => by cases e) | refine awp_cond (t := false) rfl (fun e => by cases e) (fun _ => ?_)))
  by_cases q2 : n = b_n
  rotate_left
  · (rw [show decide (n ≠ b_n) = true from decide_eq_true (by omega)])
    (repeat (first | refine st_q rfl rfl rfl ?_ | refine st_gy rfl (st_q rfl rfl rfl ?_) | refine st_ldp rfl hget_head rfl rfl ?_ | refine st_gy rfl (st_ldp rfl hget_head rfl rfl ?_) | refine st_b2s rfl rfl ?_ | refine st_gy rfl (st_b2s rfl rfl ?_) | refine st_gn rfl ?_ | refine st_gu rfl ?_ | (refine st_nil ?_; (repeat (first | refine kp_cons rfl ?_ | refine kp_skip ?_)); refine kp_nil ?_) | refine awp_seq ?_ | refine aw_end (fun _ _ => rfl) ?_ | refine awp_block ?_ | refine aw_skipE (fun _ _ => rfl) ?_ | refine aw_exitE (fun _ _ => rfl) ?_ | refine awp_cond (t := true) rfl (fun _ => ?_) (fun e => by cases e) | refine awp_cond (t := false) rfl (fun e => by cases e) (fun _ => ?_)))
    (refine awp_ret ?_; exact ares rfl (HSub.refl _) ⟨(by rw [← hX]; simp [q2, tupOf]), rfl⟩)
  (rw [show decide (n ≠ b_n) = false from decide_eq_false (by omega)])
  (repeat (first | refine st_q rfl rfl rfl ?_ | refine st_gy rfl (st_q rfl rfl rfl ?_) | refine st_ldp rfl hget_head rfl rfl ?_ | refine st_gy rfl (st_ldp rfl hget_head rfl rfl ?_) | refine st_b2s rfl rfl ?_ | refine st_gy rfl (st_b2s rfl rfl ?_) | refine st_gn rfl ?_ | refine st_gu rfl ?_ | (refine st_nil ?_; (repeat (first | refine kp_cons rfl ?_ | refine kp_skip ?_)); refine kp_nil ?_) | refine awp_seq ?_ | refine aw_end (fun _ _ => rfl) ?_ | refine awp_block ?_ | refine aw_skipE (fun _ _ => rfl) ?_ | refine aw_exitE (fun _ _ => rfl) ?_ | refine awp_cond (t := true) rfl (fun _ => ?_) (fun e => by cases e) | refine awp_cond (t := false) rfl (fun e => by cases e) (fun _ => ?_)))
  by_cases q3 : bs = bb
  rotate_left
  · rw [show decide (bs ≠ bb) = true from decide_eq_true q3]
    (repeat (first | refine st_q rfl rfl rfl ?_ | refine st_gy rfl (st_q rfl rfl rfl ?_) | refine st_ldp rfl hget_head rfl rfl ?_ | refine st_gy rfl (st_ldp rfl hget_head rfl rfl ?_) | refine st_b2s rfl rfl ?_ | refine st_gy rfl (st_b2s rfl rfl ?_) | refine st_gn rfl ?_ | refine st_gu rfl ?_ | (refine st_nil ?_; (repeat (first | refine kp_cons rfl ?_ | refine kp_skip ?_)); refine kp_nil ?_) | refine awp_seq ?_ | refine aw_end (fun _ _ => rfl) ?_ | refine awp_block ?_ | refine aw_skipE (fun _ _ => rfl) ?_ | refine aw_exitE (fun _ _ => rfl) ?_ | refine awp_cond (t := true) rfl (fun _ => ?_) (fun e => by cases e) | refine awp_cond (t := false) rfl (fun e => by cases e) (fun _ => ?_)))
    (refine awp_ret ?_; exact ares rfl (HSub.refl _) ⟨(by rw [← hX]; simp [q3, tupOf]), rfl⟩)
  rw [show decide (bs ≠ bb) = false from decide_eq_false (fun h => h q3)]
  (repeat (first | refine st_q rfl rfl rfl ?_ | refine st_gy rfl (st_q rfl rfl rfl ?_) | refine st_ldp rfl hget_head rfl rfl ?_ | refine st_gy rfl (st_ldp rfl hget_head rfl rfl ?_) | refine st_b2s rfl rfl ?_ | refine st_gy rfl (st_b2s rfl rfl ?_) | refine st_gn rfl ?_ | refine st_gu rfl ?_ | (refine st_nil ?_; (repeat (first | refine kp_cons rfl ?_ | refine kp_skip ?_)); refine kp_nil ?_) | refine awp_seq ?_ | refine aw_end (fun _ _ => rfl) ?_ | refine awp_block ?_ | refine aw_skipE (fun _ _ => rfl) ?_ | refine aw_exitE (fun _ _ => rfl) ?_ | refine awp_cond (t := true) rfl (fun _ => ?_) (fun e => by cases e) | refine awp_cond (t := false) rfl (fun e => by cases e) (fun _ => ?_)))
  rw [eL, eL]
  by_cases q4 : ks.length = bk.length
  rotate_left
  · (rw [show decide ((ks.length : Int) ≠ (bk.length : Int)) = true from decide_eq_true (by omega)])
    (repeat (first | refine st_q rfl rfl rfl ?_ | refine st_gy rfl (st_q rfl rfl rfl ?_) | refine st_ldp rfl hget_head rfl rfl ?_ | refine st_gy rfl (st_ldp rfl hget_head rfl rfl ?_) | refine st_b2s rfl rfl ?_ | refine st_gy rfl (st_b2s rfl rfl ?_) | refine st_gn rfl ?_ | refine st_gu rfl ?_ | (refine st_nil ?_; (repeat (first | refine kp_cons rfl ?_ | refine kp_skip ?_)); refine kp_nil ?_) | refine awp_seq ?_ | refine aw_end (fun _ _ => rfl) ?_ | refine awp_block ?_ | refine aw_skipE (fun _ _ => rfl) ?_ | refine aw_exitE (fun _ _ => rfl) ?_ | refine awp_cond (t := true) rfl (fun _ => ?_) (fun e => by cases e) | refine awp_cond (t := false) rfl (fun e => by cases e) (fun _ => ?_)))
    (refine awp_ret ?_; exact ares rfl (HSub.refl _) ⟨(by rw [← hX]; simp [q4, tupOf]), rfl⟩)
  (rw [show decide ((ks.length : Int) ≠ (bk.length : Int)) = false from decide_eq_false (by omega)])
  (repeat (first | refine st_q rfl rfl rfl ?_ | refine st_gy rfl (st_q rfl rfl rfl ?_) | refine st_ldp rfl hget_head rfl rfl ?_ | refine st_gy rfl (st_ldp rfl hget_head rfl rfl ?_) | refine st_b2s rfl rfl ?_ | refine st_gy rfl (st_b2s rfl rfl ?_) | refine st_gn rfl ?_ | refine st_gu rfl ?_ | (refine st_nil ?_; (repeat (first | refine kp_cons rfl ?_ | refine kp_skip ?_)); refine kp_nil ?_) | refine awp_seq ?_ | refine aw_end (fun _ _ => rfl) ?_ | refine awp_block ?_ | refine aw_skipE (fun _ _ => rfl) ?_ | refine aw_exitE (fun _ _ => rfl) ?_ | refine awp_cond (t := true) rfl (fun _ => ?_) (fun e => by cases e) | refine awp_cond (t := false) rfl (fun e => by cases e) (fun _ => ?_)))
  have hX : sameVls ks bk = X := by rw [← hX]; simp [q0, q1, q2, q3, q4]
  refine awp_loopN (fun m F σ' => ∃ (j : Nat), F = fset 2 (some (.iptr [.bool nu, .int .i64 i, .int .i64 n, .slc 1 (bytes bs) false, .slc 5 (encVs ks) false])) (fset 3 (some (.iptr [.bool bn, .int .i64 bi, .int .i64 b_n, .slc 1 (bytes bb) false, .slc 5 (encVs bk) false])) (fset 5 (some (.int .i64 (j : Int))) fnone)) ∧
    σ = σ' ∧ j ≤ ks.length ∧ sameVls (ks.drop j) (bk.drop j) = X ∧ m = ks.length - j) (n := ks.length) ⟨0, rfl, rfl, by omega, hX, rfl⟩ ?_
  rintro m F σ' ⟨j, rfl, rfl, hj, hXj, rfl⟩
  (repeat (first | refine st_q rfl rfl rfl ?_ | refine st_gy rfl (st_q rfl rfl rfl ?_) | refine st_ldp rfl hget_head rfl rfl ?_ | refine st_gy rfl (st_ldp rfl hget_head rfl rfl ?_) | refine st_b2s rfl rfl ?_ | refine st_gy rfl (st_b2s rfl rfl ?_) | refine st_gn rfl ?_ | refine st_gu rfl ?_ | (refine st_nil ?_; (repeat (first | refine kp_cons rfl ?_ | refine kp_skip ?_)); refine kp_nil ?_) | refine awp_seq ?_ | refine aw_end (fun _ _ => rfl) ?_ | refine awp_block ?_ | refine aw_skipE (fun _ _ => rfl) ?_ | refine aw_exitE (fun _ _ => rfl) ?_ | refine awp_cond (t := true) rfl (fun _ => ?_) (fun e => by cases e) | refine awp_cond (t := false) rfl (fun e => by cases e) (fun _ => ?_)))
  rw [eL]
  refine awp_condp (p := (j : Int) < (ks.length : Int)) rfl (fun h5 => ?_) (fun h5 => ?_)
  · have hjl : j < ks.length := by omega
    have hjl2 : j < bk.length := by omega
    have h1 : (encVs ks)[((j : Nat) : Int).toNat]? = some (.agg (cellsV ks[j])) := by rw [← encV_eq]; exact encVs_get (by rw [Int.toNat_natCast, List.getElem?_eq_getElem hjl])
    have h2 : (encVs bk)[((j : Nat) : Int).toNat]? = some (.agg (cellsV bk[j])) := by rw [← encV_eq]; exact encVs_get (by rw [Int.toNat_natCast, List.getElem?_eq_getElem hjl2])
    rw [sameVls_drop ks bk j ks[j] bk[j] (List.getElem?_eq_getElem hjl) (List.getElem?_eq_getElem hjl2)] at hXj
    have hc := ih ks[j] (List.getElem_mem hjl) (hks _ (List.getElem_mem hjl)) bk[j]
    rw [encV_eq, encV_eq] at hc
    (repeat (first | refine st_q rfl rfl rfl ?_ | refine st_gy rfl (st_q rfl rfl rfl ?_) | refine st_ldp rfl hget_head rfl rfl ?_ | refine st_gy rfl (st_ldp rfl hget_head rfl rfl ?_) | refine st_b2s rfl rfl ?_ | refine st_gy rfl (st_b2s rfl rfl ?_) | refine st_gn rfl ?_ | refine st_gu rfl ?_ | (refine st_nil ?_; (repeat (first | refine kp_cons rfl ?_ | refine kp_skip ?_)); refine kp_nil ?_) | refine awp_seq ?_ | refine aw_end (fun _ _ => rfl) ?_ | refine awp_block ?_ | refine aw_skipE (fun _ _ => rfl) ?_ | refine aw_exitE (fun _ _ => rfl) ?_ | refine awp_cond (t := true) rfl (fun _ => ?_) (fun e => by cases e) | refine awp_cond (t := false) rfl (fun e => by cases e) (fun _ => ?_)))
    refine st_iad rfl (by omega) h1 ?_
    (repeat (first | refine st_q rfl rfl rfl ?_ | refine st_gy rfl (st_q rfl rfl rfl ?_) | refine st_ldp rfl hget_head rfl rfl ?_ | refine st_gy rfl (st_ldp rfl hget_head rfl rfl ?_) | refine st_b2s rfl rfl ?_ | refine st_gy rfl (st_b2s rfl rfl ?_) | refine st_gn rfl ?_ | refine st_gu rfl ?_ | (refine st_nil ?_; (repeat (first | refine kp_cons rfl ?_ | refine kp_skip ?_)); refine kp_nil ?_) | refine awp_seq ?_ | refine aw_end (fun _ _ => rfl) ?_ | refine awp_block ?_ | refine aw_skipE (fun _ _ => rfl) ?_ | refine aw_exitE (fun _ _ => rfl) ?_ | refine awp_cond (t := true) rfl (fun _ => ?_) (fun e => by cases e) | refine awp_cond (t := false) rfl (fun e => by cases e) (fun _ => ?_)))
    refine st_iad rfl (by omega) h2 ?_
    (repeat (first | refine st_q rfl rfl rfl ?_ | refine st_gy rfl (st_q rfl rfl rfl ?_) | refine st_ldp rfl hget_head rfl rfl ?_ | refine st_gy rfl (st_ldp rfl hget_head rfl rfl ?_) | refine st_b2s rfl rfl ?_ | refine st_gy rfl (st_b2s rfl rfl ?_) | refine st_gn rfl ?_ | refine st_gu rfl ?_ | (refine st_nil ?_; (repeat (first | refine kp_cons rfl ?_ | refine kp_skip ?_)); refine kp_nil ?_) | refine awp_seq ?_ | refine aw_end (fun _ _ => rfl) ?_ | refine awp_block ?_ | refine aw_skipE (fun _ _ => rfl) ?_ | refine aw_exitE (fun _ _ => rfl) ?_ | refine awp_cond (t := true) rfl (fun _ => ?_) (fun e => by cases e) | refine awp_cond (t := false) rfl (fun e => by cases e) (fun _ => ?_)))
    (first | refine st_callv rfl (hc _) ?_ | refine st_gy rfl (st_callv rfl (hc _) ?_) | refine st_callp rfl hc ?_ | refine st_gy rfl (st_callp rfl hc ?_))
    cases hs : sameVl ks[j] bk[j] with
    | false =>
      rw [hs, Bool.false_and] at hXj
      (repeat (first | refine st_q rfl rfl rfl ?_ | refine st_gy rfl (st_q rfl rfl rfl ?_) | refine st_ldp rfl hget_head rfl rfl ?_ | refine st_gy rfl (st_ldp rfl hget_head rfl rfl ?_) | refine st_b2s rfl rfl ?_ | refine st_gy rfl (st_b2s rfl rfl ?_) | refine st_gn rfl ?_ | refine st_gu rfl ?_ | (refine st_nil ?_; (repeat (first | refine kp_cons rfl ?_ | refine kp_skip ?_)); refine kp_nil ?_) | refine awp_seq ?_ | refine aw_end (fun _ _ => rfl) ?_ | refine awp_block ?_ | refine aw_skipE (fun _ _ => rfl) ?_ | refine aw_exitE (fun _ _ => rfl) ?_ | refine awp_cond (t := true) rfl (fun _ => ?_) (fun e => by cases e) | refine awp_cond (t := false) rfl (fun e => by cases e) (fun _ => ?_)))
      (refine awp_ret ?_; exact ares rfl (HSub.refl _) ⟨(by rw [← hXj]; rfl), rfl⟩)
    | true =>
      rw [hs, Bool.true_and] at hXj
      (repeat (first | refine st_q rfl rfl rfl ?_ | refine st_gy rfl (st_q rfl rfl rfl ?_) | refine st_ldp rfl hget_head rfl rfl ?_ | refine st_gy rfl (st_ldp rfl hget_head rfl rfl ?_) | refine st_b2s rfl rfl ?_ | refine st_gy rfl (st_b2s rfl rfl ?_) | refine st_gn rfl ?_ | refine st_gu rfl ?_ | (refine st_nil ?_; (repeat (first | refine kp_cons rfl ?_ | refine kp_skip ?_)); refine kp_nil ?_) | refine awp_seq ?_ | refine aw_end (fun _ _ => rfl) ?_ | refine awp_block ?_ | refine aw_skipE (fun _ _ => rfl) ?_ | refine aw_exitE (fun _ _ => rfl) ?_ | refine awp_cond (t := true) rfl (fun _ => ?_) (fun e => by cases e) | refine awp_cond (t := false) rfl (fun e => by cases e) (fun _ => ?_)))
      refine aw_round ?_
      (repeat (refine st_q rfl rfl rfl ?_))
      rw [show IntKind.wrap .i64 ((j : Int) + 1) = ((j + 1 : Nat) : Int) by rw [w64 _ (by omega) (by omega)]; omega]
      (refine st_nil ?_; (repeat (first | refine kp_cons rfl ?_ | refine kp_skip ?_)); refine kp_nil ?_)
      exact ⟨_, ks.length - (j + 1), HSub.refl _, ⟨j + 1, rfl, rfl, by omega, hXj, rfl⟩, by omega⟩
  · (repeat (first | refine st_q rfl rfl rfl ?_ | refine st_gy rfl (st_q rfl rfl rfl ?_) | refine st_ldp rfl hget_head rfl rfl ?_ | refine st_gy rfl (st_ldp rfl hget_head rfl rfl ?_) | refine st_b2s rfl rfl ?_ | refine st_gy rfl (st_b2s rfl rfl ?_) | refine st_gn rfl ?_ | refine st_gu rfl ?_ | (refine st_nil ?_; (repeat (first | refine kp_cons rfl ?_ | refine kp_skip ?_)); refine kp_nil ?_) | refine awp_seq ?_ | refine aw_end (fun _ _ => rfl) ?_ | refine awp_block ?_ | refine aw_skipE (fun _ _ => rfl) ?_ | refine aw_exitE (fun _ _ => rfl) ?_ | refine awp_cond (t := true) rfl (fun _ => ?_) (fun e => by cases e) | refine awp_cond (t := false) rfl (fun e => by cases e) (fun _ => ?_)))
    rw [List.drop_of_length_le (by omega), sameVls] at hXj
    (refine awp_ret ?_; exact ares rfl (HSub.refl _) ⟨(by rw [← hXj]; rfl), rfl⟩)

theorem cb_eq0 : ∀ a b : List UInt8, Lib.compareBytes a b = 0 ↔ a = b
  | [], [] => by simp [Lib.compareBytes]
  | [], _ :: _ => by simp [Lib.compareBytes]
  | _ :: _, [] => by simp [Lib.compareBytes]
  | a :: xs, b :: ys => by
    simp only [Lib.compareBytes, u8_lt]
    have := cb_eq0 xs ys
    have e : a = b ↔ a.toNat = b.toNat := ⟨fun h => by rw [h], fun h => UInt8.toNat_inj.1 h⟩
    split
    · simp [e]; omega
    · split
      · simp [e]; omega
      · simp [this, e]; omega
theorem cb_less : ∀ a b : List UInt8, Op.bytesLess a b = decide (Lib.compareBytes a b < 0)
  | [], [] => by simp [Lib.compareBytes, Op.bytesLess]
  | [], _ :: _ => by simp [Lib.compareBytes, Op.bytesLess]
  | _ :: _, [] => by simp [Lib.compareBytes, Op.bytesLess]
  | a :: xs, b :: ys => by
    simp only [Lib.compareBytes, Op.bytesLess, cb_less xs ys]
    have e : a = b ↔ a.toNat = b.toNat := ⟨fun h => by rw [h], fun h => UInt8.toNat_inj.1 h⟩
    by_cases h1 : a < b
    · simp [h1]
    · by_cases h2 : b < a
      · have : a ≠ b := by rw [u8_lt] at h2; intro h; rw [h] at h2; omega
        simp [h1, h2, this]
      · have : a = b := by rw [u8_lt] at h1 h2; rw [e]; omega
        simp [this]
theorem cb_val (a b : List UInt8) : Lib.compareBytes a b = -1 ∨ Lib.compareBytes a b = 0 ∨ Lib.compareBytes a b = 1 := by
  induction a generalizing b with
  | nil => cases b <;> simp [Lib.compareBytes]
  | cons a xs ih =>
    cases b with
    | nil => simp [Lib.compareBytes]
    | cons b ys =>
      simp only [Lib.compareBytes]
      split
      · simp
      · split
        · simp
        · exact ih ys

theorem c_refCompare (t : List AVal) (k : Int) (ht : t.length = 6) (hk : t[0]? = some (.int .i64 k)) (ht1 : ∀ c ∈ t, c.one = true) (a b : Vl) (σ : AHeap) : ACalls Try.prog f_ingotref14_Compare [.agg t, encV a, encV b] σ fun r σ' => r = .tup [.int .i64 (cmpV k a b).1, .bool (cmpV k a b).2] ∧ σ' = σ := by
  match t, ht with
  | [t0, t1, t2, t3, t4, t5], _ =>
  simp only [List.getElem?_cons_zero, Option.some.injEq] at hk
  subst hk
  obtain ⟨an, ai, a_n, ab, ak⟩ := a
  obtain ⟨bn, bi, b_n, bb, bk⟩ := b
  simp only [encV]
  refine acalls_enter rfl ingotref14_Compare_ok (Nat.le_of_ble_eq_true rfl) ?_
  refine aw_region ?_
  refine st_box rfl ⟨rfl, ht1⟩ fun b1 hb1 => ?_
  refine st_box rfl (AVal.fit_iff.1 rfl) fun b2 hb2 => ?_
  refine st_box rfl (AVal.fit_iff.1 rfl) fun b3 hb3 => ?_
  (repeat (refine st_q rfl rfl rfl ?_))
  (refine st_nil ?_; (repeat (first | refine kp_cons rfl ?_ | refine kp_skip ?_)); refine kp_nil ?_)
  refine awp_freezeP (d := 5) (cs := [.bool bn, .int .i64 bi, .int .i64 b_n, .slc 1 (bytes bb) false, .slc 5 (encVs bk) false]) rfl ?_
  refine awp_freezeP (d := 4) (cs := [.bool an, .int .i64 ai, .int .i64 a_n, .slc 1 (bytes ab) false, .slc 5 (encVs ak) false]) rfl ?_
  refine awp_freezeP (d := 3) (cs := [.int .i64 k, t1, t2, t3, t4, t5]) rfl ?_
  cases an with
  | true =>
    (repeat (first | refine st_q rfl rfl rfl ?_ | refine st_gy rfl (st_q rfl rfl rfl ?_) | refine st_ldp rfl hget_head rfl rfl ?_ | refine st_gy rfl (st_ldp rfl hget_head rfl rfl ?_) | refine st_b2s rfl rfl ?_ | refine st_gy rfl (st_b2s rfl rfl ?_) | refine st_gn rfl ?_ | refine st_gu rfl ?_ | (refine st_nil ?_; (repeat (first | refine kp_cons rfl ?_ | refine kp_skip ?_)); refine kp_nil ?_) | refine awp_seq ?_ | refine aw_end (fun _ _ => rfl) ?_ | refine awp_block ?_ | refine aw_skipE (fun _ _ => rfl) ?_ | refine aw_exitE (fun _ _ => rfl) ?_ | refine awp_cond (t := true) rfl (fun _ => ?_) (fun e => by cases e) | refine awp_cond (t := false) rfl (fun e => by cases e) (fun _ => ?_)))
    (refine awp_ret ?_; exact ares rfl (HSub.refl _) ⟨(by rw [cmpV, if_pos (.inr (.inl rfl))]; rfl), rfl⟩)
  | false =>
  cases bn with
  | true =>
    (repeat (first | refine st_q rfl rfl rfl ?_ | refine st_gy rfl (st_q rfl rfl rfl ?_) | refine st_ldp rfl hget_head rfl rfl ?_ | refine st_gy rfl (st_ldp rfl hget_head rfl rfl ?_) | refine st_b2s rfl rfl ?_ | refine st_gy rfl (st_b2s rfl rfl ?_) | refine st_gn rfl ?_ | refine st_gu rfl ?_ | (refine st_nil ?_; (repeat (first | refine kp_cons rfl ?_ | refine kp_skip ?_)); refine kp_nil ?_) | refine awp_seq ?_ | refine aw_end (fun _ _ => rfl) ?_ | refine awp_block ?_ | refine aw_skipE (fun _ _ => rfl) ?_ | refine aw_exitE (fun _ _ => rfl) ?_ | refine awp_cond (t := true) rfl (fun _ => ?_) (fun e => by cases e) | refine awp_cond (t := false) rfl (fun e => by cases e) (fun _ => ?_)))
    (refine awp_ret ?_; exact ares rfl (HSub.refl _) ⟨(by rw [cmpV, if_pos (.inr (.inr rfl))]; rfl), rfl⟩)
  | false =>
  (repeat (first | refine st_q rfl rfl rfl ?_ | refine st_gy rfl (st_q rfl rfl rfl ?_) | refine st_ldp rfl hget_head rfl rfl ?_ | refine st_gy rfl (st_ldp rfl hget_head rfl rfl ?_) | refine st_b2s rfl rfl ?_ | refine st_gy rfl (st_b2s rfl rfl ?_) | refine st_gn rfl ?_ | refine st_gu rfl ?_ | (refine st_nil ?_; (repeat (first | refine kp_cons rfl ?_ | refine kp_skip ?_)); refine kp_nil ?_) | refine awp_seq ?_ | refine aw_end (fun _ _ => rfl) ?_ | refine awp_block ?_ | refine aw_skipE (fun _ _ => rfl) ?_ | refine aw_exitE (fun _ _ => rfl) ?_ | refine awp_cond (t := true) rfl (fun _ => ?_) (fun e => by cases e) | refine awp_cond (t := false) rfl (fun e => by cases e) (fun _ => ?_)))
  (first | refine st_callv rfl ((c_refLeaf k) _) ?_ | refine st_gy rfl (st_callv rfl ((c_refLeaf k) _) ?_) | refine st_callp rfl (c_refLeaf k) ?_ | refine st_gy rfl (st_callp rfl (c_refLeaf k) ?_))
  cases hl : leafF k with
  | false =>
    (repeat (first | refine st_q rfl rfl rfl ?_ | refine st_gy rfl (st_q rfl rfl rfl ?_) | refine st_ldp rfl hget_head rfl rfl ?_ | refine st_gy rfl (st_ldp rfl hget_head rfl rfl ?_) | refine st_b2s rfl rfl ?_ | refine st_gy rfl (st_b2s rfl rfl ?_) | refine st_gn rfl ?_ | refine st_gu rfl ?_ | (refine st_nil ?_; (repeat (first | refine kp_cons rfl ?_ | refine kp_skip ?_)); refine kp_nil ?_) | refine awp_seq ?_ | refine aw_end (fun _ _ => rfl) ?_ | refine awp_block ?_ | refine aw_skipE (fun _ _ => rfl) ?_ | refine aw_exitE (fun _ _ => rfl) ?_ | refine awp_cond (t := true) rfl (fun _ => ?_) (fun e => by cases e) | refine awp_cond (t := false) rfl (fun e => by cases e) (fun _ => ?_)))
    (refine awp_ret ?_; exact ares rfl (HSub.refl _) ⟨(by rw [cmpV, if_pos (.inl hl)]; rfl), rfl⟩)
  | true =>
  have hc : ¬ (leafF k = false ∨ (Vl.mk false ai a_n ab ak).null = true ∨ (Vl.mk false bi b_n bb bk).null = true) := by simp [hl, Vl.null]
  rw [cmpV, if_neg hc]
  simp only [Vl.i, Vl.n, Vl.b]
  (repeat (first | refine st_q rfl rfl rfl ?_ | refine st_gy rfl (st_q rfl rfl rfl ?_) | refine st_ldp rfl hget_head rfl rfl ?_ | refine st_gy rfl (st_ldp rfl hget_head rfl rfl ?_) | refine st_b2s rfl rfl ?_ | refine st_gy rfl (st_b2s rfl rfl ?_) | refine st_gn rfl ?_ | refine st_gu rfl ?_ | (refine st_nil ?_; (repeat (first | refine kp_cons rfl ?_ | refine kp_skip ?_)); refine kp_nil ?_) | refine awp_seq ?_ | refine aw_end (fun _ _ => rfl) ?_ | refine awp_block ?_ | refine aw_skipE (fun _ _ => rfl) ?_ | refine aw_exitE (fun _ _ => rfl) ?_ | refine awp_cond (t := true) rfl (fun _ => ?_) (fun e => by cases e) | refine awp_cond (t := false) rfl (fun e => by cases e) (fun _ => ?_)))
  (first | refine st_callv rfl ((c_Texts k) _) ?_ | refine st_gy rfl (st_callv rfl ((c_Texts k) _) ?_) | refine st_callp rfl (c_Texts k) ?_ | refine st_gy rfl (st_callp rfl (c_Texts k) ?_))
  cases ht : textF k with
  | true =>
    have hv := cb_val ab bb
    have h0 := cb_eq0 ab bb
    have hless := cb_less ab bb
    (repeat (first | refine st_q rfl rfl rfl ?_ | refine st_gy rfl (st_q rfl rfl rfl ?_) | refine st_ldp rfl hget_head rfl rfl ?_ | refine st_gy rfl (st_ldp rfl hget_head rfl rfl ?_) | refine st_b2s rfl rfl ?_ | refine st_gy rfl (st_b2s rfl rfl ?_) | refine st_gn rfl ?_ | refine st_gu rfl ?_ | (refine st_nil ?_; (repeat (first | refine kp_cons rfl ?_ | refine kp_skip ?_)); refine kp_nil ?_) | refine awp_seq ?_ | refine aw_end (fun _ _ => rfl) ?_ | refine awp_block ?_ | refine aw_skipE (fun _ _ => rfl) ?_ | refine aw_exitE (fun _ _ => rfl) ?_ | refine awp_cond (t := true) rfl (fun _ => ?_) (fun e => by cases e) | refine awp_cond (t := false) rfl (fun e => by cases e) (fun _ => ?_)))
    by_cases h1 : Lib.compareBytes ab bb < 0
    · rw [decide_eq_true h1] at hless
      rw [hless]
      (repeat (first | refine st_q rfl rfl rfl ?_ | refine st_gy rfl (st_q rfl rfl rfl ?_) | refine st_ldp rfl hget_head rfl rfl ?_ | refine st_gy rfl (st_ldp rfl hget_head rfl rfl ?_) | refine st_b2s rfl rfl ?_ | refine st_gy rfl (st_b2s rfl rfl ?_) | refine st_gn rfl ?_ | refine st_gu rfl ?_ | (refine st_nil ?_; (repeat (first | refine kp_cons rfl ?_ | refine kp_skip ?_)); refine kp_nil ?_) | refine awp_seq ?_ | refine aw_end (fun _ _ => rfl) ?_ | refine awp_block ?_ | refine aw_skipE (fun _ _ => rfl) ?_ | refine aw_exitE (fun _ _ => rfl) ?_ | refine awp_cond (t := true) rfl (fun _ => ?_) (fun e => by cases e) | refine awp_cond (t := false) rfl (fun e => by cases e) (fun _ => ?_)))
      (refine awp_ret ?_; exact ares rfl (HSub.refl _) ⟨(by rw [show Lib.compareBytes ab bb = -1 by omega]; rfl), rfl⟩)
    · rw [decide_eq_false h1] at hless
      rw [hless]
      (repeat (first | refine st_q rfl rfl rfl ?_ | refine st_gy rfl (st_q rfl rfl rfl ?_) | refine st_ldp rfl hget_head rfl rfl ?_ | refine st_gy rfl (st_ldp rfl hget_head rfl rfl ?_) | refine st_b2s rfl rfl ?_ | refine st_gy rfl (st_b2s rfl rfl ?_) | refine st_gn rfl ?_ | refine st_gu rfl ?_ | (refine st_nil ?_; (repeat (first | refine kp_cons rfl ?_ | refine kp_skip ?_)); refine kp_nil ?_) | refine awp_seq ?_ | refine aw_end (fun _ _ => rfl) ?_ | refine awp_block ?_ | refine aw_skipE (fun _ _ => rfl) ?_ | refine aw_exitE (fun _ _ => rfl) ?_ | refine awp_cond (t := true) rfl (fun _ => ?_) (fun e => by cases e) | refine awp_cond (t := false) rfl (fun e => by cases e) (fun _ => ?_)))
      rw [hless]
      by_cases h2 : ab = bb
      · rw [show (!(false || decide (ab = bb))) = false by simp [h2]]
        (repeat (first | refine st_q rfl rfl rfl ?_ | refine st_gy rfl (st_q rfl rfl rfl ?_) | refine st_ldp rfl hget_head rfl rfl ?_ | refine st_gy rfl (st_ldp rfl hget_head rfl rfl ?_) | refine st_b2s rfl rfl ?_ | refine st_gy rfl (st_b2s rfl rfl ?_) | refine st_gn rfl ?_ | refine st_gu rfl ?_ | (refine st_nil ?_; (repeat (first | refine kp_cons rfl ?_ | refine kp_skip ?_)); refine kp_nil ?_) | refine awp_seq ?_ | refine aw_end (fun _ _ => rfl) ?_ | refine awp_block ?_ | refine aw_skipE (fun _ _ => rfl) ?_ | refine aw_exitE (fun _ _ => rfl) ?_ | refine awp_cond (t := true) rfl (fun _ => ?_) (fun e => by cases e) | refine awp_cond (t := false) rfl (fun e => by cases e) (fun _ => ?_)))
        (refine awp_ret ?_; exact ares rfl (HSub.refl _) ⟨(by rw [h0.2 h2]; rfl), rfl⟩)
      · rw [show (!(false || decide (ab = bb))) = true by simp [h2]]
        (repeat (first | refine st_q rfl rfl rfl ?_ | refine st_gy rfl (st_q rfl rfl rfl ?_) | refine st_ldp rfl hget_head rfl rfl ?_ | refine st_gy rfl (st_ldp rfl hget_head rfl rfl ?_) | refine st_b2s rfl rfl ?_ | refine st_gy rfl (st_b2s rfl rfl ?_) | refine st_gn rfl ?_ | refine st_gu rfl ?_ | (refine st_nil ?_; (repeat (first | refine kp_cons rfl ?_ | refine kp_skip ?_)); refine kp_nil ?_) | refine awp_seq ?_ | refine aw_end (fun _ _ => rfl) ?_ | refine awp_block ?_ | refine aw_skipE (fun _ _ => rfl) ?_ | refine aw_exitE (fun _ _ => rfl) ?_ | refine awp_cond (t := true) rfl (fun _ => ?_) (fun e => by cases e) | refine awp_cond (t := false) rfl (fun e => by cases e) (fun _ => ?_)))
        (refine awp_ret ?_; exact ares rfl (HSub.refl _) ⟨(by rw [show Lib.compareBytes ab bb = 1 by have := mt h0.1 h2; omega]; rfl), rfl⟩)
  | false =>
    simp only [Bool.false_eq_true, if_false]
    (repeat (first | refine st_q rfl rfl rfl ?_ | refine st_gy rfl (st_q rfl rfl rfl ?_) | refine st_ldp rfl hget_head rfl rfl ?_ | refine st_gy rfl (st_ldp rfl hget_head rfl rfl ?_) | refine st_b2s rfl rfl ?_ | refine st_gy rfl (st_b2s rfl rfl ?_) | refine st_gn rfl ?_ | refine st_gu rfl ?_ | (refine st_nil ?_; (repeat (first | refine kp_cons rfl ?_ | refine kp_skip ?_)); refine kp_nil ?_) | refine awp_seq ?_ | refine aw_end (fun _ _ => rfl) ?_ | refine awp_block ?_ | refine aw_skipE (fun _ _ => rfl) ?_ | refine aw_exitE (fun _ _ => rfl) ?_ | refine awp_cond (t := true) rfl (fun _ => ?_) (fun e => by cases e) | refine awp_cond (t := false) rfl (fun e => by cases e) (fun _ => ?_)))
    by_cases h1 : ai < bi
    · (rw [show decide (ai < bi) = true from decide_eq_true (by omega)])
      (repeat (first | refine st_q rfl rfl rfl ?_ | refine st_gy rfl (st_q rfl rfl rfl ?_) | refine st_ldp rfl hget_head rfl rfl ?_ | refine st_gy rfl (st_ldp rfl hget_head rfl rfl ?_) | refine st_b2s rfl rfl ?_ | refine st_gy rfl (st_b2s rfl rfl ?_) | refine st_gn rfl ?_ | refine st_gu rfl ?_ | (refine st_nil ?_; (repeat (first | refine kp_cons rfl ?_ | refine kp_skip ?_)); refine kp_nil ?_) | refine awp_seq ?_ | refine aw_end (fun _ _ => rfl) ?_ | refine awp_block ?_ | refine aw_skipE (fun _ _ => rfl) ?_ | refine aw_exitE (fun _ _ => rfl) ?_ | refine awp_cond (t := true) rfl (fun _ => ?_) (fun e => by cases e) | refine awp_cond (t := false) rfl (fun e => by cases e) (fun _ => ?_)))
      (refine awp_ret ?_; exact ares rfl (HSub.refl _) ⟨(by simp [cmpI, h1, tupOf]), rfl⟩)
    (rw [show decide (ai < bi) = false from decide_eq_false (by omega)])
    (repeat (first | refine st_q rfl rfl rfl ?_ | refine st_gy rfl (st_q rfl rfl rfl ?_) | refine st_ldp rfl hget_head rfl rfl ?_ | refine st_gy rfl (st_ldp rfl hget_head rfl rfl ?_) | refine st_b2s rfl rfl ?_ | refine st_gy rfl (st_b2s rfl rfl ?_) | refine st_gn rfl ?_ | refine st_gu rfl ?_ | (refine st_nil ?_; (repeat (first | refine kp_cons rfl ?_ | refine kp_skip ?_)); refine kp_nil ?_) | refine awp_seq ?_ | refine aw_end (fun _ _ => rfl) ?_ | refine awp_block ?_ | refine aw_skipE (fun _ _ => rfl) ?_ | refine aw_exitE (fun _ _ => rfl) ?_ | refine awp_cond (t := true) rfl (fun _ => ?_) (fun e => by cases e) | refine awp_cond (t := false) rfl (fun e => by cases e) (fun _ => ?_)))
    by_cases h2 : ai = bi
    · (rw [show decide (ai = bi) = true from decide_eq_true (by omega)])
      (repeat (first | refine st_q rfl rfl rfl ?_ | refine st_gy rfl (st_q rfl rfl rfl ?_) | refine st_ldp rfl hget_head rfl rfl ?_ | refine st_gy rfl (st_ldp rfl hget_head rfl rfl ?_) | refine st_b2s rfl rfl ?_ | refine st_gy rfl (st_b2s rfl rfl ?_) | refine st_gn rfl ?_ | refine st_gu rfl ?_ | (refine st_nil ?_; (repeat (first | refine kp_cons rfl ?_ | refine kp_skip ?_)); refine kp_nil ?_) | refine awp_seq ?_ | refine aw_end (fun _ _ => rfl) ?_ | refine awp_block ?_ | refine aw_skipE (fun _ _ => rfl) ?_ | refine aw_exitE (fun _ _ => rfl) ?_ | refine awp_cond (t := true) rfl (fun _ => ?_) (fun e => by cases e) | refine awp_cond (t := false) rfl (fun e => by cases e) (fun _ => ?_)))
      by_cases h3 : a_n < b_n
      · (rw [show decide (a_n < b_n) = true from decide_eq_true (by omega)])
        (repeat (first | refine st_q rfl rfl rfl ?_ | refine st_gy rfl (st_q rfl rfl rfl ?_) | refine st_ldp rfl hget_head rfl rfl ?_ | refine st_gy rfl (st_ldp rfl hget_head rfl rfl ?_) | refine st_b2s rfl rfl ?_ | refine st_gy rfl (st_b2s rfl rfl ?_) | refine st_gn rfl ?_ | refine st_gu rfl ?_ | (refine st_nil ?_; (repeat (first | refine kp_cons rfl ?_ | refine kp_skip ?_)); refine kp_nil ?_) | refine awp_seq ?_ | refine aw_end (fun _ _ => rfl) ?_ | refine awp_block ?_ | refine aw_skipE (fun _ _ => rfl) ?_ | refine aw_exitE (fun _ _ => rfl) ?_ | refine awp_cond (t := true) rfl (fun _ => ?_) (fun e => by cases e) | refine awp_cond (t := false) rfl (fun e => by cases e) (fun _ => ?_)))
        (refine awp_ret ?_; exact ares rfl (HSub.refl _) ⟨(by simp [cmpI, h2, h3, tupOf]), rfl⟩)
      (rw [show decide (a_n < b_n) = false from decide_eq_false (by omega)])
      (repeat (first | refine st_q rfl rfl rfl ?_ | refine st_gy rfl (st_q rfl rfl rfl ?_) | refine st_ldp rfl hget_head rfl rfl ?_ | refine st_gy rfl (st_ldp rfl hget_head rfl rfl ?_) | refine st_b2s rfl rfl ?_ | refine st_gy rfl (st_b2s rfl rfl ?_) | refine st_gn rfl ?_ | refine st_gu rfl ?_ | (refine st_nil ?_; (repeat (first | refine kp_cons rfl ?_ | refine kp_skip ?_)); refine kp_nil ?_) | refine awp_seq ?_ | refine aw_end (fun _ _ => rfl) ?_ | refine awp_block ?_ | refine aw_skipE (fun _ _ => rfl) ?_ | refine aw_exitE (fun _ _ => rfl) ?_ | refine awp_cond (t := true) rfl (fun _ => ?_) (fun e => by cases e) | refine awp_cond (t := false) rfl (fun e => by cases e) (fun _ => ?_)))
      (rw [show decide (bi < ai) = false from decide_eq_false (by omega)])
      (repeat (first | refine st_q rfl rfl rfl ?_ | refine st_gy rfl (st_q rfl rfl rfl ?_) | refine st_ldp rfl hget_head rfl rfl ?_ | refine st_gy rfl (st_ldp rfl hget_head rfl rfl ?_) | refine st_b2s rfl rfl ?_ | refine st_gy rfl (st_b2s rfl rfl ?_) | refine st_gn rfl ?_ | refine st_gu rfl ?_ | (refine st_nil ?_; (repeat (first | refine kp_cons rfl ?_ | refine kp_skip ?_)); refine kp_nil ?_) | refine awp_seq ?_ | refine aw_end (fun _ _ => rfl) ?_ | refine awp_block ?_ | refine aw_skipE (fun _ _ => rfl) ?_ | refine aw_exitE (fun _ _ => rfl) ?_ | refine awp_cond (t := true) rfl (fun _ => ?_) (fun e => by cases e) | refine awp_cond (t := false) rfl (fun e => by cases e) (fun _ => ?_)))
      by_cases h4 : b_n < a_n
      · (rw [show decide (b_n < a_n) = true from decide_eq_true (by omega)])
        (repeat (first | refine st_q rfl rfl rfl ?_ | refine st_gy rfl (st_q rfl rfl rfl ?_) | refine st_ldp rfl hget_head rfl rfl ?_ | refine st_gy rfl (st_ldp rfl hget_head rfl rfl ?_) | refine st_b2s rfl rfl ?_ | refine st_gy rfl (st_b2s rfl rfl ?_) | refine st_gn rfl ?_ | refine st_gu rfl ?_ | (refine st_nil ?_; (repeat (first | refine kp_cons rfl ?_ | refine kp_skip ?_)); refine kp_nil ?_) | refine awp_seq ?_ | refine aw_end (fun _ _ => rfl) ?_ | refine awp_block ?_ | refine aw_skipE (fun _ _ => rfl) ?_ | refine aw_exitE (fun _ _ => rfl) ?_ | refine awp_cond (t := true) rfl (fun _ => ?_) (fun e => by cases e) | refine awp_cond (t := false) rfl (fun e => by cases e) (fun _ => ?_)))
        (refine awp_ret ?_; exact ares rfl (HSub.refl _) ⟨(by simp [cmpI, h2, h3, h4, tupOf]), rfl⟩)
      · (rw [show decide (b_n < a_n) = false from decide_eq_false (by omega)])
        (repeat (first | refine st_q rfl rfl rfl ?_ | refine st_gy rfl (st_q rfl rfl rfl ?_) | refine st_ldp rfl hget_head rfl rfl ?_ | refine st_gy rfl (st_ldp rfl hget_head rfl rfl ?_) | refine st_b2s rfl rfl ?_ | refine st_gy rfl (st_b2s rfl rfl ?_) | refine st_gn rfl ?_ | refine st_gu rfl ?_ | (refine st_nil ?_; (repeat (first | refine kp_cons rfl ?_ | refine kp_skip ?_)); refine kp_nil ?_) | refine awp_seq ?_ | refine aw_end (fun _ _ => rfl) ?_ | refine awp_block ?_ | refine aw_skipE (fun _ _ => rfl) ?_ | refine aw_exitE (fun _ _ => rfl) ?_ | refine awp_cond (t := true) rfl (fun _ => ?_) (fun e => by cases e) | refine awp_cond (t := false) rfl (fun e => by cases e) (fun _ => ?_)))
        (refine awp_ret ?_; exact ares rfl (HSub.refl _) ⟨(by simp [cmpI, h2, h3, h4, tupOf]), rfl⟩)
    · (rw [show decide (ai = bi) = false from decide_eq_false (by omega)])
      (repeat (first | refine st_q rfl rfl rfl ?_ | refine st_gy rfl (st_q rfl rfl rfl ?_) | refine st_ldp rfl hget_head rfl rfl ?_ | refine st_gy rfl (st_ldp rfl hget_head rfl rfl ?_) | refine st_b2s rfl rfl ?_ | refine st_gy rfl (st_b2s rfl rfl ?_) | refine st_gn rfl ?_ | refine st_gu rfl ?_ | (refine st_nil ?_; (repeat (first | refine kp_cons rfl ?_ | refine kp_skip ?_)); refine kp_nil ?_) | refine awp_seq ?_ | refine aw_end (fun _ _ => rfl) ?_ | refine awp_block ?_ | refine aw_skipE (fun _ _ => rfl) ?_ | refine aw_exitE (fun _ _ => rfl) ?_ | refine awp_cond (t := true) rfl (fun _ => ?_) (fun e => by cases e) | refine awp_cond (t := false) rfl (fun e => by cases e) (fun _ => ?_)))
      (rw [show decide (bi < ai) = true from decide_eq_true (by omega)])
      (repeat (first | refine st_q rfl rfl rfl ?_ | refine st_gy rfl (st_q rfl rfl rfl ?_) | refine st_ldp rfl hget_head rfl rfl ?_ | refine st_gy rfl (st_ldp rfl hget_head rfl rfl ?_) | refine st_b2s rfl rfl ?_ | refine st_gy rfl (st_b2s rfl rfl ?_) | refine st_gn rfl ?_ | refine st_gu rfl ?_ | (refine st_nil ?_; (repeat (first | refine kp_cons rfl ?_ | refine kp_skip ?_)); refine kp_nil ?_) | refine awp_seq ?_ | refine aw_end (fun _ _ => rfl) ?_ | refine awp_block ?_ | refine aw_skipE (fun _ _ => rfl) ?_ | refine aw_exitE (fun _ _ => rfl) ?_ | refine awp_cond (t := true) rfl (fun _ => ?_) (fun e => by cases e) | refine awp_cond (t := false) rfl (fun e => by cases e) (fun _ => ?_)))
      (refine awp_ret ?_; exact ares rfl (HSub.refl _) ⟨(by simp [cmpI, h1, show bi < ai by omega, tupOf]), rfl⟩)
end Go.Abs

/- Contracts: the reference's statistics. -/
namespace Go.Abs
open Go Go.Proofs
set_option linter.unusedVariables false
set_option linter.unusedSimpArgs false
set_option maxHeartbeats 4000000
attribute [local irreducible] AWp aops KP

theorem c_refAdds (k : Int) (σ : AHeap) : ACalls Try.prog f_ingotref16_Adds [.int .i64 k] σ fun r σ' => r = .bool (addsF k) ∧ σ' = σ := by
  refine acalls_enter rfl ingotref16_Adds_ok (Nat.le_of_ble_eq_true rfl) ?_
  by_cases h0 : k = 0
  · subst h0; (repeat (first | refine st_q rfl rfl rfl ?_ | refine st_gy rfl (st_q rfl rfl rfl ?_) | refine st_gn rfl ?_ | refine st_gu rfl ?_ | (refine st_nil ?_; (repeat (first | refine kp_cons rfl ?_ | refine kp_skip ?_)); refine kp_nil ?_) | refine awp_seq ?_ | refine aw_end (fun _ _ => rfl) ?_ | refine awp_block ?_ | refine aw_skipE (fun _ _ => rfl) ?_ | refine aw_exitE (fun _ _ => rfl) ?_ | refine awp_cond (t := true) rfl (fun _ => ?_) (fun e => by cases e) | refine awp_cond (t := false) rfl (fun e => by cases e) (fun _ => ?_))); refine awp_ret ?_; exact ares rfl (HSub.refl _) ⟨rfl, rfl⟩
  by_cases h1 : k = 1
  · subst h1; (repeat (first | refine st_q rfl rfl rfl ?_ | refine st_gy rfl (st_q rfl rfl rfl ?_) | refine st_gn rfl ?_ | refine st_gu rfl ?_ | (refine st_nil ?_; (repeat (first | refine kp_cons rfl ?_ | refine kp_skip ?_)); refine kp_nil ?_) | refine awp_seq ?_ | refine aw_end (fun _ _ => rfl) ?_ | refine awp_block ?_ | refine aw_skipE (fun _ _ => rfl) ?_ | refine aw_exitE (fun _ _ => rfl) ?_ | refine awp_cond (t := true) rfl (fun _ => ?_) (fun e => by cases e) | refine awp_cond (t := false) rfl (fun e => by cases e) (fun _ => ?_))); refine awp_ret ?_; exact ares rfl (HSub.refl _) ⟨rfl, rfl⟩
  by_cases h2 : k = 2
  · subst h2; (repeat (first | refine st_q rfl rfl rfl ?_ | refine st_gy rfl (st_q rfl rfl rfl ?_) | refine st_gn rfl ?_ | refine st_gu rfl ?_ | (refine st_nil ?_; (repeat (first | refine kp_cons rfl ?_ | refine kp_skip ?_)); refine kp_nil ?_) | refine awp_seq ?_ | refine aw_end (fun _ _ => rfl) ?_ | refine awp_block ?_ | refine aw_skipE (fun _ _ => rfl) ?_ | refine aw_exitE (fun _ _ => rfl) ?_ | refine awp_cond (t := true) rfl (fun _ => ?_) (fun e => by cases e) | refine awp_cond (t := false) rfl (fun e => by cases e) (fun _ => ?_))); refine awp_ret ?_; exact ares rfl (HSub.refl _) ⟨rfl, rfl⟩
  by_cases h3 : k = 3
  · subst h3; (repeat (first | refine st_q rfl rfl rfl ?_ | refine st_gy rfl (st_q rfl rfl rfl ?_) | refine st_gn rfl ?_ | refine st_gu rfl ?_ | (refine st_nil ?_; (repeat (first | refine kp_cons rfl ?_ | refine kp_skip ?_)); refine kp_nil ?_) | refine awp_seq ?_ | refine aw_end (fun _ _ => rfl) ?_ | refine awp_block ?_ | refine aw_skipE (fun _ _ => rfl) ?_ | refine aw_exitE (fun _ _ => rfl) ?_ | refine awp_cond (t := true) rfl (fun _ => ?_) (fun e => by cases e) | refine awp_cond (t := false) rfl (fun e => by cases e) (fun _ => ?_))); refine awp_ret ?_; exact ares rfl (HSub.refl _) ⟨rfl, rfl⟩
  by_cases h4 : k = 4
  · subst h4; (repeat (first | refine st_q rfl rfl rfl ?_ | refine st_gy rfl (st_q rfl rfl rfl ?_) | refine st_gn rfl ?_ | refine st_gu rfl ?_ | (refine st_nil ?_; (repeat (first | refine kp_cons rfl ?_ | refine kp_skip ?_)); refine kp_nil ?_) | refine awp_seq ?_ | refine aw_end (fun _ _ => rfl) ?_ | refine awp_block ?_ | refine aw_skipE (fun _ _ => rfl) ?_ | refine aw_exitE (fun _ _ => rfl) ?_ | refine awp_cond (t := true) rfl (fun _ => ?_) (fun e => by cases e) | refine awp_cond (t := false) rfl (fun e => by cases e) (fun _ => ?_))); refine awp_ret ?_; exact ares rfl (HSub.refl _) ⟨rfl, rfl⟩
  by_cases h7 : k = 7
  · subst h7; (repeat (first | refine st_q rfl rfl rfl ?_ | refine st_gy rfl (st_q rfl rfl rfl ?_) | refine st_gn rfl ?_ | refine st_gu rfl ?_ | (refine st_nil ?_; (repeat (first | refine kp_cons rfl ?_ | refine kp_skip ?_)); refine kp_nil ?_) | refine awp_seq ?_ | refine aw_end (fun _ _ => rfl) ?_ | refine awp_block ?_ | refine aw_skipE (fun _ _ => rfl) ?_ | refine aw_exitE (fun _ _ => rfl) ?_ | refine awp_cond (t := true) rfl (fun _ => ?_) (fun e => by cases e) | refine awp_cond (t := false) rfl (fun e => by cases e) (fun _ => ?_))); refine awp_ret ?_; exact ares rfl (HSub.refl _) ⟨rfl, rfl⟩
  by_cases h16 : k = 16
  · subst h16; (repeat (first | refine st_q rfl rfl rfl ?_ | refine st_gy rfl (st_q rfl rfl rfl ?_) | refine st_gn rfl ?_ | refine st_gu rfl ?_ | (refine st_nil ?_; (repeat (first | refine kp_cons rfl ?_ | refine kp_skip ?_)); refine kp_nil ?_) | refine awp_seq ?_ | refine aw_end (fun _ _ => rfl) ?_ | refine awp_block ?_ | refine aw_skipE (fun _ _ => rfl) ?_ | refine aw_exitE (fun _ _ => rfl) ?_ | refine awp_cond (t := true) rfl (fun _ => ?_) (fun e => by cases e) | refine awp_cond (t := false) rfl (fun e => by cases e) (fun _ => ?_))); refine awp_ret ?_; exact ares rfl (HSub.refl _) ⟨rfl, rfl⟩
  by_cases h17 : k = 17
  · subst h17; (repeat (first | refine st_q rfl rfl rfl ?_ | refine st_gy rfl (st_q rfl rfl rfl ?_) | refine st_gn rfl ?_ | refine st_gu rfl ?_ | (refine st_nil ?_; (repeat (first | refine kp_cons rfl ?_ | refine kp_skip ?_)); refine kp_nil ?_) | refine awp_seq ?_ | refine aw_end (fun _ _ => rfl) ?_ | refine awp_block ?_ | refine aw_skipE (fun _ _ => rfl) ?_ | refine aw_exitE (fun _ _ => rfl) ?_ | refine awp_cond (t := true) rfl (fun _ => ?_) (fun e => by cases e) | refine awp_cond (t := false) rfl (fun e => by cases e) (fun _ => ?_))); refine awp_ret ?_; exact ares rfl (HSub.refl _) ⟨rfl, rfl⟩
  by_cases h8 : k = 8
  · subst h8; (repeat (first | refine st_q rfl rfl rfl ?_ | refine st_gy rfl (st_q rfl rfl rfl ?_) | refine st_gn rfl ?_ | refine st_gu rfl ?_ | (refine st_nil ?_; (repeat (first | refine kp_cons rfl ?_ | refine kp_skip ?_)); refine kp_nil ?_) | refine awp_seq ?_ | refine aw_end (fun _ _ => rfl) ?_ | refine awp_block ?_ | refine aw_skipE (fun _ _ => rfl) ?_ | refine aw_exitE (fun _ _ => rfl) ?_ | refine awp_cond (t := true) rfl (fun _ => ?_) (fun e => by cases e) | refine awp_cond (t := false) rfl (fun e => by cases e) (fun _ => ?_))); refine awp_ret ?_; exact ares rfl (HSub.refl _) ⟨rfl, rfl⟩
  by_cases h14 : k = 14
  · subst h14; (repeat (first | refine st_q rfl rfl rfl ?_ | refine st_gy rfl (st_q rfl rfl rfl ?_) | refine st_gn rfl ?_ | refine st_gu rfl ?_ | (refine st_nil ?_; (repeat (first | refine kp_cons rfl ?_ | refine kp_skip ?_)); refine kp_nil ?_) | refine awp_seq ?_ | refine aw_end (fun _ _ => rfl) ?_ | refine awp_block ?_ | refine aw_skipE (fun _ _ => rfl) ?_ | refine aw_exitE (fun _ _ => rfl) ?_ | refine awp_cond (t := true) rfl (fun _ => ?_) (fun e => by cases e) | refine awp_cond (t := false) rfl (fun e => by cases e) (fun _ => ?_))); refine awp_ret ?_; exact ares rfl (HSub.refl _) ⟨rfl, rfl⟩
  (repeat (first | refine st_q rfl rfl rfl ?_ | refine st_gy rfl (st_q rfl rfl rfl ?_) | refine st_gn rfl ?_ | refine st_gu rfl ?_ | (refine st_nil ?_; (repeat (first | refine kp_cons rfl ?_ | refine kp_skip ?_)); refine kp_nil ?_) | refine awp_seq ?_ | refine aw_end (fun _ _ => rfl) ?_ | refine awp_block ?_ | refine aw_skipE (fun _ _ => rfl) ?_ | refine aw_exitE (fun _ _ => rfl) ?_ | refine awp_cond (t := true) rfl (fun _ => ?_) (fun e => by cases e) | refine awp_cond (t := false) rfl (fun e => by cases e) (fun _ => ?_)))
  (rw [show decide (k = 0) = false from decide_eq_false (by omega)])
  (repeat (first | refine st_q rfl rfl rfl ?_ | refine st_gy rfl (st_q rfl rfl rfl ?_) | refine st_gn rfl ?_ | refine st_gu rfl ?_ | (refine st_nil ?_; (repeat (first | refine kp_cons rfl ?_ | refine kp_skip ?_)); refine kp_nil ?_) | refine awp_seq ?_ | refine aw_end (fun _ _ => rfl) ?_ | refine awp_block ?_ | refine aw_skipE (fun _ _ => rfl) ?_ | refine aw_exitE (fun _ _ => rfl) ?_ | refine awp_cond (t := true) rfl (fun _ => ?_) (fun e => by cases e) | refine awp_cond (t := false) rfl (fun e => by cases e) (fun _ => ?_)))
  (rw [show decide (k = 1) = false from decide_eq_false (by omega)])
  (repeat (first | refine st_q rfl rfl rfl ?_ | refine st_gy rfl (st_q rfl rfl rfl ?_) | refine st_gn rfl ?_ | refine st_gu rfl ?_ | (refine st_nil ?_; (repeat (first | refine kp_cons rfl ?_ | refine kp_skip ?_)); refine kp_nil ?_) | refine awp_seq ?_ | refine aw_end (fun _ _ => rfl) ?_ | refine awp_block ?_ | refine aw_skipE (fun _ _ => rfl) ?_ | refine aw_exitE (fun _ _ => rfl) ?_ | refine awp_cond (t := true) rfl (fun _ => ?_) (fun e => by cases e) | refine awp_cond (t := false) rfl (fun e => by cases e) (fun _ => ?_)))
  (rw [show decide (k = 2) = false from decide_eq_false (by omega)])
  (repeat (first | refine st_q rfl rfl rfl ?_ | refine st_gy rfl (st_q rfl rfl rfl ?_) | refine st_gn rfl ?_ | refine st_gu rfl ?_ | (refine st_nil ?_; (repeat (first | refine kp_cons rfl ?_ | refine kp_skip ?_)); refine kp_nil ?_) | refine awp_seq ?_ | refine aw_end (fun _ _ => rfl) ?_ | refine awp_block ?_ | refine aw_skipE (fun _ _ => rfl) ?_ | refine aw_exitE (fun _ _ => rfl) ?_ | refine awp_cond (t := true) rfl (fun _ => ?_) (fun e => by cases e) | refine awp_cond (t := false) rfl (fun e => by cases e) (fun _ => ?_)))
  (rw [show decide (k = 3) = false from decide_eq_false (by omega)])
  (repeat (first | refine st_q rfl rfl rfl ?_ | refine st_gy rfl (st_q rfl rfl rfl ?_) | refine st_gn rfl ?_ | refine st_gu rfl ?_ | (refine st_nil ?_; (repeat (first | refine kp_cons rfl ?_ | refine kp_skip ?_)); refine kp_nil ?_) | refine awp_seq ?_ | refine aw_end (fun _ _ => rfl) ?_ | refine awp_block ?_ | refine aw_skipE (fun _ _ => rfl) ?_ | refine aw_exitE (fun _ _ => rfl) ?_ | refine awp_cond (t := true) rfl (fun _ => ?_) (fun e => by cases e) | refine awp_cond (t := false) rfl (fun e => by cases e) (fun _ => ?_)))
  (rw [show decide (k = 4) = false from decide_eq_false (by omega)])
  (repeat (first | refine st_q rfl rfl rfl ?_ | refine st_gy rfl (st_q rfl rfl rfl ?_) | refine st_gn rfl ?_ | refine st_gu rfl ?_ | (refine st_nil ?_; (repeat (first | refine kp_cons rfl ?_ | refine kp_skip ?_)); refine kp_nil ?_) | refine awp_seq ?_ | refine aw_end (fun _ _ => rfl) ?_ | refine awp_block ?_ | refine aw_skipE (fun _ _ => rfl) ?_ | refine aw_exitE (fun _ _ => rfl) ?_ | refine awp_cond (t := true) rfl (fun _ => ?_) (fun e => by cases e) | refine awp_cond (t := false) rfl (fun e => by cases e) (fun _ => ?_)))
  (rw [show decide (k = 7) = false from decide_eq_false (by omega)])
  (repeat (first | refine st_q rfl rfl rfl ?_ | refine st_gy rfl (st_q rfl rfl rfl ?_) | refine st_gn rfl ?_ | refine st_gu rfl ?_ | (refine st_nil ?_; (repeat (first | refine kp_cons rfl ?_ | refine kp_skip ?_)); refine kp_nil ?_) | refine awp_seq ?_ | refine aw_end (fun _ _ => rfl) ?_ | refine awp_block ?_ | refine aw_skipE (fun _ _ => rfl) ?_ | refine aw_exitE (fun _ _ => rfl) ?_ | refine awp_cond (t := true) rfl (fun _ => ?_) (fun e => by cases e) | refine awp_cond (t := false) rfl (fun e => by cases e) (fun _ => ?_)))
  (rw [show decide (k = 16) = false from decide_eq_false (by omega)])
  (repeat (first | refine st_q rfl rfl rfl ?_ | refine st_gy rfl (st_q rfl rfl rfl ?_) | refine st_gn rfl ?_ | refine st_gu rfl ?_ | (refine st_nil ?_; (repeat (first | refine kp_cons rfl ?_ | refine kp_skip ?_)); refine kp_nil ?_) | refine awp_seq ?_ | refine aw_end (fun _ _ => rfl) ?_ | refine awp_block ?_ | refine aw_skipE (fun _ _ => rfl) ?_ | refine aw_exitE (fun _ _ => rfl) ?_ | refine awp_cond (t := true) rfl (fun _ => ?_) (fun e => by cases e) | refine awp_cond (t := false) rfl (fun e => by cases e) (fun _ => ?_)))
  (rw [show decide (k = 17) = false from decide_eq_false (by omega)])
  (repeat (first | refine st_q rfl rfl rfl ?_ | refine st_gy rfl (st_q rfl rfl rfl ?_) | refine st_gn rfl ?_ | refine st_gu rfl ?_ | (refine st_nil ?_; (repeat (first | refine kp_cons rfl ?_ | refine kp_skip ?_)); refine kp_nil ?_) | refine awp_seq ?_ | refine aw_end (fun _ _ => rfl) ?_ | refine awp_block ?_ | refine aw_skipE (fun _ _ => rfl) ?_ | refine aw_exitE (fun _ _ => rfl) ?_ | refine awp_cond (t := true) rfl (fun _ => ?_) (fun e => by cases e) | refine awp_cond (t := false) rfl (fun e => by cases e) (fun _ => ?_)))
  (rw [show decide (k = 8) = false from decide_eq_false (by omega)])
  (repeat (first | refine st_q rfl rfl rfl ?_ | refine st_gy rfl (st_q rfl rfl rfl ?_) | refine st_gn rfl ?_ | refine st_gu rfl ?_ | (refine st_nil ?_; (repeat (first | refine kp_cons rfl ?_ | refine kp_skip ?_)); refine kp_nil ?_) | refine awp_seq ?_ | refine aw_end (fun _ _ => rfl) ?_ | refine awp_block ?_ | refine aw_skipE (fun _ _ => rfl) ?_ | refine aw_exitE (fun _ _ => rfl) ?_ | refine awp_cond (t := true) rfl (fun _ => ?_) (fun e => by cases e) | refine awp_cond (t := false) rfl (fun e => by cases e) (fun _ => ?_)))
  (rw [show decide (k = 14) = false from decide_eq_false (by omega)])
  (repeat (first | refine st_q rfl rfl rfl ?_ | refine st_gy rfl (st_q rfl rfl rfl ?_) | refine st_gn rfl ?_ | refine st_gu rfl ?_ | (refine st_nil ?_; (repeat (first | refine kp_cons rfl ?_ | refine kp_skip ?_)); refine kp_nil ?_) | refine awp_seq ?_ | refine aw_end (fun _ _ => rfl) ?_ | refine awp_block ?_ | refine aw_skipE (fun _ _ => rfl) ?_ | refine aw_exitE (fun _ _ => rfl) ?_ | refine awp_cond (t := true) rfl (fun _ => ?_) (fun e => by cases e) | refine awp_cond (t := false) rfl (fun e => by cases e) (fun _ => ?_)))
  refine awp_ret ?_
  exact ares rfl (HSub.refl _) ⟨by simp [addsF, tupOf, h0, h1, h2, h3, h4, h7, h16, h17, h8, h14], rfl⟩

theorem c_refRanges (k : Int) (σ : AHeap) : ACalls Try.prog f_ingotref16_Ranges [.int .i64 k] σ fun r σ' => r = .bool (rangesF k) ∧ σ' = σ := by
  refine acalls_enter rfl ingotref16_Ranges_ok (Nat.le_of_ble_eq_true rfl) ?_
  (repeat (first | refine st_q rfl rfl rfl ?_ | refine st_gy rfl (st_q rfl rfl rfl ?_) | refine st_gn rfl ?_ | refine st_gu rfl ?_ | (refine st_nil ?_; (repeat (first | refine kp_cons rfl ?_ | refine kp_skip ?_)); refine kp_nil ?_) | refine awp_seq ?_ | refine aw_end (fun _ _ => rfl) ?_ | refine awp_block ?_ | refine aw_skipE (fun _ _ => rfl) ?_ | refine aw_exitE (fun _ _ => rfl) ?_ | refine awp_cond (t := true) rfl (fun _ => ?_) (fun e => by cases e) | refine awp_cond (t := false) rfl (fun e => by cases e) (fun _ => ?_)))
  refine st_callv rfl (c_refLeaf k _) ?_
  cases hl : leafF k with
  | false =>
    (repeat (first | refine st_q rfl rfl rfl ?_ | refine st_gy rfl (st_q rfl rfl rfl ?_) | refine st_gn rfl ?_ | refine st_gu rfl ?_ | (refine st_nil ?_; (repeat (first | refine kp_cons rfl ?_ | refine kp_skip ?_)); refine kp_nil ?_) | refine awp_seq ?_ | refine aw_end (fun _ _ => rfl) ?_ | refine awp_block ?_ | refine aw_skipE (fun _ _ => rfl) ?_ | refine aw_exitE (fun _ _ => rfl) ?_ | refine awp_cond (t := true) rfl (fun _ => ?_) (fun e => by cases e) | refine awp_cond (t := false) rfl (fun e => by cases e) (fun _ => ?_)))
    refine awp_ret ?_
    exact ares rfl (HSub.refl _) ⟨by simp [rangesF, tupOf, hl], rfl⟩
  | true =>
    (repeat (first | refine st_q rfl rfl rfl ?_ | refine st_gy rfl (st_q rfl rfl rfl ?_) | refine st_gn rfl ?_ | refine st_gu rfl ?_ | (refine st_nil ?_; (repeat (first | refine kp_cons rfl ?_ | refine kp_skip ?_)); refine kp_nil ?_) | refine awp_seq ?_ | refine aw_end (fun _ _ => rfl) ?_ | refine awp_block ?_ | refine aw_skipE (fun _ _ => rfl) ?_ | refine aw_exitE (fun _ _ => rfl) ?_ | refine awp_cond (t := true) rfl (fun _ => ?_) (fun e => by cases e) | refine awp_cond (t := false) rfl (fun e => by cases e) (fun _ => ?_)))
    by_cases h0 : k = 0
    · (rw [show decide (k ≠ 0) = false from decide_eq_false (by omega)])
      (repeat (first | refine st_q rfl rfl rfl ?_ | refine st_gy rfl (st_q rfl rfl rfl ?_) | refine st_gn rfl ?_ | refine st_gu rfl ?_ | (refine st_nil ?_; (repeat (first | refine kp_cons rfl ?_ | refine kp_skip ?_)); refine kp_nil ?_) | refine awp_seq ?_ | refine aw_end (fun _ _ => rfl) ?_ | refine awp_block ?_ | refine aw_skipE (fun _ _ => rfl) ?_ | refine aw_exitE (fun _ _ => rfl) ?_ | refine awp_cond (t := true) rfl (fun _ => ?_) (fun e => by cases e) | refine awp_cond (t := false) rfl (fun e => by cases e) (fun _ => ?_)))
      refine awp_ret ?_
      exact ares rfl (HSub.refl _) ⟨by simp [rangesF, tupOf, h0], rfl⟩
    · (rw [show decide (k ≠ 0) = true from decide_eq_true (by omega)])
      (repeat (first | refine st_q rfl rfl rfl ?_ | refine st_gy rfl (st_q rfl rfl rfl ?_) | refine st_gn rfl ?_ | refine st_gu rfl ?_ | (refine st_nil ?_; (repeat (first | refine kp_cons rfl ?_ | refine kp_skip ?_)); refine kp_nil ?_) | refine awp_seq ?_ | refine aw_end (fun _ _ => rfl) ?_ | refine awp_block ?_ | refine aw_skipE (fun _ _ => rfl) ?_ | refine aw_exitE (fun _ _ => rfl) ?_ | refine awp_cond (t := true) rfl (fun _ => ?_) (fun e => by cases e) | refine awp_cond (t := false) rfl (fun e => by cases e) (fun _ => ?_)))
      refine awp_ret ?_
      exact ares rfl (HSub.refl _) ⟨by simp [rangesF, tupOf, hl, h0], rfl⟩

def sameSt (a b : Stt) : Bool := decide (a.count = b.count) && ((a.null == b.null) && ((a.has == b.has) && (sameVl a.min b.min && (sameVl a.max b.max && ((a.sums == b.sums) && decide (a.sum = b.sum))))))
theorem sameSt_refl (a : Stt) : sameSt a a = true := by simp [sameSt, sameVl_refl]

theorem c_refSame16 (x y : Stt) (hx1 : x.min.Fit) (hx2 : x.max.Fit) (σ : AHeap) : ACalls Try.prog f_ingotref16_Same [encS x, encS y] σ fun r σ' => r = .bool (sameSt x y) ∧ σ' = σ := by
  have hmin := c_refSame x.min hx1 y.min
  have hmax := c_refSame x.max hx2 y.max
  simp only [encV_eq] at hmin hmax
  refine acalls_enter rfl ingotref16_Same_ok (Nat.le_of_ble_eq_true rfl) ?_
  refine aw_region ?_
  refine st_box rfl (AVal.fit_iff.1 rfl) fun b2 hb2 => ?_
  refine st_box rfl (AVal.fit_iff.1 rfl) fun b3 hb3 => ?_
  (repeat (refine st_q rfl rfl rfl ?_))
  (refine st_nil ?_; (repeat (first | refine kp_cons rfl ?_ | refine kp_skip ?_)); refine kp_nil ?_)
  refine awp_freezeP (d := 3) (cs := cellsS y) rfl ?_
  refine awp_freezeP (d := 2) (cs := cellsS x) rfl ?_
  refine aw_region ?_
  (repeat (first | refine st_q rfl rfl rfl ?_ | refine st_gy rfl (st_q rfl rfl rfl ?_) | refine st_gn rfl ?_ | refine st_gu rfl ?_))
  unfold sameSt
  generalize decide (x.count = y.count) = q
  cases q with
  | false =>
    (repeat (first | refine st_q rfl rfl rfl ?_ | refine st_gy rfl (st_q rfl rfl rfl ?_) | refine st_gn rfl ?_ | refine st_gu rfl ?_))
    (refine st_nil ?_; (repeat (first | refine kp_cons rfl ?_ | refine kp_skip ?_)); refine kp_nil ?_)
    (refine awp_ret ?_; exact ares rfl (HSub.refl _) ⟨rfl, rfl⟩)
  | true =>
  (repeat (first | refine st_q rfl rfl rfl ?_ | refine st_gy rfl (st_q rfl rfl rfl ?_) | refine st_gn rfl ?_ | refine st_gu rfl ?_))
  generalize (x.null == y.null) = q
  cases q with
  | false =>
    (repeat (first | refine st_q rfl rfl rfl ?_ | refine st_gy rfl (st_q rfl rfl rfl ?_) | refine st_gn rfl ?_ | refine st_gu rfl ?_))
    (refine st_nil ?_; (repeat (first | refine kp_cons rfl ?_ | refine kp_skip ?_)); refine kp_nil ?_)
    (refine awp_ret ?_; exact ares rfl (HSub.refl _) ⟨rfl, rfl⟩)
  | true =>
  (repeat (first | refine st_q rfl rfl rfl ?_ | refine st_gy rfl (st_q rfl rfl rfl ?_) | refine st_gn rfl ?_ | refine st_gu rfl ?_))
  generalize (x.has == y.has) = q
  cases q with
  | false =>
    (repeat (first | refine st_q rfl rfl rfl ?_ | refine st_gy rfl (st_q rfl rfl rfl ?_) | refine st_gn rfl ?_ | refine st_gu rfl ?_))
    (refine st_nil ?_; (repeat (first | refine kp_cons rfl ?_ | refine kp_skip ?_)); refine kp_nil ?_)
    (refine awp_ret ?_; exact ares rfl (HSub.refl _) ⟨rfl, rfl⟩)
  | true =>
  (repeat (first | refine st_q rfl rfl rfl ?_ | refine st_gy rfl (st_q rfl rfl rfl ?_) | refine st_gn rfl ?_ | refine st_gu rfl ?_))
  refine st_gy rfl (st_callv rfl (hmin _) ?_)
  generalize sameVl x.min y.min = q
  cases q with
  | false =>
    (repeat (first | refine st_q rfl rfl rfl ?_ | refine st_gy rfl (st_q rfl rfl rfl ?_) | refine st_gn rfl ?_ | refine st_gu rfl ?_))
    (refine st_nil ?_; (repeat (first | refine kp_cons rfl ?_ | refine kp_skip ?_)); refine kp_nil ?_)
    (refine awp_ret ?_; exact ares rfl (HSub.refl _) ⟨rfl, rfl⟩)
  | true =>
  (repeat (first | refine st_q rfl rfl rfl ?_ | refine st_gy rfl (st_q rfl rfl rfl ?_) | refine st_gn rfl ?_ | refine st_gu rfl ?_))
  refine st_gy rfl (st_callv rfl (hmax _) ?_)
  generalize sameVl x.max y.max = q
  cases q with
  | false =>
    (repeat (first | refine st_q rfl rfl rfl ?_ | refine st_gy rfl (st_q rfl rfl rfl ?_) | refine st_gn rfl ?_ | refine st_gu rfl ?_))
    (refine st_nil ?_; (repeat (first | refine kp_cons rfl ?_ | refine kp_skip ?_)); refine kp_nil ?_)
    (refine awp_ret ?_; exact ares rfl (HSub.refl _) ⟨rfl, rfl⟩)
  | true =>
  (repeat (first | refine st_q rfl rfl rfl ?_ | refine st_gy rfl (st_q rfl rfl rfl ?_) | refine st_gn rfl ?_ | refine st_gu rfl ?_))
  generalize (x.sums == y.sums) = q
  cases q with
  | false =>
    (repeat (first | refine st_q rfl rfl rfl ?_ | refine st_gy rfl (st_q rfl rfl rfl ?_) | refine st_gn rfl ?_ | refine st_gu rfl ?_))
    (refine st_nil ?_; (repeat (first | refine kp_cons rfl ?_ | refine kp_skip ?_)); refine kp_nil ?_)
    (refine awp_ret ?_; exact ares rfl (HSub.refl _) ⟨rfl, rfl⟩)
  | true =>
  (repeat (first | refine st_q rfl rfl rfl ?_ | refine st_gy rfl (st_q rfl rfl rfl ?_) | refine st_gn rfl ?_ | refine st_gu rfl ?_))
  (refine st_nil ?_; (repeat (first | refine kp_cons rfl ?_ | refine kp_skip ?_)); refine kp_nil ?_)
  (refine awp_ret ?_; exact ares rfl (HSub.refl _) ⟨(by simp [tupOf]), rfl⟩)

/-- Two statistics as one. -/
theorem c_refMerge (t : List AVal) (k : Int) (ht : t.length = 6) (hk : t[0]? = some (.int .i64 k)) (ht1 : ∀ c ∈ t, c.one = true) (x y : Stt) (hx : -9223372036854775808 ≤ x.sum ∧ x.sum ≤ 9223372036854775807) (hy : -9223372036854775808 ≤ y.sum ∧ y.sum ≤ 9223372036854775807) (σ : AHeap) :
    ACalls Try.prog f_ingotref16_Merge [.agg t, encS x, encS y] σ fun r σ' => r = encS (refMerge k x y) ∧ σ' = σ := by
  match t, ht with
  | [t0, t1, t2, t3, t4, t5], _ =>
  simp only [List.getElem?_cons_zero, Option.some.injEq] at hk
  subst hk
  have hc1 := c_refCompare [.int .i64 k, t1, t2, t3, t4, t5] k rfl rfl ht1 y.min x.min
  have hc2 := c_refCompare [.int .i64 k, t1, t2, t3, t4, t5] k rfl rfl ht1 y.max x.max
  simp only [encV_eq] at hc1 hc2
  refine acalls_enter rfl ingotref16_Merge_ok (Nat.le_of_ble_eq_true rfl) ?_
  refine aw_region ?_
  refine st_box rfl ⟨rfl, ht1⟩ fun b3 hb3 => ?_
  refine st_box rfl (AVal.fit_iff.1 rfl) fun b4 hb4 => ?_
  refine st_box rfl (AVal.fit_iff.1 rfl) fun b5 hb5 => ?_
  refine st_alloc (by simp [AVal.cells, AVal.one]) fun b6 hb6 => ?_
  (refine st_nil ?_; (repeat (first | refine kp_cons rfl ?_ | refine kp_skip ?_)); refine kp_nil ?_)
  refine awp_weaken (FSub.refl _) (HSub.swap _ _ _) ?_
  refine awp_freezeP (d := 5) (cs := cellsS y) rfl ?_
  refine awp_weaken (FSub.refl _) (HSub.swap _ _ _) ?_
  refine awp_freezeP (d := 4) (cs := cellsS x) rfl ?_
  refine awp_weaken (FSub.refl _) (HSub.swap _ _ _) ?_
  refine awp_freezeP (d := 3) (cs := [.int .i64 k, t1, t2, t3, t4, t5]) rfl ?_
  have main : ∀ z : ABlk, z = .cells 15 [.agg [.int .i64 0, .bool false, .bool false, .bool false, .int .i64 0, .int .i64 0, .slc 0 [] true, .slc 0 [] true, .bool false, .int .i64 0, .int .i64 0, .slc 0 [] true, .slc 0 [] true, .bool false, .int .i64 0]] →
      AWp Try.prog ingotref16_Merge.n (ingotref16_Merge.code.snd 1) (ARet ingotref16_Merge.res fun r σ' => r = encS (refMerge k x y) ∧ σ' = σ)
        (fset 3 (some (.iptr [.int .i64 k, t1, t2, t3, t4, t5])) (fset 4 (some (.iptr (cellsS x))) (fset 5 (some (.iptr (cellsS y))) (fset 6 (some (.ptr b6 0 0)) fnone)))) ((b6, z) :: σ) := by
    intro z hz
    have last : ∀ (s : Stt) (b7 : Nat), s = refMerge k x y → b7 ∉ keys ((b6, z) :: σ) → AWp Try.prog ingotref16_Merge.n (ingotref16_Merge.code.snd 4) (ARet ingotref16_Merge.res fun r σ' => r = encS (refMerge k x y) ∧ σ' = σ)
        (fset 6 (some (.ptr b6 0 0)) (fset 7 (some (.ptr b7 0 0)) fnone)) ((b7, .cells 15 [encS s]) :: (b6, z) :: σ) := by
      intro s b7 hs hb7
      subst hz
      refine aw_region ?_
      refine st_ldp rfl hget_head rfl rfl ?_
      refine st_store rfl (hget_tail (fun e => hb7 (by rw [e]; simp [keys])) hget_head) rfl (by decide) (AVal.fit_iff.1 rfl) (fun h => by cases h) (hset_tail (fun e => hb7 (by rw [e]; simp [keys])) hset_head) ?_
      (refine st_nil ?_; (repeat (first | refine kp_cons rfl ?_ | refine kp_skip ?_)); refine kp_nil ?_)
      refine awp_weaken (FSub.refl _) (HSub.tail _ _) ?_
      refine awp_ret ?_
      exact ares (vs := [encS s]) (resCell rfl hget_head rfl) (HSub.tail _ _) ⟨by rw [hs]; rfl, rfl⟩
    have spans : ∀ (s : Stt) (b7 : Nat), s = { refMerge k x y with min := x.min, max := x.max } → b7 ∉ keys ((b6, z) :: σ) → AWp Try.prog ingotref16_Merge.n (ingotref16_Merge.code.snd 3) (ARet ingotref16_Merge.res fun r σ' => r = encS (refMerge k x y) ∧ σ' = σ)
        (fset 3 (some (.iptr [.int .i64 k, t1, t2, t3, t4, t5])) (fset 4 (some (.iptr (cellsS x))) (fset 5 (some (.iptr (cellsS y))) (fset 6 (some (.ptr b6 0 0)) (fset 7 (some (.ptr b7 0 0)) fnone))))) ((b7, .cells 15 [encS s]) :: (b6, z) :: σ) := by
      intro s b7 hs hb7
      (repeat (first | refine st_q rfl rfl rfl ?_ | refine st_gy rfl (st_q rfl rfl rfl ?_) | refine st_ldp rfl hget_head rfl rfl ?_ | refine st_gy rfl (st_ldp rfl hget_head rfl rfl ?_) | refine st_b2s rfl rfl ?_ | refine st_gy rfl (st_b2s rfl rfl ?_) | refine st_gn rfl ?_ | refine st_gu rfl ?_ | (refine st_nil ?_; (repeat (first | refine kp_cons rfl ?_ | refine kp_skip ?_)); refine kp_nil ?_) | refine awp_seq ?_ | refine aw_end (fun _ _ => rfl) ?_ | refine awp_block ?_ | refine aw_skipE (fun _ _ => rfl) ?_ | refine aw_exitE (fun _ _ => rfl) ?_ | refine awp_cond (t := true) rfl (fun _ => ?_) (fun e => by cases e) | refine awp_cond (t := false) rfl (fun e => by cases e) (fun _ => ?_)))
      cases hxh : x.has with
      | false =>
        (repeat (first | refine st_q rfl rfl rfl ?_ | refine st_gy rfl (st_q rfl rfl rfl ?_) | refine st_ldp rfl hget_head rfl rfl ?_ | refine st_gy rfl (st_ldp rfl hget_head rfl rfl ?_) | refine st_b2s rfl rfl ?_ | refine st_gy rfl (st_b2s rfl rfl ?_) | refine st_gn rfl ?_ | refine st_gu rfl ?_ | (refine st_nil ?_; (repeat (first | refine kp_cons rfl ?_ | refine kp_skip ?_)); refine kp_nil ?_) | refine awp_seq ?_ | refine aw_end (fun _ _ => rfl) ?_ | refine awp_block ?_ | refine aw_skipE (fun _ _ => rfl) ?_ | refine aw_exitE (fun _ _ => rfl) ?_ | refine awp_cond (t := true) rfl (fun _ => ?_) (fun e => by cases e) | refine awp_cond (t := false) rfl (fun e => by cases e) (fun _ => ?_)))
        (first | refine st_store rfl hget_head rfl (by decide) (AVal.fit_iff.1 rfl) (fun h => by cases h) hset_head ?_ | refine st_gy rfl (st_store rfl hget_head rfl (by decide) (AVal.fit_iff.1 rfl) (fun h => by cases h) hset_head ?_))
        (repeat (first | refine st_q rfl rfl rfl ?_ | refine st_gy rfl (st_q rfl rfl rfl ?_) | refine st_ldp rfl hget_head rfl rfl ?_ | refine st_gy rfl (st_ldp rfl hget_head rfl rfl ?_) | refine st_b2s rfl rfl ?_ | refine st_gy rfl (st_b2s rfl rfl ?_) | refine st_gn rfl ?_ | refine st_gu rfl ?_ | (refine st_nil ?_; (repeat (first | refine kp_cons rfl ?_ | refine kp_skip ?_)); refine kp_nil ?_) | refine awp_seq ?_ | refine aw_end (fun _ _ => rfl) ?_ | refine awp_block ?_ | refine aw_skipE (fun _ _ => rfl) ?_ | refine aw_exitE (fun _ _ => rfl) ?_ | refine awp_cond (t := true) rfl (fun _ => ?_) (fun e => by cases e) | refine awp_cond (t := false) rfl (fun e => by cases e) (fun _ => ?_)))
        (first | refine st_store rfl hget_head rfl (by decide) (AVal.fit_iff.1 rfl) (fun h => by cases h) hset_head ?_ | refine st_gy rfl (st_store rfl hget_head rfl (by decide) (AVal.fit_iff.1 rfl) (fun h => by cases h) hset_head ?_))
        (refine st_nil ?_; (repeat (first | refine kp_cons rfl ?_ | refine kp_skip ?_)); refine kp_nil ?_)
        exact last { s with min := y.min, max := y.max } b7 (by rw [hs]; simp [refMerge, hxh]) hb7
      | true =>
        (repeat (first | refine st_q rfl rfl rfl ?_ | refine st_gy rfl (st_q rfl rfl rfl ?_) | refine st_ldp rfl hget_head rfl rfl ?_ | refine st_gy rfl (st_ldp rfl hget_head rfl rfl ?_) | refine st_b2s rfl rfl ?_ | refine st_gy rfl (st_b2s rfl rfl ?_) | refine st_gn rfl ?_ | refine st_gu rfl ?_ | (refine st_nil ?_; (repeat (first | refine kp_cons rfl ?_ | refine kp_skip ?_)); refine kp_nil ?_) | refine awp_seq ?_ | refine aw_end (fun _ _ => rfl) ?_ | refine awp_block ?_ | refine aw_skipE (fun _ _ => rfl) ?_ | refine aw_exitE (fun _ _ => rfl) ?_ | refine awp_cond (t := true) rfl (fun _ => ?_) (fun e => by cases e) | refine awp_cond (t := false) rfl (fun e => by cases e) (fun _ => ?_)))
        cases hyh : y.has with
        | false =>
          (refine awp_cond (t := false) rfl (fun e => by cases e) (fun _ => ?_); refine aw_skipE (fun _ _ => rfl) ?_)
          (refine kp_weaken (keep := [6, 7]) ?_; ((repeat (first | refine kp_cons rfl ?_ | refine kp_skip ?_)); refine kp_nil ?_))
          exact last s b7 (by rw [hs]; simp [refMerge, hxh, hyh]) hb7
        | true =>
          (repeat (first | refine st_q rfl rfl rfl ?_ | refine st_gy rfl (st_q rfl rfl rfl ?_) | refine st_ldp rfl hget_head rfl rfl ?_ | refine st_gy rfl (st_ldp rfl hget_head rfl rfl ?_) | refine st_b2s rfl rfl ?_ | refine st_gy rfl (st_b2s rfl rfl ?_) | refine st_gn rfl ?_ | refine st_gu rfl ?_ | (refine st_nil ?_; (repeat (first | refine kp_cons rfl ?_ | refine kp_skip ?_)); refine kp_nil ?_) | refine awp_seq ?_ | refine aw_end (fun _ _ => rfl) ?_ | refine awp_block ?_ | refine aw_skipE (fun _ _ => rfl) ?_ | refine aw_exitE (fun _ _ => rfl) ?_ | refine awp_cond (t := true) rfl (fun _ => ?_) (fun e => by cases e) | refine awp_cond (t := false) rfl (fun e => by cases e) (fun _ => ?_)))
          (first | refine st_callv rfl (hc1 _) ?_ | refine st_gy rfl (st_callv rfl (hc1 _) ?_) | refine st_callp rfl hc1 ?_ | refine st_gy rfl (st_callp rfl hc1 ?_))
          (repeat (first | refine st_q rfl rfl rfl ?_ | refine st_gy rfl (st_q rfl rfl rfl ?_) | refine st_ldp rfl hget_head rfl rfl ?_ | refine st_gy rfl (st_ldp rfl hget_head rfl rfl ?_) | refine st_b2s rfl rfl ?_ | refine st_gy rfl (st_b2s rfl rfl ?_) | refine st_gn rfl ?_ | refine st_gu rfl ?_ | (refine st_nil ?_; (repeat (first | refine kp_cons rfl ?_ | refine kp_skip ?_)); refine kp_nil ?_) | refine awp_seq ?_ | refine aw_end (fun _ _ => rfl) ?_ | refine awp_block ?_ | refine aw_skipE (fun _ _ => rfl) ?_ | refine aw_exitE (fun _ _ => rfl) ?_ | refine awp_cond (t := true) rfl (fun _ => ?_) (fun e => by cases e) | refine awp_cond (t := false) rfl (fun e => by cases e) (fun _ => ?_)))
          (first | refine st_callv rfl (hc2 _) ?_ | refine st_gy rfl (st_callv rfl (hc2 _) ?_) | refine st_callp rfl hc2 ?_ | refine st_gy rfl (st_callp rfl hc2 ?_))
          (repeat (first | refine st_q rfl rfl rfl ?_ | refine st_gy rfl (st_q rfl rfl rfl ?_) | refine st_ldp rfl hget_head rfl rfl ?_ | refine st_gy rfl (st_ldp rfl hget_head rfl rfl ?_) | refine st_b2s rfl rfl ?_ | refine st_gy rfl (st_b2s rfl rfl ?_) | refine st_gn rfl ?_ | refine st_gu rfl ?_ | (refine st_nil ?_; (repeat (first | refine kp_cons rfl ?_ | refine kp_skip ?_)); refine kp_nil ?_) | refine awp_seq ?_ | refine aw_end (fun _ _ => rfl) ?_ | refine awp_block ?_ | refine aw_skipE (fun _ _ => rfl) ?_ | refine aw_exitE (fun _ _ => rfl) ?_ | refine awp_cond (t := true) rfl (fun _ => ?_) (fun e => by cases e) | refine awp_cond (t := false) rfl (fun e => by cases e) (fun _ => ?_)))
          have step2 : ∀ s1 : Stt, s1 = { refMerge k x y with max := x.max } → AWp Try.prog ingotref16_Merge.n (.seq (.region ingotref16_Merge_r12 [5, 6, 7, 85]) (.cond (.t 85) (.region ingotref16_Merge_r13 [6, 7]) .skip)) (AThen Try.prog ingotref16_Merge.n (ingotref16_Merge.code.snd 4) (ARet ingotref16_Merge.res fun r σ' => r = encS (refMerge k x y) ∧ σ' = σ))
              (fset 5 (some (.iptr (cellsS y))) (fset 6 (some (.ptr b6 0 0)) (fset 7 (some (.ptr b7 0 0)) (fset 10 (some (.int .i64 (cmpV k y.max x.max).1)) fnone)))) ((b7, .cells 15 [encS s1]) :: (b6, z) :: σ) := by
            intro s1 hs1
            refine awp_seq ?_
            refine aw_end (fun _ _ => rfl) ?_
            (repeat (refine st_q rfl rfl rfl ?_))
            (refine st_nil ?_; (repeat (first | refine kp_cons rfl ?_ | refine kp_skip ?_)); refine kp_nil ?_)
            refine awp_condp (p := 0 < (cmpV k y.max x.max).1) rfl (fun h => ?_) (fun h => ?_)
            · refine aw_end (fun _ _ => rfl) ?_
              (repeat (refine st_q rfl rfl rfl ?_))
              (first | refine st_store rfl hget_head rfl (by decide) (AVal.fit_iff.1 rfl) (fun h => by cases h) hset_head ?_ | refine st_gy rfl (st_store rfl hget_head rfl (by decide) (AVal.fit_iff.1 rfl) (fun h => by cases h) hset_head ?_))
              (refine st_nil ?_; (repeat (first | refine kp_cons rfl ?_ | refine kp_skip ?_)); refine kp_nil ?_)
              exact last { s1 with max := y.max } b7 (by rw [hs1]; simp [refMerge, hxh, hyh, h]) hb7
            · refine aw_skipE (fun _ _ => rfl) ?_
              (refine kp_weaken (keep := [6, 7]) ?_; ((repeat (first | refine kp_cons rfl ?_ | refine kp_skip ?_)); refine kp_nil ?_))
              exact last s1 b7 (by rw [hs1]; simp [refMerge, hxh, hyh, h]) hb7
          refine awp_condp (p := (cmpV k y.min x.min).1 < 0) rfl (fun h => ?_) (fun h => ?_)
          · refine aw_end (fun _ _ => rfl) ?_
            (repeat (refine st_q rfl rfl rfl ?_))
            (first | refine st_store rfl hget_head rfl (by decide) (AVal.fit_iff.1 rfl) (fun h => by cases h) hset_head ?_ | refine st_gy rfl (st_store rfl hget_head rfl (by decide) (AVal.fit_iff.1 rfl) (fun h => by cases h) hset_head ?_))
            (refine st_nil ?_; (repeat (first | refine kp_cons rfl ?_ | refine kp_skip ?_)); refine kp_nil ?_)
            exact step2 { s with min := y.min } (by rw [hs]; simp [refMerge, hxh, hyh, h])
          · refine aw_skipE (fun _ _ => rfl) ?_
            (refine kp_weaken (keep := [5, 6, 7, 10]) ?_; ((repeat (first | refine kp_cons rfl ?_ | refine kp_skip ?_)); refine kp_nil ?_))
            exact step2 s (by rw [hs]; simp [refMerge, hxh, hyh, h])
    have sums : ∀ (nn hh : Bool) (b7 : Nat), nn = (x.null || y.null) → hh = (x.has || y.has) → b7 ∉ keys ((b6, z) :: σ) → AWp Try.prog ingotref16_Merge.n (ingotref16_Merge.code.snd 2) (ARet ingotref16_Merge.res fun r σ' => r = encS (refMerge k x y) ∧ σ' = σ)
        (fset 3 (some (.iptr [.int .i64 k, t1, t2, t3, t4, t5])) (fset 4 (some (.iptr (cellsS x))) (fset 5 (some (.iptr (cellsS y))) (fset 6 (some (.ptr b6 0 0)) (fset 7 (some (.ptr b7 0 0)) fnone))))) ((b7, .cells 15 [encS ⟨IntKind.wrap .i64 (x.count + y.count), nn, hh, x.min, x.max, false, 0⟩]) :: (b6, z) :: σ) := by
      intro nn hh b7 e1 e2 hb7
      subst e1 e2
      (repeat (first | refine st_q rfl rfl rfl ?_ | refine st_gy rfl (st_q rfl rfl rfl ?_) | refine st_ldp rfl hget_head rfl rfl ?_ | refine st_gy rfl (st_ldp rfl hget_head rfl rfl ?_) | refine st_b2s rfl rfl ?_ | refine st_gy rfl (st_b2s rfl rfl ?_) | refine st_gn rfl ?_ | refine st_gu rfl ?_ | (refine st_nil ?_; (repeat (first | refine kp_cons rfl ?_ | refine kp_skip ?_)); refine kp_nil ?_) | refine awp_seq ?_ | refine aw_end (fun _ _ => rfl) ?_ | refine awp_block ?_ | refine aw_skipE (fun _ _ => rfl) ?_ | refine aw_exitE (fun _ _ => rfl) ?_ | refine awp_cond (t := true) rfl (fun _ => ?_) (fun e => by cases e) | refine awp_cond (t := false) rfl (fun e => by cases e) (fun _ => ?_)))
      cases hxs : x.sums with
      | false =>
        (repeat (first | refine st_q rfl rfl rfl ?_ | refine st_gy rfl (st_q rfl rfl rfl ?_) | refine st_gn rfl ?_ | refine st_gu rfl ?_))
        (refine st_nil ?_; (repeat (first | refine kp_cons rfl ?_ | refine kp_skip ?_)); refine kp_nil ?_)
        (refine awp_cond (t := false) rfl (fun e => by cases e) (fun _ => ?_); refine aw_skipE (fun _ _ => rfl) ?_)
        (refine kp_weaken (keep := [3, 4, 5, 6, 7]) ?_; ((repeat (first | refine kp_cons rfl ?_ | refine kp_skip ?_)); refine kp_nil ?_))
        exact spans _ b7 (by simp [refMerge, hxs]) hb7
      | true =>
        (repeat (first | refine st_q rfl rfl rfl ?_ | refine st_gy rfl (st_q rfl rfl rfl ?_) | refine st_ldp rfl hget_head rfl rfl ?_ | refine st_gy rfl (st_ldp rfl hget_head rfl rfl ?_) | refine st_b2s rfl rfl ?_ | refine st_gy rfl (st_b2s rfl rfl ?_) | refine st_gn rfl ?_ | refine st_gu rfl ?_ | (refine st_nil ?_; (repeat (first | refine kp_cons rfl ?_ | refine kp_skip ?_)); refine kp_nil ?_) | refine awp_seq ?_ | refine aw_end (fun _ _ => rfl) ?_ | refine awp_block ?_ | refine aw_skipE (fun _ _ => rfl) ?_ | refine aw_exitE (fun _ _ => rfl) ?_ | refine awp_cond (t := true) rfl (fun _ => ?_) (fun e => by cases e) | refine awp_cond (t := false) rfl (fun e => by cases e) (fun _ => ?_)))
        cases hys : y.sums with
        | false =>
          (refine awp_cond (t := false) rfl (fun e => by cases e) (fun _ => ?_); refine aw_skipE (fun _ _ => rfl) ?_)
          (refine kp_weaken (keep := [3, 4, 5, 6, 7]) ?_; ((repeat (first | refine kp_cons rfl ?_ | refine kp_skip ?_)); refine kp_nil ?_))
          exact spans _ b7 (by simp [refMerge, hxs, hys]) hb7
        | true =>
          (repeat (first | refine st_q rfl rfl rfl ?_ | refine st_gy rfl (st_q rfl rfl rfl ?_) | refine st_ldp rfl hget_head rfl rfl ?_ | refine st_gy rfl (st_ldp rfl hget_head rfl rfl ?_) | refine st_b2s rfl rfl ?_ | refine st_gy rfl (st_b2s rfl rfl ?_) | refine st_gn rfl ?_ | refine st_gu rfl ?_ | (refine st_nil ?_; (repeat (first | refine kp_cons rfl ?_ | refine kp_skip ?_)); refine kp_nil ?_) | refine awp_seq ?_ | refine aw_end (fun _ _ => rfl) ?_ | refine awp_block ?_ | refine aw_skipE (fun _ _ => rfl) ?_ | refine aw_exitE (fun _ _ => rfl) ?_ | refine awp_cond (t := true) rfl (fun _ => ?_) (fun e => by cases e) | refine awp_cond (t := false) rfl (fun e => by cases e) (fun _ => ?_)))
          (first | refine st_callv rfl ((c_refAdd x.sum y.sum hx hy) _) ?_ | refine st_gy rfl (st_callv rfl ((c_refAdd x.sum y.sum hx hy) _) ?_) | refine st_callp rfl (c_refAdd x.sum y.sum hx hy) ?_ | refine st_gy rfl (st_callp rfl (c_refAdd x.sum y.sum hx hy) ?_))
          (repeat (refine st_q rfl rfl rfl ?_))
          (first | refine st_store rfl hget_head rfl (by decide) (AVal.fit_iff.1 rfl) (fun h => by cases h) hset_head ?_ | refine st_gy rfl (st_store rfl hget_head rfl (by decide) (AVal.fit_iff.1 rfl) (fun h => by cases h) hset_head ?_))
          (repeat (refine st_q rfl rfl rfl ?_))
          (first | refine st_store rfl hget_head rfl (by decide) (AVal.fit_iff.1 rfl) (fun h => by cases h) hset_head ?_ | refine st_gy rfl (st_store rfl hget_head rfl (by decide) (AVal.fit_iff.1 rfl) (fun h => by cases h) hset_head ?_))
          (refine st_nil ?_; (repeat (first | refine kp_cons rfl ?_ | refine kp_skip ?_)); refine kp_nil ?_)
          exact spans ⟨IntKind.wrap .i64 (x.count + y.count), x.null || y.null, x.has || y.has, x.min, x.max, (addF x.sum y.sum).2, (addF x.sum y.sum).1⟩ b7 (by simp [refMerge, hxs, hys]) hb7
    (repeat (first | refine st_q rfl rfl rfl ?_ | refine st_gy rfl (st_q rfl rfl rfl ?_) | refine st_ldp rfl hget_head rfl rfl ?_ | refine st_gy rfl (st_ldp rfl hget_head rfl rfl ?_) | refine st_b2s rfl rfl ?_ | refine st_gy rfl (st_b2s rfl rfl ?_) | refine st_gn rfl ?_ | refine st_gu rfl ?_ | (refine st_nil ?_; (repeat (first | refine kp_cons rfl ?_ | refine kp_skip ?_)); refine kp_nil ?_) | refine awp_seq ?_ | refine aw_end (fun _ _ => rfl) ?_ | refine awp_block ?_ | refine aw_skipE (fun _ _ => rfl) ?_ | refine aw_exitE (fun _ _ => rfl) ?_ | refine awp_cond (t := true) rfl (fun _ => ?_) (fun e => by cases e) | refine awp_cond (t := false) rfl (fun e => by cases e) (fun _ => ?_)))
    cases hxn : x.null with
    | true =>
      (repeat (first | refine st_q rfl rfl rfl ?_ | refine st_gy rfl (st_q rfl rfl rfl ?_) | refine st_ldp rfl hget_head rfl rfl ?_ | refine st_gy rfl (st_ldp rfl hget_head rfl rfl ?_) | refine st_b2s rfl rfl ?_ | refine st_gy rfl (st_b2s rfl rfl ?_) | refine st_gn rfl ?_ | refine st_gu rfl ?_ | (refine st_nil ?_; (repeat (first | refine kp_cons rfl ?_ | refine kp_skip ?_)); refine kp_nil ?_) | refine awp_seq ?_ | refine aw_end (fun _ _ => rfl) ?_ | refine awp_block ?_ | refine aw_skipE (fun _ _ => rfl) ?_ | refine aw_exitE (fun _ _ => rfl) ?_ | refine awp_cond (t := true) rfl (fun _ => ?_) (fun e => by cases e) | refine awp_cond (t := false) rfl (fun e => by cases e) (fun _ => ?_)))
      cases hxh : x.has with
      | true =>
        (repeat (first | refine st_q rfl rfl rfl ?_ | refine st_gy rfl (st_q rfl rfl rfl ?_) | refine st_ldp rfl hget_head rfl rfl ?_ | refine st_gy rfl (st_ldp rfl hget_head rfl rfl ?_) | refine st_b2s rfl rfl ?_ | refine st_gy rfl (st_b2s rfl rfl ?_) | refine st_gn rfl ?_ | refine st_gu rfl ?_ | (refine st_nil ?_; (repeat (first | refine kp_cons rfl ?_ | refine kp_skip ?_)); refine kp_nil ?_) | refine awp_seq ?_ | refine aw_end (fun _ _ => rfl) ?_ | refine awp_block ?_ | refine aw_skipE (fun _ _ => rfl) ?_ | refine aw_exitE (fun _ _ => rfl) ?_ | refine awp_cond (t := true) rfl (fun _ => ?_) (fun e => by cases e) | refine awp_cond (t := false) rfl (fun e => by cases e) (fun _ => ?_)))
        refine st_alloc (by simp [AVal.cells, AVal.one]) fun b7 hb7 => ?_
        (first | refine st_store rfl hget_head rfl (by decide) (AVal.fit_iff.1 rfl) (fun h => by cases h) hset_head ?_ | refine st_gy rfl (st_store rfl hget_head rfl (by decide) (AVal.fit_iff.1 rfl) (fun h => by cases h) hset_head ?_))
        (refine st_nil ?_; (repeat (first | refine kp_cons rfl ?_ | refine kp_skip ?_)); refine kp_nil ?_)
        exact sums _ _ b7 (by rw [hxn]; rfl) (by rw [hxh]; rfl) hb7
      | false =>
        (repeat (first | refine st_q rfl rfl rfl ?_ | refine st_gy rfl (st_q rfl rfl rfl ?_) | refine st_ldp rfl hget_head rfl rfl ?_ | refine st_gy rfl (st_ldp rfl hget_head rfl rfl ?_) | refine st_b2s rfl rfl ?_ | refine st_gy rfl (st_b2s rfl rfl ?_) | refine st_gn rfl ?_ | refine st_gu rfl ?_ | (refine st_nil ?_; (repeat (first | refine kp_cons rfl ?_ | refine kp_skip ?_)); refine kp_nil ?_) | refine awp_seq ?_ | refine aw_end (fun _ _ => rfl) ?_ | refine awp_block ?_ | refine aw_skipE (fun _ _ => rfl) ?_ | refine aw_exitE (fun _ _ => rfl) ?_ | refine awp_cond (t := true) rfl (fun _ => ?_) (fun e => by cases e) | refine awp_cond (t := false) rfl (fun e => by cases e) (fun _ => ?_)))
        refine st_alloc (by simp [AVal.cells, AVal.one]) fun b7 hb7 => ?_
        (first | refine st_store rfl hget_head rfl (by decide) (AVal.fit_iff.1 rfl) (fun h => by cases h) hset_head ?_ | refine st_gy rfl (st_store rfl hget_head rfl (by decide) (AVal.fit_iff.1 rfl) (fun h => by cases h) hset_head ?_))
        (refine st_nil ?_; (repeat (first | refine kp_cons rfl ?_ | refine kp_skip ?_)); refine kp_nil ?_)
        exact sums _ _ b7 (by rw [hxn]; rfl) (by rw [hxh]; rfl) hb7
    | false =>
      (repeat (first | refine st_q rfl rfl rfl ?_ | refine st_gy rfl (st_q rfl rfl rfl ?_) | refine st_ldp rfl hget_head rfl rfl ?_ | refine st_gy rfl (st_ldp rfl hget_head rfl rfl ?_) | refine st_b2s rfl rfl ?_ | refine st_gy rfl (st_b2s rfl rfl ?_) | refine st_gn rfl ?_ | refine st_gu rfl ?_ | (refine st_nil ?_; (repeat (first | refine kp_cons rfl ?_ | refine kp_skip ?_)); refine kp_nil ?_) | refine awp_seq ?_ | refine aw_end (fun _ _ => rfl) ?_ | refine awp_block ?_ | refine aw_skipE (fun _ _ => rfl) ?_ | refine aw_exitE (fun _ _ => rfl) ?_ | refine awp_cond (t := true) rfl (fun _ => ?_) (fun e => by cases e) | refine awp_cond (t := false) rfl (fun e => by cases e) (fun _ => ?_)))
      cases hxh : x.has with
      | true =>
        (repeat (first | refine st_q rfl rfl rfl ?_ | refine st_gy rfl (st_q rfl rfl rfl ?_) | refine st_ldp rfl hget_head rfl rfl ?_ | refine st_gy rfl (st_ldp rfl hget_head rfl rfl ?_) | refine st_b2s rfl rfl ?_ | refine st_gy rfl (st_b2s rfl rfl ?_) | refine st_gn rfl ?_ | refine st_gu rfl ?_ | (refine st_nil ?_; (repeat (first | refine kp_cons rfl ?_ | refine kp_skip ?_)); refine kp_nil ?_) | refine awp_seq ?_ | refine aw_end (fun _ _ => rfl) ?_ | refine awp_block ?_ | refine aw_skipE (fun _ _ => rfl) ?_ | refine aw_exitE (fun _ _ => rfl) ?_ | refine awp_cond (t := true) rfl (fun _ => ?_) (fun e => by cases e) | refine awp_cond (t := false) rfl (fun e => by cases e) (fun _ => ?_)))
        refine st_alloc (by simp [AVal.cells, AVal.one]) fun b7 hb7 => ?_
        (first | refine st_store rfl hget_head rfl (by decide) (AVal.fit_iff.1 rfl) (fun h => by cases h) hset_head ?_ | refine st_gy rfl (st_store rfl hget_head rfl (by decide) (AVal.fit_iff.1 rfl) (fun h => by cases h) hset_head ?_))
        (refine st_nil ?_; (repeat (first | refine kp_cons rfl ?_ | refine kp_skip ?_)); refine kp_nil ?_)
        exact sums _ _ b7 (by rw [hxn]; rfl) (by rw [hxh]; rfl) hb7
      | false =>
        (repeat (first | refine st_q rfl rfl rfl ?_ | refine st_gy rfl (st_q rfl rfl rfl ?_) | refine st_ldp rfl hget_head rfl rfl ?_ | refine st_gy rfl (st_ldp rfl hget_head rfl rfl ?_) | refine st_b2s rfl rfl ?_ | refine st_gy rfl (st_b2s rfl rfl ?_) | refine st_gn rfl ?_ | refine st_gu rfl ?_ | (refine st_nil ?_; (repeat (first | refine kp_cons rfl ?_ | refine kp_skip ?_)); refine kp_nil ?_) | refine awp_seq ?_ | refine aw_end (fun _ _ => rfl) ?_ | refine awp_block ?_ | refine aw_skipE (fun _ _ => rfl) ?_ | refine aw_exitE (fun _ _ => rfl) ?_ | refine awp_cond (t := true) rfl (fun _ => ?_) (fun e => by cases e) | refine awp_cond (t := false) rfl (fun e => by cases e) (fun _ => ?_)))
        refine st_alloc (by simp [AVal.cells, AVal.one]) fun b7 hb7 => ?_
        (first | refine st_store rfl hget_head rfl (by decide) (AVal.fit_iff.1 rfl) (fun h => by cases h) hset_head ?_ | refine st_gy rfl (st_store rfl hget_head rfl (by decide) (AVal.fit_iff.1 rfl) (fun h => by cases h) hset_head ?_))
        (refine st_nil ?_; (repeat (first | refine kp_cons rfl ?_ | refine kp_skip ?_)); refine kp_nil ?_)
        exact sums _ _ b7 (by rw [hxn]; rfl) (by rw [hxh]; rfl) hb7
  (refine kp_weaken (keep := [3, 4, 5, 6]) ?_; ((repeat (first | refine kp_cons rfl ?_ | refine kp_skip ?_)); refine kp_nil ?_))
  exact main _ rfl
end Go.Abs

