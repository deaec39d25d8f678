/- Part I of a proof: merged by program. -/
import Derived.Test.YtgmefkhincnajaaPkH
import Derived.Test.YtgmefkhincnajaaProg
import Derived.KernelRfl
namespace Go.Abs
open Go
def ingotlaw16_StatSums_r0 : List AOper := [
  ⟨some 2, .mov, [.c (.bool false)], none⟩]
def ingotlaw16_StatSums_r1 : List AOper := [
  ⟨some 9, (.call f_ingotlaw16_known), [], none⟩,
  ⟨some 10, .unot, [.t 9], none⟩]
def ingotlaw16_StatSums_r2 : List AOper := [
  ⟨some 2, .mov, [.c (.bool false)], none⟩]
def ingotlaw16_StatSums_r3 : List AOper := [
  ⟨some 11, .mov, [.t 0], none⟩,
  ⟨some 12, .lens, [.t 11], none⟩,
  ⟨some 13, (.bin .gtr), [.t 12, .c (.int .i64 200)], none⟩]
def ingotlaw16_StatSums_r4 : List AOper := [
  ⟨some 2, .mov, [.c (.bool true)], none⟩]
def ingotlaw16_StatSums_r5 : List AOper := [
  ⟨some 15, .mov, [.t 0], none⟩,
  ⟨some 16, (.call f_ingotlaw16_longs), [.t 15], none⟩,
  ⟨some 14, .mov, [.t 16], none⟩,
  ⟨some 17, (.ext 0), [.t 14], none⟩,
  ⟨some 18, (.ext 1), [.t 14], none⟩,
  ⟨some 4, (.alloc (.agg [(.slc 0 [] true), (.slc 0 [] true), (.slc 0 [] true), (.slc 0 [] true), (.slc 0 [] true)])), [], none⟩,
  ⟨some 3, .mov, [.t 17], none⟩,
  ⟨none, (.store 5), [.t 4, .t 18], none⟩]
def ingotlaw16_StatSums_r6 : List AOper := [
  ⟨some 19, .mov, [.t 3], none⟩,
  ⟨some 20, .lens, [.t 19], none⟩,
  ⟨some 21, (.bin .neq), [.t 20, .c (.int .i64 2)], none⟩]
def ingotlaw16_StatSums_r7 : List AOper := [
  ⟨some 2, .mov, [.c (.bool false)], none⟩]
def ingotlaw16_StatSums_r8 : List AOper := [
  ⟨some 22, .mov, [.t 3], none⟩,
  ⟨some 23, (.iad 8), [.t 22, .c (.int .i64 1)], none⟩,
  ⟨some 24, (.load true 8), [.t 23], none⟩,
  ⟨some 25, (.load true 5), [.t 4], none⟩,
  ⟨some 26, (.callp f_ingotlaw15_To), [.t 25], none⟩,
  ⟨some 27, (.callp f_stat_Of), [.t 24, .t 26], none⟩,
  ⟨some 5, (.alloc (.agg [(.int .i64 0), (.bool false), (.bool false), (.bool false), (.int .i64 0), (.int .i64 0), (.slc 0 [] true), (.slc 0 [] true), (.bool false), (.int .i64 0), (.int .i64 0), (.slc 0 [] true), (.slc 0 [] true), (.bool false), (.int .i64 0)])), [], none⟩,
  ⟨none, (.store 15), [.t 5, .t 27], none⟩]
def ingotlaw16_StatSums_r9 : List AOper := [
  ⟨some 6, .mov, [.c (.int .i64 0)], none⟩]
def ingotlaw16_StatSums_r10 : List AOper := [
  ⟨some 7, .mov, [.c (.bool true)], none⟩]
def ingotlaw16_StatSums_r11 : List AOper := [
  ⟨some 8, .mov, [.c (.int .i64 0)], none⟩]
def ingotlaw16_StatSums_r12 : List AOper := [
  ⟨some 28, .mov, [.t 8], none⟩,
  ⟨some 29, .mov, [.t 0], none⟩,
  ⟨some 30, .lens, [.t 29], none⟩,
  ⟨some 31, (.bin .lss), [.t 28, .t 30], none⟩,
  ⟨some 32, .mov, [.t 31], none⟩,
  ⟨some 33, .mov, [.t 7], some (32, true)⟩,
  ⟨some 34, .pick, [.t 32, .t 33, .c (.bool false)], none⟩]
def ingotlaw16_StatSums_r13 : List AOper := [
  ⟨some 38, .mov, [.t 6], none⟩,
  ⟨some 39, .mov, [.t 0], none⟩,
  ⟨some 40, .mov, [.t 8], none⟩,
  ⟨some 41, (.iad 1), [.t 39, .t 40], none⟩,
  ⟨some 42, (.load false 1), [.t 41], none⟩,
  ⟨some 43, (.call f_ingotref1_Add), [.t 38, .t 42], none⟩,
  ⟨some 37, .mov, [.t 43], none⟩,
  ⟨some 44, (.ext 0), [.t 37], none⟩,
  ⟨some 45, (.ext 1), [.t 37], none⟩,
  ⟨some 6, .mov, [.t 44], none⟩,
  ⟨some 7, .mov, [.t 45], none⟩]
def ingotlaw16_StatSums_r14 : List AOper := [
  ⟨some 35, .mov, [.t 8], none⟩,
  ⟨some 36, (.bin .add), [.t 35, .c (.int .i64 1)], none⟩,
  ⟨some 8, .mov, [.t 36], none⟩]
def ingotlaw16_StatSums_l0 : ACode := (.seq (.seq (.region ingotlaw16_StatSums_r12 [0, 5, 6, 7, 8, 34]) (.cond (.t 34) .skip (.exit 0))) (.seq (.block 1 (.region ingotlaw16_StatSums_r13 [0, 5, 6, 7, 8])) (.region ingotlaw16_StatSums_r14 [0, 5, 6, 7, 8])))
def ingotlaw16_StatSums_r15 : List AOper := [
  ⟨some 46, .mov, [.t 7], none⟩,
  ⟨some 47, .unot, [.t 46], none⟩]
def ingotlaw16_StatSums_r16 : List AOper := [
  ⟨some 48, (.fad 13), [.t 5], none⟩,
  ⟨some 49, (.load false 1), [.t 48], none⟩,
  ⟨some 50, .unot, [.t 49], none⟩,
  ⟨some 51, .mov, [.t 50], none⟩,
  ⟨some 52, (.fad 14), [.t 5], some (51, true)⟩,
  ⟨some 53, (.load false 1), [.t 52], some (51, true)⟩,
  ⟨some 54, (.bin .eql), [.t 53, .c (.int .i64 0)], some (51, true)⟩,
  ⟨some 55, .pick, [.t 51, .t 54, .c (.bool false)], none⟩,
  ⟨some 56, .mov, [.t 55], none⟩,
  ⟨some 57, (.fad 0), [.t 5], some (56, true)⟩,
  ⟨some 58, (.load false 1), [.t 57], some (56, true)⟩,
  ⟨some 59, .mov, [.t 0], some (56, true)⟩,
  ⟨some 60, .lens, [.t 59], some (56, true)⟩,
  ⟨some 61, (.bin .eql), [.t 58, .t 60], some (56, true)⟩,
  ⟨some 62, .pick, [.t 56, .t 61, .c (.bool false)], none⟩,
  ⟨some 2, .mov, [.t 62], none⟩]
def ingotlaw16_StatSums_r17 : List AOper := [
  ⟨some 63, (.fad 13), [.t 5], none⟩,
  ⟨some 64, (.load false 1), [.t 63], none⟩,
  ⟨some 65, .mov, [.t 64], none⟩,
  ⟨some 66, (.fad 14), [.t 5], some (65, true)⟩,
  ⟨some 67, (.load false 1), [.t 66], some (65, true)⟩,
  ⟨some 68, .mov, [.t 6], some (65, true)⟩,
  ⟨some 69, (.bin .eql), [.t 67, .t 68], some (65, true)⟩,
  ⟨some 70, .pick, [.t 65, .t 69, .c (.bool false)], none⟩,
  ⟨some 71, .mov, [.t 70], none⟩,
  ⟨some 72, (.fad 0), [.t 5], some (71, true)⟩,
  ⟨some 73, (.load false 1), [.t 72], some (71, true)⟩,
  ⟨some 74, .mov, [.t 0], some (71, true)⟩,
  ⟨some 75, .lens, [.t 74], some (71, true)⟩,
  ⟨some 76, (.bin .eql), [.t 73, .t 75], some (71, true)⟩,
  ⟨some 77, .pick, [.t 71, .t 76, .c (.bool false)], none⟩,
  ⟨some 78, .mov, [.t 77], none⟩,
  ⟨some 79, (.fad 2), [.t 5], some (78, true)⟩,
  ⟨some 80, (.load false 1), [.t 79], some (78, true)⟩,
  ⟨some 81, .mov, [.t 0], some (78, true)⟩,
  ⟨some 82, .lens, [.t 81], some (78, true)⟩,
  ⟨some 83, (.bin .gtr), [.t 82, .c (.int .i64 0)], some (78, true)⟩,
  ⟨some 84, (.binb .eql), [.t 80, .t 83], some (78, true)⟩,
  ⟨some 85, .pick, [.t 78, .t 84, .c (.bool false)], none⟩,
  ⟨some 2, .mov, [.t 85], none⟩]
def ingotlaw16_StatSums : AFunc := ⟨86, (.seq (.region ingotlaw16_StatSums_r0 [0]) (.seq (.seq (.region ingotlaw16_StatSums_r1 [0, 10]) (.cond (.t 10) (.seq (.region ingotlaw16_StatSums_r2 [2]) .ret) .skip)) (.seq (.seq (.region ingotlaw16_StatSums_r3 [0, 13]) (.cond (.t 13) (.seq (.region ingotlaw16_StatSums_r4 [2]) .ret) .skip)) (.seq (.region ingotlaw16_StatSums_r5 [0, 3, 4]) (.seq (.seq (.region ingotlaw16_StatSums_r6 [0, 3, 4, 21]) (.cond (.t 21) (.seq (.region ingotlaw16_StatSums_r7 [2]) .ret) .skip)) (.seq (.region ingotlaw16_StatSums_r8 [0, 5]) (.seq (.region ingotlaw16_StatSums_r9 [0, 5, 6]) (.seq (.region ingotlaw16_StatSums_r10 [0, 5, 6, 7]) (.seq (.seq (.region ingotlaw16_StatSums_r11 [0, 5, 6, 7, 8]) (.block 0 (.loop ingotlaw16_StatSums_l0))) (.seq (.seq (.region ingotlaw16_StatSums_r15 [0, 5, 6, 47]) (.cond (.t 47) (.seq (.region ingotlaw16_StatSums_r16 [2]) .ret) .skip)) (.seq (.region ingotlaw16_StatSums_r17 [2]) .ret))))))))))), [.t 2]⟩
def ingotlaw16_StatParts_r0 : List AOper := [
  ⟨some 4, .mov, [.c (.bool false)], none⟩]
def ingotlaw16_StatParts_r1 : List AOper := [
  ⟨some 16, (.call f_ingotlaw16_known), [], none⟩,
  ⟨some 17, .unot, [.t 16], none⟩]
def ingotlaw16_StatParts_r2 : List AOper := [
  ⟨some 4, .mov, [.c (.bool false)], none⟩]
def ingotlaw16_StatParts_r3 : List AOper := [
  ⟨some 18, .mov, [.t 0], none⟩,
  ⟨some 19, .lens, [.t 18], none⟩,
  ⟨some 20, (.bin .gtr), [.t 19, .c (.int .i64 100)], none⟩,
  ⟨some 21, .mov, [.t 20], none⟩,
  ⟨some 22, .mov, [.t 1], some (21, false)⟩,
  ⟨some 23, .lens, [.t 22], some (21, false)⟩,
  ⟨some 24, (.bin .gtr), [.t 23, .c (.int .i64 20)], some (21, false)⟩,
  ⟨some 25, .pick, [.t 21, .c (.bool true), .t 24], none⟩,
  ⟨some 26, .mov, [.t 25], none⟩,
  ⟨some 27, .mov, [.t 0], some (26, false)⟩,
  ⟨some 28, .lens, [.t 27], some (26, false)⟩,
  ⟨some 29, (.bin .eql), [.t 28, .c (.int .i64 0)], some (26, false)⟩,
  ⟨some 30, .pick, [.t 26, .c (.bool true), .t 29], none⟩]
def ingotlaw16_StatParts_r4 : List AOper := [
  ⟨some 4, .mov, [.c (.bool true)], none⟩]
def ingotlaw16_StatParts_r5 : List AOper := [
  ⟨some 32, (.call f_ingotlaw16_longs), [.c (.slc 0 [] true)], none⟩,
  ⟨some 31, .mov, [.t 32], none⟩,
  ⟨some 33, (.ext 0), [.t 31], none⟩,
  ⟨some 34, (.ext 1), [.t 31], none⟩,
  ⟨some 6, (.alloc (.agg [(.slc 0 [] true), (.slc 0 [] true), (.slc 0 [] true), (.slc 0 [] true), (.slc 0 [] true)])), [], none⟩,
  ⟨some 5, .mov, [.t 33], none⟩,
  ⟨none, (.store 5), [.t 6, .t 34], none⟩]
def ingotlaw16_StatParts_r6 : List AOper := [
  ⟨some 35, .mov, [.t 5], none⟩,
  ⟨some 36, .lens, [.t 35], none⟩,
  ⟨some 37, (.bin .neq), [.t 36, .c (.int .i64 2)], none⟩]
def ingotlaw16_StatParts_r7 : List AOper := [
  ⟨some 4, .mov, [.c (.bool false)], none⟩]
def ingotlaw16_StatParts_r8 : List AOper := [
  ⟨some 38, .mov, [.t 5], none⟩,
  ⟨some 39, (.iad 8), [.t 38, .c (.int .i64 1)], none⟩,
  ⟨some 40, (.load true 8), [.t 39], none⟩,
  ⟨some 41, (.call f_stat_Empty), [.t 40], none⟩,
  ⟨some 7, (.alloc (.agg [(.int .i64 0), (.bool false), (.bool false), (.bool false), (.int .i64 0), (.int .i64 0), (.slc 0 [] true), (.slc 0 [] true), (.bool false), (.int .i64 0), (.int .i64 0), (.slc 0 [] true), (.slc 0 [] true), (.bool false), (.int .i64 0)])), [], none⟩,
  ⟨none, (.store 15), [.t 7, .t 41], none⟩]
def ingotlaw16_StatParts_r9 : List AOper := [
  ⟨some 8, .mov, [.c (.int .i64 0)], none⟩]
def ingotlaw16_StatParts_r10 : List AOper := [
  ⟨some 9, .mov, [.c (.int .i64 0)], none⟩]
def ingotlaw16_StatParts_r11 : List AOper := [
  ⟨some 42, .mov, [.t 9], none⟩,
  ⟨some 43, .mov, [.t 1], none⟩,
  ⟨some 44, .lens, [.t 43], none⟩,
  ⟨some 45, (.bin .leq), [.t 42, .t 44], none⟩]
def ingotlaw16_StatParts_r12 : List AOper := [
  ⟨some 48, .mov, [.t 0], none⟩,
  ⟨some 49, .lens, [.t 48], none⟩,
  ⟨some 10, .mov, [.t 49], none⟩]
def ingotlaw16_StatParts_r13 : List AOper := [
  ⟨some 50, .mov, [.t 9], none⟩,
  ⟨some 51, .mov, [.t 1], none⟩,
  ⟨some 52, .lens, [.t 51], none⟩,
  ⟨some 53, (.bin .lss), [.t 50, .t 52], none⟩,
  ⟨some 54, .mov, [.t 53], none⟩,
  ⟨some 55, .mov, [.t 1], some (54, true)⟩,
  ⟨some 56, .mov, [.t 9], some (54, true)⟩,
  ⟨some 57, (.iad 1), [.t 55, .t 56], some (54, true)⟩,
  ⟨some 58, (.load false 1), [.t 57], some (54, true)⟩,
  ⟨some 59, (.bin .and), [.t 58, .c (.int .u8 7)], some (54, true)⟩,
  ⟨some 60, (.conv .i64), [.t 59], some (54, true)⟩,
  ⟨some 61, .mov, [.t 0], some (54, true)⟩,
  ⟨some 62, .lens, [.t 61], some (54, true)⟩,
  ⟨some 63, .mov, [.t 8], some (54, true)⟩,
  ⟨some 64, (.bin .sub), [.t 62, .t 63], some (54, true)⟩,
  ⟨some 65, (.bin .lss), [.t 60, .t 64], some (54, true)⟩,
  ⟨some 66, .pick, [.t 54, .t 65, .c (.bool false)], none⟩]
def ingotlaw16_StatParts_r14 : List AOper := [
  ⟨some 67, .mov, [.t 8], none⟩,
  ⟨some 68, .mov, [.t 1], none⟩,
  ⟨some 69, .mov, [.t 9], none⟩,
  ⟨some 70, (.iad 1), [.t 68, .t 69], none⟩,
  ⟨some 71, (.load false 1), [.t 70], none⟩,
  ⟨some 72, (.bin .and), [.t 71, .c (.int .u8 7)], none⟩,
  ⟨some 73, (.conv .i64), [.t 72], none⟩,
  ⟨some 74, (.bin .add), [.t 67, .t 73], none⟩,
  ⟨some 10, .mov, [.t 74], none⟩]
def ingotlaw16_StatParts_r15 : List AOper := [
  ⟨some 76, .mov, [.t 0], none⟩,
  ⟨some 77, .mov, [.t 8], none⟩,
  ⟨some 78, .mov, [.t 10], none⟩,
  ⟨some 79, (.slc 1 true true false), [.t 76, .t 77, .t 78], none⟩,
  ⟨some 80, (.call f_ingotlaw16_longs), [.t 79], none⟩,
  ⟨some 75, .mov, [.t 80], none⟩,
  ⟨some 81, (.ext 0), [.t 75], none⟩,
  ⟨some 82, (.ext 1), [.t 75], none⟩,
  ⟨some 12, (.alloc (.agg [(.slc 0 [] true), (.slc 0 [] true), (.slc 0 [] true), (.slc 0 [] true), (.slc 0 [] true)])), [], none⟩,
  ⟨some 11, .mov, [.t 81], none⟩,
  ⟨none, (.store 5), [.t 12, .t 82], none⟩]
def ingotlaw16_StatParts_r16 : List AOper := [
  ⟨some 83, .mov, [.t 5], none⟩,
  ⟨some 84, (.iad 8), [.t 83, .c (.int .i64 1)], none⟩,
  ⟨some 85, (.load true 8), [.t 84], none⟩,
  ⟨some 86, (.load true 15), [.t 7], none⟩,
  ⟨some 87, .mov, [.t 5], none⟩,
  ⟨some 88, (.iad 8), [.t 87, .c (.int .i64 1)], none⟩,
  ⟨some 89, (.load true 8), [.t 88], none⟩,
  ⟨some 90, (.load true 5), [.t 12], none⟩,
  ⟨some 91, (.callp f_ingotlaw15_To), [.t 90], none⟩,
  ⟨some 92, (.callp f_stat_Of), [.t 89, .t 91], none⟩,
  ⟨some 93, (.call f_stat_Merge), [.t 85, .t 86, .t 92], none⟩,
  ⟨none, (.store 15), [.t 7, .t 93], none⟩]
def ingotlaw16_StatParts_r17 : List AOper := [
  ⟨some 94, .mov, [.t 5], none⟩,
  ⟨some 95, (.iad 8), [.t 94, .c (.int .i64 1)], none⟩,
  ⟨some 96, (.load true 8), [.t 95], none⟩,
  ⟨some 97, (.load true 15), [.t 7], none⟩,
  ⟨some 98, .mov, [.t 5], none⟩,
  ⟨some 99, (.iad 8), [.t 98, .c (.int .i64 1)], none⟩,
  ⟨some 100, (.load true 8), [.t 99], none⟩,
  ⟨some 101, (.callp f_stat_Empty), [.t 100], none⟩,
  ⟨some 102, (.call f_stat_Merge), [.t 96, .t 97, .t 101], none⟩,
  ⟨none, (.store 15), [.t 7, .t 102], none⟩]
def ingotlaw16_StatParts_r18 : List AOper := [
  ⟨some 103, .mov, [.t 10], none⟩,
  ⟨some 8, .mov, [.t 103], none⟩]
def ingotlaw16_StatParts_r19 : List AOper := [
  ⟨some 46, .mov, [.t 9], none⟩,
  ⟨some 47, (.bin .add), [.t 46, .c (.int .i64 1)], none⟩,
  ⟨some 9, .mov, [.t 47], none⟩]
def ingotlaw16_StatParts_l0 : ACode := (.seq (.seq (.region ingotlaw16_StatParts_r11 [0, 1, 5, 7, 8, 9, 45]) (.cond (.t 45) .skip (.exit 0))) (.seq (.block 1 (.seq (.region ingotlaw16_StatParts_r12 [0, 1, 5, 7, 8, 9, 10]) (.seq (.seq (.region ingotlaw16_StatParts_r13 [0, 1, 5, 7, 8, 9, 10, 66]) (.cond (.t 66) (.region ingotlaw16_StatParts_r14 [0, 1, 5, 7, 8, 9, 10]) .skip)) (.seq (.region ingotlaw16_StatParts_r15 [0, 1, 5, 7, 9, 10, 12]) (.seq (.region ingotlaw16_StatParts_r16 [0, 1, 5, 7, 9, 10]) (.seq (.region ingotlaw16_StatParts_r17 [0, 1, 5, 7, 9, 10]) (.region ingotlaw16_StatParts_r18 [0, 1, 5, 7, 8, 9]))))))) (.region ingotlaw16_StatParts_r19 [0, 1, 5, 7, 8, 9])))
def ingotlaw16_StatParts_r20 : List AOper := [
  ⟨some 104, .mov, [.t 0], none⟩,
  ⟨some 105, (.iad 1), [.t 104, .c (.int .i64 0)], none⟩,
  ⟨some 106, (.load false 1), [.t 105], none⟩,
  ⟨some 13, .mov, [.t 106], none⟩]
def ingotlaw16_StatParts_r21 : List AOper := [
  ⟨some 107, .mov, [.t 0], none⟩,
  ⟨some 108, (.iad 1), [.t 107, .c (.int .i64 0)], none⟩,
  ⟨some 109, (.load false 1), [.t 108], none⟩,
  ⟨some 14, .mov, [.t 109], none⟩]
def ingotlaw16_StatParts_r22 : List AOper := [
  ⟨some 15, .mov, [.c (.int .i64 0)], none⟩]
def ingotlaw16_StatParts_r23 : List AOper := [
  ⟨some 110, .mov, [.t 15], none⟩,
  ⟨some 111, .mov, [.t 0], none⟩,
  ⟨some 112, .lens, [.t 111], none⟩,
  ⟨some 113, (.bin .lss), [.t 110, .t 112], none⟩]
def ingotlaw16_StatParts_r24 : List AOper := [
  ⟨some 116, .mov, [.t 0], none⟩,
  ⟨some 117, .mov, [.t 15], none⟩,
  ⟨some 118, (.iad 1), [.t 116, .t 117], none⟩,
  ⟨some 119, (.load false 1), [.t 118], none⟩,
  ⟨some 120, .mov, [.t 13], none⟩,
  ⟨some 121, (.bin .lss), [.t 119, .t 120], none⟩]
def ingotlaw16_StatParts_r25 : List AOper := [
  ⟨some 122, .mov, [.t 0], none⟩,
  ⟨some 123, .mov, [.t 15], none⟩,
  ⟨some 124, (.iad 1), [.t 122, .t 123], none⟩,
  ⟨some 125, (.load false 1), [.t 124], none⟩,
  ⟨some 13, .mov, [.t 125], none⟩]
def ingotlaw16_StatParts_r26 : List AOper := [
  ⟨some 126, .mov, [.t 0], none⟩,
  ⟨some 127, .mov, [.t 15], none⟩,
  ⟨some 128, (.iad 1), [.t 126, .t 127], none⟩,
  ⟨some 129, (.load false 1), [.t 128], none⟩,
  ⟨some 130, .mov, [.t 14], none⟩,
  ⟨some 131, (.bin .gtr), [.t 129, .t 130], none⟩]
def ingotlaw16_StatParts_r27 : List AOper := [
  ⟨some 132, .mov, [.t 0], none⟩,
  ⟨some 133, .mov, [.t 15], none⟩,
  ⟨some 134, (.iad 1), [.t 132, .t 133], none⟩,
  ⟨some 135, (.load false 1), [.t 134], none⟩,
  ⟨some 14, .mov, [.t 135], none⟩]
def ingotlaw16_StatParts_r28 : List AOper := [
  ⟨some 114, .mov, [.t 15], none⟩,
  ⟨some 115, (.bin .add), [.t 114, .c (.int .i64 1)], none⟩,
  ⟨some 15, .mov, [.t 115], none⟩]
def ingotlaw16_StatParts_l1 : ACode := (.seq (.seq (.region ingotlaw16_StatParts_r23 [0, 7, 13, 14, 15, 113]) (.cond (.t 113) .skip (.exit 2))) (.seq (.block 3 (.seq (.seq (.region ingotlaw16_StatParts_r24 [0, 7, 13, 14, 15, 121]) (.cond (.t 121) (.region ingotlaw16_StatParts_r25 [0, 7, 13, 14, 15]) .skip)) (.seq (.region ingotlaw16_StatParts_r26 [0, 7, 13, 14, 15, 131]) (.cond (.t 131) (.region ingotlaw16_StatParts_r27 [0, 7, 13, 14, 15]) .skip)))) (.region ingotlaw16_StatParts_r28 [0, 7, 13, 14, 15])))
def ingotlaw16_StatParts_r29 : List AOper := [
  ⟨some 136, (.fad 0), [.t 7], none⟩,
  ⟨some 137, (.load false 1), [.t 136], none⟩,
  ⟨some 138, .mov, [.t 0], none⟩,
  ⟨some 139, .lens, [.t 138], none⟩,
  ⟨some 140, (.bin .eql), [.t 137, .t 139], none⟩,
  ⟨some 141, .mov, [.t 140], none⟩,
  ⟨some 142, (.fad 1), [.t 7], some (141, true)⟩,
  ⟨some 143, (.load false 1), [.t 142], some (141, true)⟩,
  ⟨some 144, .unot, [.t 143], some (141, true)⟩,
  ⟨some 145, .pick, [.t 141, .t 144, .c (.bool false)], none⟩,
  ⟨some 146, .mov, [.t 145], none⟩,
  ⟨some 147, (.fad 2), [.t 7], some (146, true)⟩,
  ⟨some 148, (.load false 1), [.t 147], some (146, true)⟩,
  ⟨some 149, .pick, [.t 146, .t 148, .c (.bool false)], none⟩,
  ⟨some 150, .mov, [.t 149], none⟩,
  ⟨some 151, (.fad 3), [.t 7], some (150, true)⟩,
  ⟨some 152, (.fad 1), [.t 151], some (150, true)⟩,
  ⟨some 153, (.load false 1), [.t 152], some (150, true)⟩,
  ⟨some 154, .mov, [.t 13], some (150, true)⟩,
  ⟨some 155, (.bin .eql), [.t 153, .t 154], some (150, true)⟩,
  ⟨some 156, .pick, [.t 150, .t 155, .c (.bool false)], none⟩,
  ⟨some 157, .mov, [.t 156], none⟩,
  ⟨some 158, (.fad 8), [.t 7], some (157, true)⟩,
  ⟨some 159, (.fad 1), [.t 158], some (157, true)⟩,
  ⟨some 160, (.load false 1), [.t 159], some (157, true)⟩,
  ⟨some 161, .mov, [.t 14], some (157, true)⟩,
  ⟨some 162, (.bin .eql), [.t 160, .t 161], some (157, true)⟩,
  ⟨some 163, .pick, [.t 157, .t 162, .c (.bool false)], none⟩,
  ⟨some 4, .mov, [.t 163], none⟩]
def ingotlaw16_StatParts : AFunc := ⟨164, (.seq (.region ingotlaw16_StatParts_r0 [0, 1]) (.seq (.seq (.region ingotlaw16_StatParts_r1 [0, 1, 17]) (.cond (.t 17) (.seq (.region ingotlaw16_StatParts_r2 [4]) .ret) .skip)) (.seq (.seq (.region ingotlaw16_StatParts_r3 [0, 1, 30]) (.cond (.t 30) (.seq (.region ingotlaw16_StatParts_r4 [4]) .ret) .skip)) (.seq (.region ingotlaw16_StatParts_r5 [0, 1, 5]) (.seq (.seq (.region ingotlaw16_StatParts_r6 [0, 1, 5, 37]) (.cond (.t 37) (.seq (.region ingotlaw16_StatParts_r7 [4]) .ret) .skip)) (.seq (.region ingotlaw16_StatParts_r8 [0, 1, 5, 7]) (.seq (.region ingotlaw16_StatParts_r9 [0, 1, 5, 7, 8]) (.seq (.seq (.region ingotlaw16_StatParts_r10 [0, 1, 5, 7, 8, 9]) (.block 0 (.loop ingotlaw16_StatParts_l0))) (.seq (.region ingotlaw16_StatParts_r20 [0, 7, 13]) (.seq (.region ingotlaw16_StatParts_r21 [0, 7, 13, 14]) (.seq (.seq (.region ingotlaw16_StatParts_r22 [0, 7, 13, 14, 15]) (.block 2 (.loop ingotlaw16_StatParts_l1))) (.seq (.region ingotlaw16_StatParts_r29 [4]) .ret)))))))))))), [.t 4]⟩
def ingotlaw16_known_r0 : List AOper := [
  ⟨some 0, .mov, [.c (.bool false)], none⟩]
def ingotlaw16_known_r1 : List AOper := [
  ⟨some 7, (.bsl 1), [.c (.str [97])], none⟩,
  ⟨some 8, (.bld [(.int .i64 0), (.slc 0 [] true), (.slc 0 [] true), (.int .i64 0), (.int .i64 0), (.int .i64 0)] [(0, 1)]), [.c (.int .i64 3)], none⟩,
  ⟨some 9, (.bsl 6), [.t 8], none⟩,
  ⟨some 10, (.bld [(.int .i64 0), (.slc 0 [] true), (.slc 0 [] true), (.int .i64 0), (.int .i64 0), (.int .i64 0)] [(0, 1), (1, 1), (2, 1)]), [.c (.int .i64 12), .t 7, .t 9], none⟩,
  ⟨some 1, (.alloc (.agg [(.int .i64 0), (.slc 0 [] true), (.slc 0 [] true), (.int .i64 0), (.int .i64 0), (.int .i64 0)])), [], none⟩,
  ⟨none, (.store 6), [.t 1, .t 10], none⟩]
def ingotlaw16_known_r2 : List AOper := [
  ⟨some 12, (.load true 6), [.t 1], none⟩,
  ⟨some 13, (.bld [(.bool false), (.int .i64 0), (.int .i64 0), (.slc 0 [] true), (.slc 0 [] true)] [(1, 1)]), [.c (.int .i64 5)], none⟩,
  ⟨some 14, (.bsl 5), [.t 13], none⟩,
  ⟨some 15, (.bld [(.bool false), (.int .i64 0), (.int .i64 0), (.slc 0 [] true), (.slc 0 [] true)] [(4, 1)]), [.t 14], none⟩,
  ⟨some 16, (.bld [(.bool false), (.int .i64 0), (.int .i64 0), (.slc 0 [] true), (.slc 0 [] true)] [(0, 1)]), [.c (.bool true)], none⟩,
  ⟨some 17, (.bsl 5), [.t 16], none⟩,
  ⟨some 18, (.bld [(.bool false), (.int .i64 0), (.int .i64 0), (.slc 0 [] true), (.slc 0 [] true)] [(4, 1)]), [.t 17], none⟩,
  ⟨some 19, (.bld [(.bool false), (.int .i64 0), (.int .i64 0), (.slc 0 [] true), (.slc 0 [] true)] [(1, 1)]), [.c (.int .i64 (-2))], none⟩,
  ⟨some 20, (.bsl 5), [.t 19], none⟩,
  ⟨some 21, (.bld [(.bool false), (.int .i64 0), (.int .i64 0), (.slc 0 [] true), (.slc 0 [] true)] [(4, 1)]), [.t 20], none⟩,
  ⟨some 22, (.bsl 5), [.t 15, .t 18, .t 21], none⟩,
  ⟨some 23, (.call f_ingotref15_Shred), [.t 12, .t 22], none⟩,
  ⟨some 11, .mov, [.t 23], none⟩,
  ⟨some 24, (.ext 0), [.t 11], none⟩,
  ⟨some 25, (.ext 1), [.t 11], none⟩,
  ⟨some 2, .mov, [.t 24], none⟩,
  ⟨some 3, .mov, [.t 25], none⟩]
def ingotlaw16_known_r3 : List AOper := [
  ⟨some 26, (.load true 6), [.t 1], none⟩,
  ⟨some 27, (.call f_types_Flatten), [.t 26], none⟩,
  ⟨some 4, .mov, [.t 27], none⟩]
def ingotlaw16_known_r4 : List AOper := [
  ⟨some 28, .mov, [.t 4], none⟩,
  ⟨some 29, .lens, [.t 28], none⟩,
  ⟨some 30, (.bin .neq), [.t 29, .c (.int .i64 2)], none⟩,
  ⟨some 31, .mov, [.t 30], none⟩,
  ⟨some 32, .mov, [.t 2], some (31, false)⟩,
  ⟨some 33, .lens, [.t 32], some (31, false)⟩,
  ⟨some 34, (.bin .neq), [.t 33, .c (.int .i64 2)], some (31, false)⟩,
  ⟨some 35, .pick, [.t 31, .c (.bool true), .t 34], none⟩]
def ingotlaw16_known_r5 : List AOper := [
  ⟨some 0, .mov, [.c (.bool false)], none⟩]
def ingotlaw16_known_r6 : List AOper := [
  ⟨some 36, .mov, [.t 4], none⟩,
  ⟨some 37, (.iad 8), [.t 36, .c (.int .i64 1)], none⟩,
  ⟨some 38, (.load true 8), [.t 37], none⟩,
  ⟨some 39, .mov, [.t 2], none⟩,
  ⟨some 40, (.iad 5), [.t 39, .c (.int .i64 1)], none⟩,
  ⟨some 41, (.load true 5), [.t 40], none⟩,
  ⟨some 42, (.callp f_ingotlaw15_To), [.t 41], none⟩,
  ⟨some 43, (.callp f_stat_Of), [.t 38, .t 42], none⟩,
  ⟨some 5, (.alloc (.agg [(.int .i64 0), (.bool false), (.bool false), (.bool false), (.int .i64 0), (.int .i64 0), (.slc 0 [] true), (.slc 0 [] true), (.bool false), (.int .i64 0), (.int .i64 0), (.slc 0 [] true), (.slc 0 [] true), (.bool false), (.int .i64 0)])), [], none⟩,
  ⟨none, (.store 15), [.t 5, .t 43], none⟩]
def ingotlaw16_known_r7 : List AOper := [
  ⟨some 44, .mov, [.t 4], none⟩,
  ⟨some 45, (.iad 8), [.t 44, .c (.int .i64 1)], none⟩,
  ⟨some 46, (.load true 8), [.t 45], none⟩,
  ⟨some 47, .mov, [.t 4], none⟩,
  ⟨some 48, (.iad 8), [.t 47, .c (.int .i64 1)], none⟩,
  ⟨some 49, (.load true 8), [.t 48], none⟩,
  ⟨some 50, (.callp f_stat_Empty), [.t 49], none⟩,
  ⟨some 51, (.load true 15), [.t 5], none⟩,
  ⟨some 52, (.callp f_stat_Merge), [.t 46, .t 50, .t 51], none⟩,
  ⟨some 6, (.alloc (.agg [(.int .i64 0), (.bool false), (.bool false), (.bool false), (.int .i64 0), (.int .i64 0), (.slc 0 [] true), (.slc 0 [] true), (.bool false), (.int .i64 0), (.int .i64 0), (.slc 0 [] true), (.slc 0 [] true), (.bool false), (.int .i64 0)])), [], none⟩,
  ⟨none, (.store 15), [.t 6, .t 52], none⟩]
def ingotlaw16_known_r8 : List AOper := [
  ⟨some 53, (.fad 0), [.t 5], none⟩,
  ⟨some 54, (.load false 1), [.t 53], none⟩,
  ⟨some 55, (.bin .eql), [.t 54, .c (.int .i64 2)], none⟩,
  ⟨some 56, .mov, [.t 55], none⟩,
  ⟨some 57, (.fad 1), [.t 5], some (56, true)⟩,
  ⟨some 58, (.load false 1), [.t 57], some (56, true)⟩,
  ⟨some 59, .pick, [.t 56, .t 58, .c (.bool false)], none⟩,
  ⟨some 60, .mov, [.t 59], none⟩,
  ⟨some 61, (.fad 2), [.t 5], some (60, true)⟩,
  ⟨some 62, (.load false 1), [.t 61], some (60, true)⟩,
  ⟨some 63, .pick, [.t 60, .t 62, .c (.bool false)], none⟩,
  ⟨some 64, .mov, [.t 63], none⟩,
  ⟨some 65, (.fad 3), [.t 5], some (64, true)⟩,
  ⟨some 66, (.fad 1), [.t 65], some (64, true)⟩,
  ⟨some 67, (.load false 1), [.t 66], some (64, true)⟩,
  ⟨some 68, (.bin .eql), [.t 67, .c (.int .i64 (-2))], some (64, true)⟩,
  ⟨some 69, .pick, [.t 64, .t 68, .c (.bool false)], none⟩,
  ⟨some 70, .mov, [.t 69], none⟩,
  ⟨some 71, (.fad 8), [.t 5], some (70, true)⟩,
  ⟨some 72, (.fad 1), [.t 71], some (70, true)⟩,
  ⟨some 73, (.load false 1), [.t 72], some (70, true)⟩,
  ⟨some 74, (.bin .eql), [.t 73, .c (.int .i64 5)], some (70, true)⟩,
  ⟨some 75, .pick, [.t 70, .t 74, .c (.bool false)], none⟩,
  ⟨some 76, .mov, [.t 75], none⟩,
  ⟨some 77, (.fad 13), [.t 5], some (76, true)⟩,
  ⟨some 78, (.load false 1), [.t 77], some (76, true)⟩,
  ⟨some 79, .pick, [.t 76, .t 78, .c (.bool false)], none⟩,
  ⟨some 80, .mov, [.t 79], none⟩,
  ⟨some 81, (.fad 14), [.t 5], some (80, true)⟩,
  ⟨some 82, (.load false 1), [.t 81], some (80, true)⟩,
  ⟨some 83, (.bin .eql), [.t 82, .c (.int .i64 3)], some (80, true)⟩,
  ⟨some 84, .pick, [.t 80, .t 83, .c (.bool false)], none⟩,
  ⟨some 85, .mov, [.t 84], none⟩,
  ⟨some 86, (.load true 15), [.t 6], some (85, true)⟩,
  ⟨some 87, (.load true 15), [.t 5], some (85, true)⟩,
  ⟨some 88, (.call f_stat_Same), [.t 86, .t 87], some (85, true)⟩,
  ⟨some 89, .pick, [.t 85, .t 88, .c (.bool false)], none⟩,
  ⟨some 90, .mov, [.t 89], none⟩,
  ⟨some 91, .mov, [.t 4], some (90, true)⟩,
  ⟨some 92, (.iad 8), [.t 91, .c (.int .i64 1)], some (90, true)⟩,
  ⟨some 93, (.load true 8), [.t 92], some (90, true)⟩,
  ⟨some 94, (.call f_stat_Empty), [.t 93], some (90, true)⟩,
  ⟨some 95, (.fld false 13 1), [.t 94], some (90, true)⟩,
  ⟨some 96, .pick, [.t 90, .t 95, .c (.bool false)], none⟩,
  ⟨some 97, .mov, [.t 96], none⟩,
  ⟨some 98, .mov, [.t 4], some (97, true)⟩,
  ⟨some 99, (.iad 8), [.t 98, .c (.int .i64 0)], some (97, true)⟩,
  ⟨some 100, (.load true 8), [.t 99], some (97, true)⟩,
  ⟨some 101, (.call f_stat_Empty), [.t 100], some (97, true)⟩,
  ⟨some 102, (.fld false 13 1), [.t 101], some (97, true)⟩,
  ⟨some 103, .unot, [.t 102], some (97, true)⟩,
  ⟨some 104, .pick, [.t 97, .t 103, .c (.bool false)], none⟩,
  ⟨some 0, .mov, [.t 104], none⟩]
def ingotlaw16_known : AFunc := ⟨105, (.seq (.region ingotlaw16_known_r0 []) (.seq (.region ingotlaw16_known_r1 [1]) (.seq (.region ingotlaw16_known_r2 [1, 2]) (.seq (.region ingotlaw16_known_r3 [2, 4]) (.seq (.seq (.region ingotlaw16_known_r4 [2, 4, 35]) (.cond (.t 35) (.seq (.region ingotlaw16_known_r5 [0]) .ret) .skip)) (.seq (.region ingotlaw16_known_r6 [4, 5]) (.seq (.region ingotlaw16_known_r7 [4, 5, 6]) (.seq (.region ingotlaw16_known_r8 [0]) .ret)))))))), [.t 0]⟩
def ingotlaw16_longs_r0 : List AOper := [
  ⟨some 2, .mov, [.c (.slc 0 [] true)], none⟩,
  ⟨some 3, (.alloc (.agg [(.slc 0 [] true), (.slc 0 [] true), (.slc 0 [] true), (.slc 0 [] true), (.slc 0 [] true)])), [], none⟩]
def ingotlaw16_longs_r1 : List AOper := [
  ⟨some 7, (.bsl 1), [.c (.str [97])], none⟩,
  ⟨some 8, (.bld [(.int .i64 0), (.slc 0 [] true), (.slc 0 [] true), (.int .i64 0), (.int .i64 0), (.int .i64 0)] [(0, 1)]), [.c (.int .i64 4)], none⟩,
  ⟨some 9, (.bsl 6), [.t 8], none⟩,
  ⟨some 10, (.bld [(.int .i64 0), (.slc 0 [] true), (.slc 0 [] true), (.int .i64 0), (.int .i64 0), (.int .i64 0)] [(0, 1), (1, 1), (2, 1)]), [.c (.int .i64 12), .t 7, .t 9], none⟩,
  ⟨some 4, (.alloc (.agg [(.int .i64 0), (.slc 0 [] true), (.slc 0 [] true), (.int .i64 0), (.int .i64 0), (.int .i64 0)])), [], none⟩,
  ⟨none, (.store 6), [.t 4, .t 10], none⟩]
def ingotlaw16_longs_r2 : List AOper := [
  ⟨some 11, .mov, [.t 0], none⟩,
  ⟨some 12, (.bld [(.slc 0 [] true), (.slc 0 [] true), (.slc 0 [] true), (.slc 0 [] true), (.slc 0 [] true)] [(1, 1)]), [.t 11], none⟩,
  ⟨some 5, (.alloc (.agg [(.slc 0 [] true), (.slc 0 [] true), (.slc 0 [] true), (.slc 0 [] true), (.slc 0 [] true)])), [], none⟩,
  ⟨none, (.store 5), [.t 5, .t 12], none⟩]
def ingotlaw16_longs_r3 : List AOper := [
  ⟨some 6, .mov, [.c (.int .i64 0)], none⟩]
def ingotlaw16_longs_r4 : List AOper := [
  ⟨some 13, .mov, [.t 6], none⟩,
  ⟨some 14, .mov, [.t 0], none⟩,
  ⟨some 15, .lens, [.t 14], none⟩,
  ⟨some 16, (.bin .lss), [.t 13, .t 15], none⟩]
def ingotlaw16_longs_r5 : List AOper := [
  ⟨some 19, (.fad 0), [.t 5], none⟩,
  ⟨some 20, (.load false 1), [.t 19], none⟩,
  ⟨some 21, (.bsl 1), [.c (.bool true)], none⟩,
  ⟨some 22, (.app 1 1), [.t 20, .t 21], none⟩,
  ⟨some 23, (.fad 0), [.t 5], none⟩,
  ⟨none, (.store 1), [.t 23, .t 22], none⟩]
def ingotlaw16_longs_r6 : List AOper := [
  ⟨some 17, .mov, [.t 6], none⟩,
  ⟨some 18, (.bin .add), [.t 17, .c (.int .i64 1)], none⟩,
  ⟨some 6, .mov, [.t 18], none⟩]
def ingotlaw16_longs_l0 : ACode := (.seq (.seq (.region ingotlaw16_longs_r4 [0, 3, 4, 5, 6, 16]) (.cond (.t 16) .skip (.exit 0))) (.seq (.block 1 (.region ingotlaw16_longs_r5 [0, 3, 4, 5, 6])) (.region ingotlaw16_longs_r6 [0, 3, 4, 5, 6])))
def ingotlaw16_longs_r7 : List AOper := [
  ⟨some 24, (.load true 6), [.t 4], none⟩,
  ⟨some 25, (.callp f_types_Flatten), [.t 24], none⟩,
  ⟨some 26, (.load true 5), [.t 5], none⟩,
  ⟨some 2, .mov, [.t 25], none⟩,
  ⟨none, (.store 5), [.t 3, .t 26], none⟩]
def ingotlaw16_longs : AFunc := ⟨27, (.seq (.region ingotlaw16_longs_r0 [0, 3]) (.seq (.region ingotlaw16_longs_r1 [0, 3, 4]) (.seq (.region ingotlaw16_longs_r2 [0, 3, 4, 5]) (.seq (.seq (.region ingotlaw16_longs_r3 [0, 3, 4, 5, 6]) (.block 0 (.loop ingotlaw16_longs_l0))) (.seq (.region ingotlaw16_longs_r7 [2, 3]) .ret))))), [.t 2, .cell 3 true 5]⟩
end Go.Abs
namespace Go.Abs
open Go Go.Proofs
theorem ingotlaw16_StatSums_ok : compF Try.prog [(8, 5), (8, 4)] f_ingotlaw16_StatSums = some ingotlaw16_StatSums.erase := by kernel_rfl
theorem ingotlaw16_StatParts_ok : compF Try.prog [(18, 7), (17, 9), (17, 8)] f_ingotlaw16_StatParts = some ingotlaw16_StatParts.erase := by kernel_rfl
theorem ingotlaw16_known_ok : compF Try.prog [(7, 8), (7, 6), (6, 7), (6, 6)] f_ingotlaw16_known = some ingotlaw16_known.erase := by kernel_rfl
theorem ingotlaw16_longs_ok : compF Try.prog [(7, 1)] f_ingotlaw16_longs = some ingotlaw16_longs.erase := by kernel_rfl
end Go.Abs
/- Contracts: law 16's known, longs. -/
namespace Go.Abs
open Go Go.Proofs
set_option linter.unusedVariables false
set_option linter.unusedSimpArgs false
set_option maxHeartbeats 4000000
attribute [local irreducible] AWp aops KP

/-- A struct of one field. -/
def tA (k : Int) : Ty := .mk 12 [[97]] [.mk k [] [] 0 0 0] 0 0 0
def vA (i : Int) : Vl := .mk false 0 0 [] [.mk false i 0 [] []]
def vN : Vl := .mk false 0 0 [] [.mk true 0 0 [] []]
def rows16 : List Vl := [vA 5, vN, vA (-2)]
theorem check_tA : checkF (tA 3) = 0 := by decide
theorem flatten_tA : flattenF (tA 3) = [⟨tA 3, [1], -1, 1⟩, ⟨.mk 3 [] [] 0 0 0, [], 0, 2⟩] := by rfl
theorem flatten_tA4 : flattenF (tA 4) = [⟨tA 4, [1], -1, 1⟩, ⟨.mk 4 [] [] 0 0 0, [], 0, 2⟩] := by rfl
theorem shred16 : shredF (tA 3) rows16 = ([⟨[true, true, true], [], [], [], []⟩, ⟨[true, false, true], [5, -2], [], [], []⟩], 0) := by rfl

theorem tA_Fit (k : Int) : (tA k).Fit := by
  refine .mk (by simp [tA, Ty.kids]) (by simp [tA, Ty.names]) (by simp [tA, Ty.names, maxLen]) fun u hu => ?_
  simp only [tA, Ty.kids, List.mem_singleton] at hu
  subst hu
  exact .mk (by simp [Ty.kids]) (by simp [Ty.names]) (by simp [Ty.names]) (by simp [Ty.kids])
theorem vI_Fit (nu : Bool) (i : Int) (h : -9223372036854775808 ≤ i ∧ i ≤ 9223372036854775807) : (Vl.mk nu i 0 [] []).Fit := .mk h (by simp [Vl.b]) (by simp [Vl.kids]) (by simp [Vl.kids])
theorem v1_Fit (v : Vl) (h : v.Fit) : (Vl.mk false 0 0 [] [v]).Fit := .mk (by simp [Vl.i]) (by simp [Vl.b]) (by simp [Vl.kids]) (by simpa [Vl.kids] using h)
theorem rows16_Fit : ∀ v ∈ rows16, v.Fit := by
  intro v hv
  simp only [rows16, List.mem_cons, List.not_mem_nil, or_false] at hv
  rcases hv with rfl | rfl | rfl
  · exact v1_Fit _ (vI_Fit _ _ (by omega))
  · exact v1_Fit _ (vI_Fit _ _ (by omega))
  · exact v1_Fit _ (vI_Fit _ _ (by omega))

def col16 : Col := ⟨[true, false, true], [5, -2], [], [], []⟩
def st16 : Stt := ⟨2, true, true, .mk false (-2) 0 [] [], .mk false 5 0 [] [], true, 3⟩
theorem of16 : ofF 3 col16 = st16 := by rfl
theorem empty3 : ofF 3 ⟨[], [], [], [], []⟩ = ⟨0, false, false, vl0, vl0, true, 0⟩ := by rfl
theorem empty12 : ofF 12 ⟨[], [], [], [], []⟩ = ⟨0, false, false, vl0, vl0, false, 0⟩ := by rfl
theorem merge16 : mergeF 3 ⟨0, false, false, vl0, vl0, true, 0⟩ st16 = st16 := by rfl

theorem vl_Cl (i : Int) : (Vl.mk false i 0 [] []).Cl := .mk (by simp [Vl.b]) (by simp [Vl.kids]) (by simp [Vl.kids])
theorem empty_Fit (su : Bool) : (Stt.mk 0 false false vl0 vl0 su 0).Fit := ⟨vl_Cl 0, vl_Cl 0, by simp⟩
theorem st16_Fit : st16.Fit := ⟨vl_Cl _, vl_Cl _, by simp [st16]⟩

theorem c_known16 (σ : AHeap) : ACalls Try.prog f_ingotlaw16_known [] σ fun r σ' => r = .bool true := by
  refine acalls_enter rfl ingotlaw16_known_ok (Nat.le_of_ble_eq_true rfl) ?_
  (repeat (first | refine st_q rfl rfl rfl ?_ | refine st_gy rfl (st_q rfl rfl rfl ?_) | refine st_ldp rfl hget_head rfl rfl ?_ | refine st_gy rfl (st_ldp rfl hget_head rfl rfl ?_) | refine st_b2s rfl rfl ?_ | refine st_gy rfl (st_b2s rfl rfl ?_) | refine st_gn rfl ?_ | refine st_gu rfl ?_ | (refine st_nil ?_; (repeat (first | refine kp_cons rfl ?_ | refine kp_skip ?_)); refine kp_nil ?_) | refine awp_seq ?_ | refine aw_end (fun _ _ => rfl) ?_ | refine awp_block ?_ | refine aw_skipE (fun _ _ => rfl) ?_ | refine aw_exitE (fun _ _ => rfl) ?_ | refine awp_cond (t := true) rfl (fun _ => ?_) (fun e => by cases e) | refine awp_cond (t := false) rfl (fun e => by cases e) (fun _ => ?_)))
  refine st_alloc (by simp [AVal.cells, AVal.one]) fun b1 hb1 => ?_
  (first | refine st_store rfl hget_head rfl (by decide) (AVal.fit_iff.1 rfl) (fun h => by cases h) hset_head ?_ | refine st_gy rfl (st_store rfl hget_head rfl (by decide) (AVal.fit_iff.1 rfl) (fun h => by cases h) hset_head ?_))
  (refine st_nil ?_; (repeat (first | refine kp_cons rfl ?_ | refine kp_skip ?_)); refine kp_nil ?_)
  refine awp_hshift (HShift.view (ys := [.agg (cellsT (tA 3))]) rfl rfl (by (repeat (first | exact VRle.refl _ | exact vle_nil | refine vle_slc rfl rfl ?_ | refine vle_agg rfl ?_ | refine vle_cons ?_ ?_)))) ?_
  refine awp_freezeP (d := 1) (cs := cellsT (tA 3)) rfl ?_
  have hS := c_Shred (tA 3) (tA_Fit 3) rows16 rows16_Fit (by simp [rows16])
  rw [shred16, encT_eq] at hS
  have hFl := c_Flatten (tA 3) (tA_Fit 3)
  rw [flatten_tA, encT_eq] at hFl
  (repeat (first | refine st_q rfl rfl rfl ?_ | refine st_gy rfl (st_q rfl rfl rfl ?_) | refine st_ldp rfl hget_head rfl rfl ?_ | refine st_gy rfl (st_ldp rfl hget_head rfl rfl ?_) | refine st_b2s rfl rfl ?_ | refine st_gy rfl (st_b2s rfl rfl ?_) | refine st_gn rfl ?_ | refine st_gu rfl ?_ | (refine st_nil ?_; (repeat (first | refine kp_cons rfl ?_ | refine kp_skip ?_)); refine kp_nil ?_) | refine awp_seq ?_ | refine aw_end (fun _ _ => rfl) ?_ | refine awp_block ?_ | refine aw_skipE (fun _ _ => rfl) ?_ | refine aw_exitE (fun _ _ => rfl) ?_ | refine awp_cond (t := true) rfl (fun _ => ?_) (fun e => by cases e) | refine awp_cond (t := false) rfl (fun e => by cases e) (fun _ => ?_)))
  refine st_callv rfl (ACalls.args (by (repeat (first | exact VRle.refl _ | exact vle_nil | refine vle_slc rfl rfl ?_ | refine vle_agg rfl ?_ | refine vle_cons ?_ ?_))) (hS _)) ?_
  (repeat (first | refine st_q rfl rfl rfl ?_ | refine st_gy rfl (st_q rfl rfl rfl ?_) | refine st_ldp rfl hget_head rfl rfl ?_ | refine st_gy rfl (st_ldp rfl hget_head rfl rfl ?_) | refine st_b2s rfl rfl ?_ | refine st_gy rfl (st_b2s rfl rfl ?_) | refine st_gn rfl ?_ | refine st_gu rfl ?_ | (refine st_nil ?_; (repeat (first | refine kp_cons rfl ?_ | refine kp_skip ?_)); refine kp_nil ?_) | refine awp_seq ?_ | refine aw_end (fun _ _ => rfl) ?_ | refine awp_block ?_ | refine aw_skipE (fun _ _ => rfl) ?_ | refine aw_exitE (fun _ _ => rfl) ?_ | refine awp_cond (t := true) rfl (fun _ => ?_) (fun e => by cases e) | refine awp_cond (t := false) rfl (fun e => by cases e) (fun _ => ?_)))
  (first | refine st_callv rfl (hFl _) ?_ | refine st_gy rfl (st_callv rfl (hFl _) ?_) | refine st_callp rfl hFl ?_ | refine st_gy rfl (st_callp rfl hFl ?_))
  (repeat (first | refine st_q rfl rfl rfl ?_ | refine st_gy rfl (st_q rfl rfl rfl ?_) | refine st_ldp rfl hget_head rfl rfl ?_ | refine st_gy rfl (st_ldp rfl hget_head rfl rfl ?_) | refine st_b2s rfl rfl ?_ | refine st_gy rfl (st_b2s rfl rfl ?_) | refine st_gn rfl ?_ | refine st_gu rfl ?_ | (refine st_nil ?_; (repeat (first | refine kp_cons rfl ?_ | refine kp_skip ?_)); refine kp_nil ?_) | refine awp_seq ?_ | refine aw_end (fun _ _ => rfl) ?_ | refine awp_block ?_ | refine aw_skipE (fun _ _ => rfl) ?_ | refine aw_exitE (fun _ _ => rfl) ?_ | refine awp_cond (t := true) rfl (fun _ => ?_) (fun e => by cases e) | refine awp_cond (t := false) rfl (fun e => by cases e) (fun _ => ?_)))
  (first | refine st_callv rfl ((c_To15 col16) _) ?_ | refine st_gy rfl (st_callv rfl ((c_To15 col16) _) ?_) | refine st_callp rfl (c_To15 col16) ?_ | refine st_gy rfl (st_callp rfl (c_To15 col16) ?_))
  (first | refine st_callv rfl ((c_Of 3 (cellsN ⟨.mk 3 [] [] 0 0 0, [], 0, 2⟩) rfl rfl (by simp [cellsN, AVal.one]) col16 ⟨by simp [col16], by simp [col16], by simp [col16], by simp [col16], by simp [col16], by simp [col16], by simp [col16]⟩) _) ?_ | refine st_gy rfl (st_callv rfl ((c_Of 3 (cellsN ⟨.mk 3 [] [] 0 0 0, [], 0, 2⟩) rfl rfl (by simp [cellsN, AVal.one]) col16 ⟨by simp [col16], by simp [col16], by simp [col16], by simp [col16], by simp [col16], by simp [col16], by simp [col16]⟩) _) ?_) | refine st_callp rfl (c_Of 3 (cellsN ⟨.mk 3 [] [] 0 0 0, [], 0, 2⟩) rfl rfl (by simp [cellsN, AVal.one]) col16 ⟨by simp [col16], by simp [col16], by simp [col16], by simp [col16], by simp [col16], by simp [col16], by simp [col16]⟩) ?_ | refine st_gy rfl (st_callp rfl (c_Of 3 (cellsN ⟨.mk 3 [] [] 0 0 0, [], 0, 2⟩) rfl rfl (by simp [cellsN, AVal.one]) col16 ⟨by simp [col16], by simp [col16], by simp [col16], by simp [col16], by simp [col16], by simp [col16], by simp [col16]⟩) ?_))
  rw [of16]
  refine st_alloc (by simp [AVal.cells, AVal.one]) fun b5 hb5 => ?_
  (first | refine st_store rfl hget_head rfl (by decide) (AVal.fit_iff.1 rfl) (fun h => by cases h) hset_head ?_ | refine st_gy rfl (st_store rfl hget_head rfl (by decide) (AVal.fit_iff.1 rfl) (fun h => by cases h) hset_head ?_))
  (refine st_nil ?_; (repeat (first | refine kp_cons rfl ?_ | refine kp_skip ?_)); refine kp_nil ?_)
  refine awp_freezeP (d := 5) (cs := cellsS st16) rfl ?_
  have hE := c_Empty 3 (cellsN ⟨.mk 3 [] [] 0 0 0, [], 0, 2⟩) rfl rfl (by simp [cellsN, AVal.one])
  rw [empty3] at hE
  have hE0 := c_Empty 12 (cellsN ⟨tA 3, [1], -1, 1⟩) rfl rfl (by simp [cellsN, AVal.one])
  rw [empty12] at hE0
  have hM := c_Merge 3 (cellsN ⟨.mk 3 [] [] 0 0 0, [], 0, 2⟩) rfl rfl (by simp [cellsN, AVal.one]) _ st16 (empty_Fit true) st16_Fit
  rw [merge16] at hM
  (repeat (first | refine st_q rfl rfl rfl ?_ | refine st_gy rfl (st_q rfl rfl rfl ?_) | refine st_ldp rfl hget_head rfl rfl ?_ | refine st_gy rfl (st_ldp rfl hget_head rfl rfl ?_) | refine st_b2s rfl rfl ?_ | refine st_gy rfl (st_b2s rfl rfl ?_) | refine st_gn rfl ?_ | refine st_gu rfl ?_ | (refine st_nil ?_; (repeat (first | refine kp_cons rfl ?_ | refine kp_skip ?_)); refine kp_nil ?_) | refine awp_seq ?_ | refine aw_end (fun _ _ => rfl) ?_ | refine awp_block ?_ | refine aw_skipE (fun _ _ => rfl) ?_ | refine aw_exitE (fun _ _ => rfl) ?_ | refine awp_cond (t := true) rfl (fun _ => ?_) (fun e => by cases e) | refine awp_cond (t := false) rfl (fun e => by cases e) (fun _ => ?_)))
  (first | refine st_callv rfl (hE _) ?_ | refine st_gy rfl (st_callv rfl (hE _) ?_) | refine st_callp rfl hE ?_ | refine st_gy rfl (st_callp rfl hE ?_))
  (repeat (first | refine st_q rfl rfl rfl ?_ | refine st_gy rfl (st_q rfl rfl rfl ?_) | refine st_ldp rfl hget_head rfl rfl ?_ | refine st_gy rfl (st_ldp rfl hget_head rfl rfl ?_) | refine st_b2s rfl rfl ?_ | refine st_gy rfl (st_b2s rfl rfl ?_) | refine st_gn rfl ?_ | refine st_gu rfl ?_ | (refine st_nil ?_; (repeat (first | refine kp_cons rfl ?_ | refine kp_skip ?_)); refine kp_nil ?_) | refine awp_seq ?_ | refine aw_end (fun _ _ => rfl) ?_ | refine awp_block ?_ | refine aw_skipE (fun _ _ => rfl) ?_ | refine aw_exitE (fun _ _ => rfl) ?_ | refine awp_cond (t := true) rfl (fun _ => ?_) (fun e => by cases e) | refine awp_cond (t := false) rfl (fun e => by cases e) (fun _ => ?_)))
  (first | refine st_callv rfl (hM _) ?_ | refine st_gy rfl (st_callv rfl (hM _) ?_) | refine st_callp rfl hM ?_ | refine st_gy rfl (st_callp rfl hM ?_))
  refine st_alloc (by simp [AVal.cells, AVal.one]) fun b6 hb6 => ?_
  (first | refine st_store rfl hget_head rfl (by decide) (AVal.fit_iff.1 rfl) (fun h => by cases h) hset_head ?_ | refine st_gy rfl (st_store rfl hget_head rfl (by decide) (AVal.fit_iff.1 rfl) (fun h => by cases h) hset_head ?_))
  (refine st_nil ?_; (repeat (first | refine kp_cons rfl ?_ | refine kp_skip ?_)); refine kp_nil ?_)
  refine awp_freezeP (d := 6) (cs := cellsS st16) rfl ?_
  (repeat (first | refine st_q rfl rfl rfl ?_ | refine st_gy rfl (st_q rfl rfl rfl ?_) | refine st_ldp rfl hget_head rfl rfl ?_ | refine st_gy rfl (st_ldp rfl hget_head rfl rfl ?_) | refine st_b2s rfl rfl ?_ | refine st_gy rfl (st_b2s rfl rfl ?_) | refine st_gn rfl ?_ | refine st_gu rfl ?_ | (refine st_nil ?_; (repeat (first | refine kp_cons rfl ?_ | refine kp_skip ?_)); refine kp_nil ?_) | refine awp_seq ?_ | refine aw_end (fun _ _ => rfl) ?_ | refine awp_block ?_ | refine aw_skipE (fun _ _ => rfl) ?_ | refine aw_exitE (fun _ _ => rfl) ?_ | refine awp_cond (t := true) rfl (fun _ => ?_) (fun e => by cases e) | refine awp_cond (t := false) rfl (fun e => by cases e) (fun _ => ?_)))
  (first | refine st_callv rfl ((c_Same st16 st16 st16_Fit st16_Fit) _) ?_ | refine st_gy rfl (st_callv rfl ((c_Same st16 st16 st16_Fit st16_Fit) _) ?_) | refine st_callp rfl (c_Same st16 st16 st16_Fit st16_Fit) ?_ | refine st_gy rfl (st_callp rfl (c_Same st16 st16 st16_Fit st16_Fit) ?_))
  (repeat (first | refine st_q rfl rfl rfl ?_ | refine st_gy rfl (st_q rfl rfl rfl ?_) | refine st_ldp rfl hget_head rfl rfl ?_ | refine st_gy rfl (st_ldp rfl hget_head rfl rfl ?_) | refine st_b2s rfl rfl ?_ | refine st_gy rfl (st_b2s rfl rfl ?_) | refine st_gn rfl ?_ | refine st_gu rfl ?_ | (refine st_nil ?_; (repeat (first | refine kp_cons rfl ?_ | refine kp_skip ?_)); refine kp_nil ?_) | refine awp_seq ?_ | refine aw_end (fun _ _ => rfl) ?_ | refine awp_block ?_ | refine aw_skipE (fun _ _ => rfl) ?_ | refine aw_exitE (fun _ _ => rfl) ?_ | refine awp_cond (t := true) rfl (fun _ => ?_) (fun e => by cases e) | refine awp_cond (t := false) rfl (fun e => by cases e) (fun _ => ?_)))
  (first | refine st_callv rfl (hE _) ?_ | refine st_gy rfl (st_callv rfl (hE _) ?_) | refine st_callp rfl hE ?_ | refine st_gy rfl (st_callp rfl hE ?_))
  (repeat (first | refine st_q rfl rfl rfl ?_ | refine st_gy rfl (st_q rfl rfl rfl ?_) | refine st_ldp rfl hget_head rfl rfl ?_ | refine st_gy rfl (st_ldp rfl hget_head rfl rfl ?_) | refine st_b2s rfl rfl ?_ | refine st_gy rfl (st_b2s rfl rfl ?_) | refine st_gn rfl ?_ | refine st_gu rfl ?_ | (refine st_nil ?_; (repeat (first | refine kp_cons rfl ?_ | refine kp_skip ?_)); refine kp_nil ?_) | refine awp_seq ?_ | refine aw_end (fun _ _ => rfl) ?_ | refine awp_block ?_ | refine aw_skipE (fun _ _ => rfl) ?_ | refine aw_exitE (fun _ _ => rfl) ?_ | refine awp_cond (t := true) rfl (fun _ => ?_) (fun e => by cases e) | refine awp_cond (t := false) rfl (fun e => by cases e) (fun _ => ?_)))
  (first | refine st_callv rfl (hE0 _) ?_ | refine st_gy rfl (st_callv rfl (hE0 _) ?_) | refine st_callp rfl hE0 ?_ | refine st_gy rfl (st_callp rfl hE0 ?_))
  (repeat (first | refine st_q rfl rfl rfl ?_ | refine st_gy rfl (st_q rfl rfl rfl ?_) | refine st_ldp rfl hget_head rfl rfl ?_ | refine st_gy rfl (st_ldp rfl hget_head rfl rfl ?_) | refine st_b2s rfl rfl ?_ | refine st_gy rfl (st_b2s rfl rfl ?_) | refine st_gn rfl ?_ | refine st_gu rfl ?_ | (refine st_nil ?_; (repeat (first | refine kp_cons rfl ?_ | refine kp_skip ?_)); refine kp_nil ?_) | refine awp_seq ?_ | refine aw_end (fun _ _ => rfl) ?_ | refine awp_block ?_ | refine aw_skipE (fun _ _ => rfl) ?_ | refine aw_exitE (fun _ _ => rfl) ?_ | refine awp_cond (t := true) rfl (fun _ => ?_) (fun e => by cases e) | refine awp_cond (t := false) rfl (fun e => by cases e) (fun _ => ?_)))
  refine awp_ret ?_
  exact ares rfl (HSub.refl _) rfl
end Go.Abs

/- Contracts: law 16's longs, StatSums. -/
namespace Go.Abs
open Go Go.Proofs
set_option linter.unusedVariables false
set_option linter.unusedSimpArgs false
set_option maxHeartbeats 4000000
attribute [local irreducible] AWp aops KP

def colL (l : List Int) : Col := ⟨List.replicate l.length true, l, [], [], []⟩

theorem c_longs (l : List Int) (f : Bool) (hl : l.length ≤ 1000) (σ : AHeap) : ACalls Try.prog f_ingotlaw16_longs [.slc 1 (l.map (.int .i64)) f] σ fun r σ' =>
    r = .tup [.slc 8 ((flattenF (tA 4)).map encN) true, encC (colL l)] ∧ σ' = σ := by
  have hFl := c_Flatten (tA 4) (tA_Fit 4)
  rw [encT_eq] at hFl
  refine acalls_enter rfl ingotlaw16_longs_ok (Nat.le_of_ble_eq_true rfl) ?_
  refine aw_region ?_
  (repeat (refine st_q rfl rfl rfl ?_))
  refine st_alloc (by simp [AVal.cells, AVal.one]) fun b3 hb3 => ?_
  (refine st_nil ?_; (repeat (first | refine kp_cons rfl ?_ | refine kp_skip ?_)); refine kp_nil ?_)
  have main : ∀ z : ABlk, z = .cells 5 [.agg [.slc 0 [] true, .slc 0 [] true, .slc 0 [] true, .slc 0 [] true, .slc 0 [] true]] →
      AWp Try.prog ingotlaw16_longs.n (ingotlaw16_longs.code.snd 1) (ARet ingotlaw16_longs.res fun r σ' => r = .tup [.slc 8 ((flattenF (tA 4)).map encN) true, encC (colL l)] ∧ σ' = σ)
        (fset 0 (some (.slc 1 (l.map (.int .i64)) f)) (fset 3 (some (.ptr b3 0 0)) fnone)) ((b3, z) :: σ) := by
    intro z hz
    refine aw_region ?_
    (repeat (refine st_q rfl rfl rfl ?_))
    refine st_alloc (by simp [AVal.cells, AVal.one]) fun b4 hb4 => ?_
    (first | refine st_store rfl hget_head rfl (by decide) (AVal.fit_iff.1 rfl) (fun h => by cases h) hset_head ?_ | refine st_gy rfl (st_store rfl hget_head rfl (by decide) (AVal.fit_iff.1 rfl) (fun h => by cases h) hset_head ?_))
    (refine st_nil ?_; (repeat (first | refine kp_cons rfl ?_ | refine kp_skip ?_)); refine kp_nil ?_)
    refine awp_hshift (HShift.view (ys := [.agg (cellsT (tA 4))]) rfl rfl (by (repeat (first | exact VRle.refl _ | exact vle_nil | refine vle_slc rfl rfl ?_ | refine vle_agg rfl ?_ | refine vle_cons ?_ ?_)))) ?_
    refine awp_freezeP (d := 4) (cs := cellsT (tA 4)) rfl ?_
    refine aw_region ?_
    (repeat (refine st_q rfl rfl rfl ?_))
    refine st_alloc (by simp [AVal.cells, AVal.one]) fun b5 hb5 => ?_
    (first | refine st_store rfl hget_head rfl (by decide) (AVal.fit_iff.1 rfl) (fun h => by cases h) hset_head ?_ | refine st_gy rfl (st_store rfl hget_head rfl (by decide) (AVal.fit_iff.1 rfl) (fun h => by cases h) hset_head ?_))
    (refine st_nil ?_; (repeat (first | refine kp_cons rfl ?_ | refine kp_skip ?_)); refine kp_nil ?_)
    (repeat (first | refine st_q rfl rfl rfl ?_ | refine st_gy rfl (st_q rfl rfl rfl ?_) | refine st_ldp rfl hget_head rfl rfl ?_ | refine st_gy rfl (st_ldp rfl hget_head rfl rfl ?_) | refine st_b2s rfl rfl ?_ | refine st_gy rfl (st_b2s rfl rfl ?_) | refine st_gn rfl ?_ | refine st_gu rfl ?_ | (refine st_nil ?_; (repeat (first | refine kp_cons rfl ?_ | refine kp_skip ?_)); refine kp_nil ?_) | refine awp_seq ?_ | refine aw_end (fun _ _ => rfl) ?_ | refine awp_block ?_ | refine aw_skipE (fun _ _ => rfl) ?_ | refine aw_exitE (fun _ _ => rfl) ?_ | refine awp_cond (t := true) rfl (fun _ => ?_) (fun e => by cases e) | refine awp_cond (t := false) rfl (fun e => by cases e) (fun _ => ?_)))
    refine awp_loopN (fun m F σ' => ∃ (j : Nat) (v : AVal) (β : AHeap), F = fset 0 (some (.slc 1 (l.map (.int .i64)) f)) (fset 3 (some (.ptr b3 0 0)) (fset 4 (some (.iptr (cellsT (tA 4)))) (fset 5 (some (.ptr b5 0 0)) (fset 6 (some (.int .i64 (j : Int))) fnone)))) ∧
      (b5, ABlk.cells 5 [.agg [v, .slc 1 (l.map (.int .i64)) f, .slc 0 [] true, .slc 0 [] true, .slc 0 [] true]]) :: (β ++ (b3, z) :: σ) = σ' ∧ GrowG 1 v ((List.replicate j true).map .bool) β ∧ j ≤ l.length ∧ m = l.length - j) (n := l.length)
      ⟨0, _, [], rfl, rfl, GrowG.nil 1 0, by omega, rfl⟩ ?_
    rintro m F σ' ⟨j, v, β, rfl, rfl, hG, hj, rfl⟩
    (repeat (first | refine st_q rfl rfl rfl ?_ | refine st_gy rfl (st_q rfl rfl rfl ?_) | refine st_ldp rfl hget_head rfl rfl ?_ | refine st_gy rfl (st_ldp rfl hget_head rfl rfl ?_) | refine st_b2s rfl rfl ?_ | refine st_gy rfl (st_b2s rfl rfl ?_) | refine st_gn rfl ?_ | refine st_gu rfl ?_ | (refine st_nil ?_; (repeat (first | refine kp_cons rfl ?_ | refine kp_skip ?_)); refine kp_nil ?_) | refine awp_seq ?_ | refine aw_end (fun _ _ => rfl) ?_ | refine awp_block ?_ | refine aw_skipE (fun _ _ => rfl) ?_ | refine aw_exitE (fun _ _ => rfl) ?_ | refine awp_cond (t := true) rfl (fun _ => ?_) (fun e => by cases e) | refine awp_cond (t := false) rfl (fun e => by cases e) (fun _ => ?_)))
    rw [List.length_map]
    refine awp_condp (p := (j : Int) < (l.length : Int)) rfl (fun h5 => ?_) (fun h5 => ?_)
    · have hone := hG.one
      refine awp_weaken (FSub.refl _) front1 ?_
      refine awp_nd fun nd => ?_
      (repeat (first | refine st_q rfl rfl rfl ?_ | refine st_gy rfl (st_q rfl rfl rfl ?_) | refine st_gn rfl ?_ | refine st_gu rfl ?_ | (refine st_nil ?_; (repeat (first | refine kp_cons rfl ?_ | refine kp_skip ?_)); refine kp_nil ?_) | refine awp_seq ?_ | refine aw_end (fun _ _ => rfl) ?_ | refine awp_block ?_ | refine aw_skipE (fun _ _ => rfl) ?_ | refine aw_exitE (fun _ _ => rfl) ?_ | refine awp_cond (t := true) rfl (fun _ => ?_) (fun e => by cases e) | refine awp_cond (t := false) rfl (fun e => by cases e) (fun _ => ?_)))
      refine st_ldp rfl (hget_front nd) rfl rfl ?_
      (repeat (refine st_q rfl rfl rfl ?_))
      refine st_appG hG rfl (ys := [.bool true]) rfl (by simp; omega) fun b' hb' => ?_
      have hne : b' ≠ b5 := fun e => hb' (by rw [e]; simp [keys])
      (repeat (refine st_q rfl rfl rfl ?_))
      refine st_store rfl (hget_tail hne hget_head) rfl (by decide) (AVal.fit_iff.1 rfl) (fun h => by cases h) (hset_tail hne hset_head) ?_
      (refine st_nil ?_; (repeat (first | refine kp_cons rfl ?_ | refine kp_skip ?_)); refine kp_nil ?_)
      refine awp_weaken (FSub.refl _) (HSub.swap _ _ _) ?_
      have e : (List.replicate j true).map AVal.bool ++ [.bool true] = (List.replicate (j + 1) true).map AVal.bool := by simp [List.replicate_succ']
      rw [e]
      refine aw_round ?_
      (repeat (refine st_q rfl rfl rfl ?_))
      rw [show IntKind.wrap .i64 ((j : Int) + 1) = ((j + 1 : Nat) : Int) by rw [w64 _ (by omega) (by omega)]; omega]
      (refine st_nil ?_; (repeat (first | refine kp_cons rfl ?_ | refine kp_skip ?_)); refine kp_nil ?_)
      exact ⟨_, l.length - (j + 1), HSub.refl _, ⟨j + 1, _, [(b', _)], rfl, rfl, GrowG.mk, by omega, rfl⟩, by omega⟩
    · have hjl : j = l.length := by omega
      subst hjl
      have hone : ∀ y ∈ ([] ++ .agg ([] ++ .slc 1 ((List.replicate l.length true).map .bool) false :: [.slc 1 (l.map (.int .i64)) f, .slc 0 [] true, .slc 0 [] true, .slc 0 [] true]) :: [] : List AVal), y.elem 5 := by
        intro y hy; simp at hy; subst hy; exact AVal.fit_iff.1 rfl
      refine awp_hshift (HShift.cell (A := []) (B := []) (p := []) (q := [.slc 1 (l.map (.int .i64)) f, .slc 0 [] true, .slc 0 [] true, .slc 0 [] true]) hG hone) ?_
      refine awp_hshift (HShift.view (ys := [.agg (cellsC (colL l))]) rfl rfl (VRle.same (VRle.cons VRle.full (by (repeat (first | exact VRle.refl _ | exact vle_nil | refine vle_slc rfl rfl ?_ | refine vle_agg rfl ?_ | refine vle_cons ?_ ?_)))))) ?_
      refine awp_freezeP (d := 5) (cs := cellsC (colL l)) rfl ?_
      subst hz
      (repeat (first | refine st_q rfl rfl rfl ?_ | refine st_gy rfl (st_q rfl rfl rfl ?_) | refine st_ldp rfl hget_head rfl rfl ?_ | refine st_gy rfl (st_ldp rfl hget_head rfl rfl ?_) | refine st_b2s rfl rfl ?_ | refine st_gy rfl (st_b2s rfl rfl ?_) | refine st_gn rfl ?_ | refine st_gu rfl ?_ | (refine st_nil ?_; (repeat (first | refine kp_cons rfl ?_ | refine kp_skip ?_)); refine kp_nil ?_) | refine awp_seq ?_ | refine aw_end (fun _ _ => rfl) ?_ | refine awp_block ?_ | refine aw_skipE (fun _ _ => rfl) ?_ | refine aw_exitE (fun _ _ => rfl) ?_ | refine awp_cond (t := true) rfl (fun _ => ?_) (fun e => by cases e) | refine awp_cond (t := false) rfl (fun e => by cases e) (fun _ => ?_)))
      (first | refine st_callv rfl (hFl _) ?_ | refine st_gy rfl (st_callv rfl (hFl _) ?_) | refine st_callp rfl hFl ?_ | refine st_gy rfl (st_callp rfl hFl ?_))
      (repeat (first | refine st_q rfl rfl rfl ?_ | refine st_gy rfl (st_q rfl rfl rfl ?_) | refine st_ldp rfl hget_head rfl rfl ?_ | refine st_gy rfl (st_ldp rfl hget_head rfl rfl ?_) | refine st_b2s rfl rfl ?_ | refine st_gy rfl (st_b2s rfl rfl ?_) | refine st_gn rfl ?_ | refine st_gu rfl ?_ | (refine st_nil ?_; (repeat (first | refine kp_cons rfl ?_ | refine kp_skip ?_)); refine kp_nil ?_) | refine awp_seq ?_ | refine aw_end (fun _ _ => rfl) ?_ | refine awp_block ?_ | refine aw_skipE (fun _ _ => rfl) ?_ | refine aw_exitE (fun _ _ => rfl) ?_ | refine awp_cond (t := true) rfl (fun _ => ?_) (fun e => by cases e) | refine awp_cond (t := false) rfl (fun e => by cases e) (fun _ => ?_)))
      (first | refine st_store rfl hget_head rfl (by decide) (AVal.fit_iff.1 rfl) (fun h => by cases h) hset_head ?_ | refine st_gy rfl (st_store rfl hget_head rfl (by decide) (AVal.fit_iff.1 rfl) (fun h => by cases h) hset_head ?_))
      (refine st_nil ?_; (repeat (first | refine kp_cons rfl ?_ | refine kp_skip ?_)); refine kp_nil ?_)
      refine awp_ret ?_
      exact ares (vs := [.slc 8 ((flattenF (tA 4)).map encN) true, encC (colL l)]) (resVals_cons rfl (resVals_cons (resVal_cell rfl hget_head rfl) rfl)) (HSub.tail _ _) ⟨rfl, rfl⟩
  exact main _ rfl

theorem sm_zero : ∀ (l : List Int) (p : Int × Bool), (p.2 = false → p.1 = 0) → (l.foldl smStep p).2 = false → (l.foldl smStep p).1 = 0
  | [], p, h, e => h e
  | a :: l, p, h, e => by
    rw [List.foldl_cons] at e ⊢
    refine sm_zero l _ (fun h2 => ?_) e
    unfold smStep at h2 ⊢
    split
    · rename_i h1
      rw [if_pos h1] at h2
      unfold addF at h2 ⊢
      split
      · rename_i h3; rw [if_pos h3] at h2; cases h2
      · rfl
    · rename_i h1
      rw [if_neg h1] at h2
      exact h h2
theorem sm_rng (a : Int) (p : Int × Bool) (h : -9223372036854775808 ≤ p.1 ∧ p.1 ≤ 9223372036854775807) : -9223372036854775808 ≤ (smStep p a).1 ∧ (smStep p a).1 ≤ 9223372036854775807 := by
  unfold smStep addF
  split
  · split
    · assumption
    · simp
  · exact h

theorem valsL (l : List Int) : valsC (colL l) = l.map fun x => (.mk false x 0 [] [], x) := by
  have e : colN (colL l) = l.length := by simp [colN, colL]
  unfold valsC getsC
  rw [e]
  refine List.ext_getElem (by simp) fun i h1 h2 => ?_
  have hi : i < l.length := by simpa using h1
  simp [getV, getA, colL, hi]

theorem fit_colL (l : List Int) (hl : l.length ≤ 1000) (h : ∀ x ∈ l, -9223372036854775808 ≤ x ∧ x ≤ 9223372036854775807) : (colL l).Fit :=
  ⟨by simp [colL]; omega, by simp [colL]; omega, by simp [colL], by simp [colL], by simp [colL], h, by simp [colL]⟩

theorem ofL_eq (l : List Int) : ofF 4 (colL l) = ⟨(l.length : Nat), false, (spC 4 (colL l)).has, (spC 4 (colL l)).min, (spC 4 (colL l)).max, (l.foldl smStep (0, true)).2, (l.foldl smStep (0, true)).1⟩ := by
  rw [ofF_eq, smC, valsL]
  simp [hasF, colL, addsF, List.map_map, Function.comp_def]

theorem spL_has (l : List Int) : (spC 4 (colL l)).has = decide (0 < l.length) := by
  have hb := spC_bnd 4 (colL l)
  cases hh : (spC 4 (colL l)).has with
  | false =>
    have := hb.none hh rfl
    rw [valsL] at this
    have hl : l = [] := by simpa using this
    simp [hl]
  | true =>
    have := hb.min hh
    rw [valsL] at this
    have hl : l ≠ [] := by rintro rfl; simp at this
    simp [List.length_pos_iff, hl]

theorem c_StatSums (l : List Int) (h : ∀ x ∈ l, -9223372036854775808 ≤ x ∧ x ≤ 9223372036854775807) (hl : l.length ≤ 9223372036854775807) (σ : AHeap) : ACalls Try.prog f_ingotlaw16_StatSums [.slc 1 (l.map (.int .i64)) false] σ fun r σ' => r = .bool true := by
  refine acalls_enter rfl ingotlaw16_StatSums_ok (Nat.le_of_ble_eq_true rfl) ?_
  (repeat (first | refine st_q rfl rfl rfl ?_ | refine st_gy rfl (st_q rfl rfl rfl ?_) | refine st_ldp rfl hget_head rfl rfl ?_ | refine st_gy rfl (st_ldp rfl hget_head rfl rfl ?_) | refine st_b2s rfl rfl ?_ | refine st_gy rfl (st_b2s rfl rfl ?_) | refine st_gn rfl ?_ | refine st_gu rfl ?_ | (refine st_nil ?_; (repeat (first | refine kp_cons rfl ?_ | refine kp_skip ?_)); refine kp_nil ?_) | refine awp_seq ?_ | refine aw_end (fun _ _ => rfl) ?_ | refine awp_block ?_ | refine aw_skipE (fun _ _ => rfl) ?_ | refine aw_exitE (fun _ _ => rfl) ?_ | refine awp_cond (t := true) rfl (fun _ => ?_) (fun e => by cases e) | refine awp_cond (t := false) rfl (fun e => by cases e) (fun _ => ?_)))
  refine st_call rfl (c_known16 _) ⟨_, σ, rfl⟩ ?_
  rintro r σ1 rfl
  (repeat (first | refine st_q rfl rfl rfl ?_ | refine st_gy rfl (st_q rfl rfl rfl ?_) | refine st_ldp rfl hget_head rfl rfl ?_ | refine st_gy rfl (st_ldp rfl hget_head rfl rfl ?_) | refine st_b2s rfl rfl ?_ | refine st_gy rfl (st_b2s rfl rfl ?_) | refine st_gn rfl ?_ | refine st_gu rfl ?_ | (refine st_nil ?_; (repeat (first | refine kp_cons rfl ?_ | refine kp_skip ?_)); refine kp_nil ?_) | refine awp_seq ?_ | refine aw_end (fun _ _ => rfl) ?_ | refine awp_block ?_ | refine aw_skipE (fun _ _ => rfl) ?_ | refine aw_exitE (fun _ _ => rfl) ?_ | refine awp_cond (t := true) rfl (fun _ => ?_) (fun e => by cases e) | refine awp_cond (t := false) rfl (fun e => by cases e) (fun _ => ?_)))
  rw [List.length_map]
  by_cases h2 : 200 < l.length
  · (rw [show decide ((200 : Int) < (l.length : Int)) = true from decide_eq_true (by omega)])
    (repeat (first | refine st_q rfl rfl rfl ?_ | refine st_gy rfl (st_q rfl rfl rfl ?_) | refine st_ldp rfl hget_head rfl rfl ?_ | refine st_gy rfl (st_ldp rfl hget_head rfl rfl ?_) | refine st_b2s rfl rfl ?_ | refine st_gy rfl (st_b2s rfl rfl ?_) | refine st_gn rfl ?_ | refine st_gu rfl ?_ | (refine st_nil ?_; (repeat (first | refine kp_cons rfl ?_ | refine kp_skip ?_)); refine kp_nil ?_) | refine awp_seq ?_ | refine aw_end (fun _ _ => rfl) ?_ | refine awp_block ?_ | refine aw_skipE (fun _ _ => rfl) ?_ | refine aw_exitE (fun _ _ => rfl) ?_ | refine awp_cond (t := true) rfl (fun _ => ?_) (fun e => by cases e) | refine awp_cond (t := false) rfl (fun e => by cases e) (fun _ => ?_)))
    refine awp_ret ?_
    exact ares rfl (HSub.refl _) rfl
  (rw [show decide ((200 : Int) < (l.length : Int)) = false from decide_eq_false (by omega)])
  have hF := fit_colL l (by omega) h
  have hO := c_Of 4 (cellsN ⟨.mk 4 [] [] 0 0 0, [], 0, 2⟩) rfl rfl (by simp [cellsN, AVal.one]) (colL l) hF
  have hlo := c_longs l false (by omega)
  rw [flatten_tA4] at hlo
  (repeat (first | refine st_q rfl rfl rfl ?_ | refine st_gy rfl (st_q rfl rfl rfl ?_) | refine st_ldp rfl hget_head rfl rfl ?_ | refine st_gy rfl (st_ldp rfl hget_head rfl rfl ?_) | refine st_b2s rfl rfl ?_ | refine st_gy rfl (st_b2s rfl rfl ?_) | refine st_gn rfl ?_ | refine st_gu rfl ?_ | (refine st_nil ?_; (repeat (first | refine kp_cons rfl ?_ | refine kp_skip ?_)); refine kp_nil ?_) | refine awp_seq ?_ | refine aw_end (fun _ _ => rfl) ?_ | refine awp_block ?_ | refine aw_skipE (fun _ _ => rfl) ?_ | refine aw_exitE (fun _ _ => rfl) ?_ | refine awp_cond (t := true) rfl (fun _ => ?_) (fun e => by cases e) | refine awp_cond (t := false) rfl (fun e => by cases e) (fun _ => ?_)))
  (first | refine st_callv rfl (hlo _) ?_ | refine st_gy rfl (st_callv rfl (hlo _) ?_) | refine st_callp rfl hlo ?_ | refine st_gy rfl (st_callp rfl hlo ?_))
  (repeat (first | refine st_q rfl rfl rfl ?_ | refine st_gy rfl (st_q rfl rfl rfl ?_) | refine st_ldp rfl hget_head rfl rfl ?_ | refine st_gy rfl (st_ldp rfl hget_head rfl rfl ?_) | refine st_b2s rfl rfl ?_ | refine st_gy rfl (st_b2s rfl rfl ?_) | refine st_gn rfl ?_ | refine st_gu rfl ?_ | (refine st_nil ?_; (repeat (first | refine kp_cons rfl ?_ | refine kp_skip ?_)); refine kp_nil ?_) | refine awp_seq ?_ | refine aw_end (fun _ _ => rfl) ?_ | refine awp_block ?_ | refine aw_skipE (fun _ _ => rfl) ?_ | refine aw_exitE (fun _ _ => rfl) ?_ | refine awp_cond (t := true) rfl (fun _ => ?_) (fun e => by cases e) | refine awp_cond (t := false) rfl (fun e => by cases e) (fun _ => ?_)))
  refine st_alloc (by simp [AVal.cells, AVal.one]) fun b4 hb4 => ?_
  (repeat (first | refine st_q rfl rfl rfl ?_ | refine st_gy rfl (st_q rfl rfl rfl ?_) | refine st_ldp rfl hget_head rfl rfl ?_ | refine st_gy rfl (st_ldp rfl hget_head rfl rfl ?_) | refine st_b2s rfl rfl ?_ | refine st_gy rfl (st_b2s rfl rfl ?_) | refine st_gn rfl ?_ | refine st_gu rfl ?_ | (refine st_nil ?_; (repeat (first | refine kp_cons rfl ?_ | refine kp_skip ?_)); refine kp_nil ?_) | refine awp_seq ?_ | refine aw_end (fun _ _ => rfl) ?_ | refine awp_block ?_ | refine aw_skipE (fun _ _ => rfl) ?_ | refine aw_exitE (fun _ _ => rfl) ?_ | refine awp_cond (t := true) rfl (fun _ => ?_) (fun e => by cases e) | refine awp_cond (t := false) rfl (fun e => by cases e) (fun _ => ?_)))
  (first | refine st_store rfl hget_head rfl (by decide) (AVal.fit_iff.1 rfl) (fun h => by cases h) hset_head ?_ | refine st_gy rfl (st_store rfl hget_head rfl (by decide) (AVal.fit_iff.1 rfl) (fun h => by cases h) hset_head ?_))
  (refine st_nil ?_; (repeat (first | refine kp_cons rfl ?_ | refine kp_skip ?_)); refine kp_nil ?_)
  refine awp_freezeP (d := 4) (cs := cellsC (colL l)) rfl ?_
  (repeat (first | refine st_q rfl rfl rfl ?_ | refine st_gy rfl (st_q rfl rfl rfl ?_) | refine st_ldp rfl hget_head rfl rfl ?_ | refine st_gy rfl (st_ldp rfl hget_head rfl rfl ?_) | refine st_b2s rfl rfl ?_ | refine st_gy rfl (st_b2s rfl rfl ?_) | refine st_gn rfl ?_ | refine st_gu rfl ?_ | (refine st_nil ?_; (repeat (first | refine kp_cons rfl ?_ | refine kp_skip ?_)); refine kp_nil ?_) | refine awp_seq ?_ | refine aw_end (fun _ _ => rfl) ?_ | refine awp_block ?_ | refine aw_skipE (fun _ _ => rfl) ?_ | refine aw_exitE (fun _ _ => rfl) ?_ | refine awp_cond (t := true) rfl (fun _ => ?_) (fun e => by cases e) | refine awp_cond (t := false) rfl (fun e => by cases e) (fun _ => ?_)))
  (first | refine st_callv rfl ((c_To15 (colL l)) _) ?_ | refine st_gy rfl (st_callv rfl ((c_To15 (colL l)) _) ?_) | refine st_callp rfl (c_To15 (colL l)) ?_ | refine st_gy rfl (st_callp rfl (c_To15 (colL l)) ?_))
  (first | refine st_callv rfl (hO _) ?_ | refine st_gy rfl (st_callv rfl (hO _) ?_) | refine st_callp rfl hO ?_ | refine st_gy rfl (st_callp rfl hO ?_))
  refine st_alloc (by simp [AVal.cells, AVal.one]) fun b5 hb5 => ?_
  (first | refine st_store rfl hget_head rfl (by decide) (AVal.fit_iff.1 rfl) (fun h => by cases h) hset_head ?_ | refine st_gy rfl (st_store rfl hget_head rfl (by decide) (AVal.fit_iff.1 rfl) (fun h => by cases h) hset_head ?_))
  (refine st_nil ?_; (repeat (first | refine kp_cons rfl ?_ | refine kp_skip ?_)); refine kp_nil ?_)
  refine awp_freezeP (d := 5) (cs := cellsS (ofF 4 (colL l))) rfl ?_
  have hX := ofL_eq l
  have hHas := spL_has l
  have hZ := sm_zero l (0, true) (fun e => by cases e)
  generalize ofF 4 (colL l) = X at hX
  (repeat (first | refine st_q rfl rfl rfl ?_ | refine st_gy rfl (st_q rfl rfl rfl ?_) | refine st_ldp rfl hget_head rfl rfl ?_ | refine st_gy rfl (st_ldp rfl hget_head rfl rfl ?_) | refine st_b2s rfl rfl ?_ | refine st_gy rfl (st_b2s rfl rfl ?_) | refine st_gn rfl ?_ | refine st_gu rfl ?_ | (refine st_nil ?_; (repeat (first | refine kp_cons rfl ?_ | refine kp_skip ?_)); refine kp_nil ?_) | refine awp_seq ?_ | refine aw_end (fun _ _ => rfl) ?_ | refine awp_block ?_ | refine aw_skipE (fun _ _ => rfl) ?_ | refine aw_exitE (fun _ _ => rfl) ?_ | refine awp_cond (t := true) rfl (fun _ => ?_) (fun e => by cases e) | refine awp_cond (t := false) rfl (fun e => by cases e) (fun _ => ?_)))
  generalize hY : l.foldl smStep (0, true) = Y at hX hZ
  refine awp_loopN (fun m F σ' => ∃ (j : Nat) (p : Int × Bool), F = fset 0 (some (.slc 1 (l.map (.int .i64)) false)) (fset 5 (some (.iptr (cellsS X))) (fset 6 (some (.int .i64 p.1)) (fset 7 (some (.bool p.2)) (fset 8 (some (.int .i64 (j : Int))) fnone)))) ∧
    σ1 = σ' ∧ j ≤ l.length ∧ (l.drop j).foldl smStep p = Y ∧ (-9223372036854775808 ≤ p.1 ∧ p.1 ≤ 9223372036854775807) ∧ m = l.length - j) (n := l.length)
    ⟨0, (0, true), rfl, rfl, by omega, hY, by simp, rfl⟩ ?_
  rintro m F σ' ⟨j, ⟨s, ok⟩, rfl, rfl, hj, hYj, hr, rfl⟩
  have fin : (s, ok) = Y → AWp Try.prog ingotlaw16_StatSums.n (ingotlaw16_StatSums.code.snd 9) (ARet ingotlaw16_StatSums.res fun r σ' => r = .bool true)
      (fset 0 (some (.slc 1 (l.map (.int .i64)) false)) (fset 5 (some (.iptr (cellsS X))) (fset 6 (some (.int .i64 s)) (fset 7 (some (.bool ok)) fnone)))) σ1 := by
    intro e
    subst e
    subst hX
    cases ok with
    | false =>
      have := hZ rfl
      simp only at this
      subst this
      (repeat (first | refine st_q rfl rfl rfl ?_ | refine st_gy rfl (st_q rfl rfl rfl ?_) | refine st_ldp rfl hget_head rfl rfl ?_ | refine st_gy rfl (st_ldp rfl hget_head rfl rfl ?_) | refine st_b2s rfl rfl ?_ | refine st_gy rfl (st_b2s rfl rfl ?_) | refine st_gn rfl ?_ | refine st_gu rfl ?_ | (refine st_nil ?_; (repeat (first | refine kp_cons rfl ?_ | refine kp_skip ?_)); refine kp_nil ?_) | refine awp_seq ?_ | refine aw_end (fun _ _ => rfl) ?_ | refine awp_block ?_ | refine aw_skipE (fun _ _ => rfl) ?_ | refine aw_exitE (fun _ _ => rfl) ?_ | refine awp_cond (t := true) rfl (fun _ => ?_) (fun e => by cases e) | refine awp_cond (t := false) rfl (fun e => by cases e) (fun _ => ?_)))
      rw [List.length_map]
      refine awp_ret ?_
      exact ares rfl (HSub.refl _) (by simp [tupOf])
    | true =>
      (repeat (first | refine st_q rfl rfl rfl ?_ | refine st_gy rfl (st_q rfl rfl rfl ?_) | refine st_ldp rfl hget_head rfl rfl ?_ | refine st_gy rfl (st_ldp rfl hget_head rfl rfl ?_) | refine st_b2s rfl rfl ?_ | refine st_gy rfl (st_b2s rfl rfl ?_) | refine st_gn rfl ?_ | refine st_gu rfl ?_ | (refine st_nil ?_; (repeat (first | refine kp_cons rfl ?_ | refine kp_skip ?_)); refine kp_nil ?_) | refine awp_seq ?_ | refine aw_end (fun _ _ => rfl) ?_ | refine awp_block ?_ | refine aw_skipE (fun _ _ => rfl) ?_ | refine aw_exitE (fun _ _ => rfl) ?_ | refine awp_cond (t := true) rfl (fun _ => ?_) (fun e => by cases e) | refine awp_cond (t := false) rfl (fun e => by cases e) (fun _ => ?_)))
      rw [show decide (s = s) = true from decide_eq_true rfl]
      (repeat (first | refine st_q rfl rfl rfl ?_ | refine st_gy rfl (st_q rfl rfl rfl ?_) | refine st_ldp rfl hget_head rfl rfl ?_ | refine st_gy rfl (st_ldp rfl hget_head rfl rfl ?_) | refine st_b2s rfl rfl ?_ | refine st_gy rfl (st_b2s rfl rfl ?_) | refine st_gn rfl ?_ | refine st_gu rfl ?_ | (refine st_nil ?_; (repeat (first | refine kp_cons rfl ?_ | refine kp_skip ?_)); refine kp_nil ?_) | refine awp_seq ?_ | refine aw_end (fun _ _ => rfl) ?_ | refine awp_block ?_ | refine aw_skipE (fun _ _ => rfl) ?_ | refine aw_exitE (fun _ _ => rfl) ?_ | refine awp_cond (t := true) rfl (fun _ => ?_) (fun e => by cases e) | refine awp_cond (t := false) rfl (fun e => by cases e) (fun _ => ?_)))
      rw [List.length_map]
      rw [show decide ((l.length : Int) = (l.length : Int)) = true from decide_eq_true rfl]
      (repeat (first | refine st_q rfl rfl rfl ?_ | refine st_gy rfl (st_q rfl rfl rfl ?_) | refine st_ldp rfl hget_head rfl rfl ?_ | refine st_gy rfl (st_ldp rfl hget_head rfl rfl ?_) | refine st_b2s rfl rfl ?_ | refine st_gy rfl (st_b2s rfl rfl ?_) | refine st_gn rfl ?_ | refine st_gu rfl ?_ | (refine st_nil ?_; (repeat (first | refine kp_cons rfl ?_ | refine kp_skip ?_)); refine kp_nil ?_) | refine awp_seq ?_ | refine aw_end (fun _ _ => rfl) ?_ | refine awp_block ?_ | refine aw_skipE (fun _ _ => rfl) ?_ | refine aw_exitE (fun _ _ => rfl) ?_ | refine awp_cond (t := true) rfl (fun _ => ?_) (fun e => by cases e) | refine awp_cond (t := false) rfl (fun e => by cases e) (fun _ => ?_)))
      refine awp_ret ?_
      refine ares rfl (HSub.refl _) ?_
      simp [tupOf, hHas]
  (repeat (first | refine st_q rfl rfl rfl ?_ | refine st_gy rfl (st_q rfl rfl rfl ?_) | refine st_ldp rfl hget_head rfl rfl ?_ | refine st_gy rfl (st_ldp rfl hget_head rfl rfl ?_) | refine st_b2s rfl rfl ?_ | refine st_gy rfl (st_b2s rfl rfl ?_) | refine st_gn rfl ?_ | refine st_gu rfl ?_ | (refine st_nil ?_; (repeat (first | refine kp_cons rfl ?_ | refine kp_skip ?_)); refine kp_nil ?_) | refine awp_seq ?_ | refine aw_end (fun _ _ => rfl) ?_ | refine awp_block ?_ | refine aw_skipE (fun _ _ => rfl) ?_ | refine aw_exitE (fun _ _ => rfl) ?_ | refine awp_cond (t := true) rfl (fun _ => ?_) (fun e => by cases e) | refine awp_cond (t := false) rfl (fun e => by cases e) (fun _ => ?_)))
  rw [List.length_map]
  by_cases h3 : j < l.length
  · (rw [show decide ((j : Int) < (l.length : Int)) = true from decide_eq_true (by omega)])
    cases ok with
    | false =>
      rw [sm_false] at hYj
      (repeat (first | refine st_q rfl rfl rfl ?_ | refine st_gy rfl (st_q rfl rfl rfl ?_) | refine st_gn rfl ?_ | refine st_gu rfl ?_))
      (refine st_nil ?_; (repeat (first | refine kp_cons rfl ?_ | refine kp_skip ?_)); refine kp_nil ?_)
      (refine awp_cond (t := false) rfl (fun e => by cases e) (fun _ => ?_); refine aw_exitE (fun _ _ => rfl) ?_)
      (refine kp_weaken (keep := [0, 5, 6, 7]) ?_; ((repeat (first | refine kp_cons rfl ?_ | refine kp_skip ?_)); refine kp_nil ?_))
      exact fin hYj
    | true =>
      rw [List.drop_eq_getElem_cons h3, List.foldl_cons] at hYj
      (repeat (first | refine st_q rfl rfl rfl ?_ | refine st_gy rfl (st_q rfl rfl rfl ?_) | refine st_ldp rfl hget_head rfl rfl ?_ | refine st_gy rfl (st_ldp rfl hget_head rfl rfl ?_) | refine st_b2s rfl rfl ?_ | refine st_gy rfl (st_b2s rfl rfl ?_) | refine st_gn rfl ?_ | refine st_gu rfl ?_ | (refine st_nil ?_; (repeat (first | refine kp_cons rfl ?_ | refine kp_skip ?_)); refine kp_nil ?_) | refine awp_seq ?_ | refine aw_end (fun _ _ => rfl) ?_ | refine awp_block ?_ | refine aw_skipE (fun _ _ => rfl) ?_ | refine aw_exitE (fun _ _ => rfl) ?_ | refine awp_cond (t := true) rfl (fun _ => ?_) (fun e => by cases e) | refine awp_cond (t := false) rfl (fun e => by cases e) (fun _ => ?_)))
      refine st_iad rfl (by omega) (map_get h3) ?_
      (repeat (first | refine st_q rfl rfl rfl ?_ | refine st_gy rfl (st_q rfl rfl rfl ?_) | refine st_ldp rfl hget_head rfl rfl ?_ | refine st_gy rfl (st_ldp rfl hget_head rfl rfl ?_) | refine st_b2s rfl rfl ?_ | refine st_gy rfl (st_b2s rfl rfl ?_) | refine st_gn rfl ?_ | refine st_gu rfl ?_ | (refine st_nil ?_; (repeat (first | refine kp_cons rfl ?_ | refine kp_skip ?_)); refine kp_nil ?_) | refine awp_seq ?_ | refine aw_end (fun _ _ => rfl) ?_ | refine awp_block ?_ | refine aw_skipE (fun _ _ => rfl) ?_ | refine aw_exitE (fun _ _ => rfl) ?_ | refine awp_cond (t := true) rfl (fun _ => ?_) (fun e => by cases e) | refine awp_cond (t := false) rfl (fun e => by cases e) (fun _ => ?_)))
      (first | refine st_callv rfl ((c_refAdd s l[j] hr (h _ (List.getElem_mem h3))) _) ?_ | refine st_gy rfl (st_callv rfl ((c_refAdd s l[j] hr (h _ (List.getElem_mem h3))) _) ?_) | refine st_callp rfl (c_refAdd s l[j] hr (h _ (List.getElem_mem h3))) ?_ | refine st_gy rfl (st_callp rfl (c_refAdd s l[j] hr (h _ (List.getElem_mem h3))) ?_))
      (repeat (first | refine st_q rfl rfl rfl ?_ | refine st_gy rfl (st_q rfl rfl rfl ?_) | refine st_ldp rfl hget_head rfl rfl ?_ | refine st_gy rfl (st_ldp rfl hget_head rfl rfl ?_) | refine st_b2s rfl rfl ?_ | refine st_gy rfl (st_b2s rfl rfl ?_) | refine st_gn rfl ?_ | refine st_gu rfl ?_ | (refine st_nil ?_; (repeat (first | refine kp_cons rfl ?_ | refine kp_skip ?_)); refine kp_nil ?_) | refine awp_seq ?_ | refine aw_end (fun _ _ => rfl) ?_ | refine awp_block ?_ | refine aw_skipE (fun _ _ => rfl) ?_ | refine aw_exitE (fun _ _ => rfl) ?_ | refine awp_cond (t := true) rfl (fun _ => ?_) (fun e => by cases e) | refine awp_cond (t := false) rfl (fun e => by cases e) (fun _ => ?_)))
      refine aw_round ?_
      (repeat (refine st_q rfl rfl rfl ?_))
      rw [show IntKind.wrap .i64 ((j : Int) + 1) = ((j + 1 : Nat) : Int) by rw [w64 _ (by omega) (by omega)]; omega]
      (refine st_nil ?_; (repeat (first | refine kp_cons rfl ?_ | refine kp_skip ?_)); refine kp_nil ?_)
      exact ⟨_, l.length - (j + 1), HSub.refl _, ⟨j + 1, addF s l[j], rfl, rfl, by omega, hYj, sm_rng l[j] (s, true) hr, rfl⟩, by omega⟩
  · (rw [show decide ((j : Int) < (l.length : Int)) = false from decide_eq_false (by omega)])
    rw [List.drop_of_length_le (by omega), List.foldl_nil] at hYj
    (repeat (first | refine st_q rfl rfl rfl ?_ | refine st_gy rfl (st_q rfl rfl rfl ?_) | refine st_gn rfl ?_ | refine st_gu rfl ?_))
    (refine st_nil ?_; (repeat (first | refine kp_cons rfl ?_ | refine kp_skip ?_)); refine kp_nil ?_)
    (refine awp_cond (t := false) rfl (fun e => by cases e) (fun _ => ?_); refine aw_exitE (fun _ _ => rfl) ?_)
    (refine kp_weaken (keep := [0, 5, 6, 7]) ?_; ((repeat (first | refine kp_cons rfl ?_ | refine kp_skip ?_)); refine kp_nil ?_))
    exact fin hYj
end Go.Abs

/- Contracts: law 16's StatParts. -/
namespace Go.Abs
open Go Go.Proofs
set_option linter.unusedVariables false
set_option linter.unusedSimpArgs false
set_option maxHeartbeats 4000000
attribute [local irreducible] AWp aops KP

theorem getV_Cl {C : Col} (hC : C.Fit) (i : Nat) : (getV C i).Cl := by
  refine ⟨?_, by simp [getV, Vl.kids], by simp [getV, Vl.kids]⟩
  simp only [getV, Vl.b]
  by_cases h2 : i < C.texts.length
  · rw [List.getD_eq_getElem?_getD, List.getElem?_eq_getElem h2, Option.getD_some]
    exact hC.text _ (List.getElem_mem h2)
  · rw [List.getD_eq_getElem?_getD, List.getElem?_eq_none (by omega)]
    simp
theorem valsC_mem {C : Col} {v : Vl} (h : v ∈ (valsC C).map (·.1)) : ∃ i, v = getV C i := by
  simp only [valsC, getsC, List.map_map, List.mem_map] at h
  obtain ⟨i, _, rfl⟩ := h
  exact ⟨i, rfl⟩
theorem spC_vals {k : Int} {C : Col} : (∃ i, (spC k C).min = getV C i) ∨ (spC k C).min = vl0 := by
  have hb := spC_bnd k C
  cases hh : (spC k C).has with
  | false => right; rw [hb.zero hh]; rfl
  | true => left; exact valsC_mem (hb.min hh)
theorem spC_vals' {k : Int} {C : Col} : (∃ i, (spC k C).max = getV C i) ∨ (spC k C).max = vl0 := by
  have hb := spC_bnd k C
  cases hh : (spC k C).has with
  | false => right; rw [hb.zero hh]; rfl
  | true => left; exact valsC_mem (hb.max hh)
theorem sm_rngs : ∀ (l : List Int) (p : Int × Bool), (-9223372036854775808 ≤ p.1 ∧ p.1 ≤ 9223372036854775807) → -9223372036854775808 ≤ (l.foldl smStep p).1 ∧ (l.foldl smStep p).1 ≤ 9223372036854775807
  | [], p, h => h
  | a :: l, p, h => sm_rngs l _ (sm_rng a p h)
theorem ofF_Fit {k : Int} {C : Col} (hC : C.Fit) : (ofF k C).Fit := by
  rw [ofF_eq]
  refine ⟨?_, ?_, sm_rngs _ _ (by simp)⟩
  · rcases spC_vals (k := k) (C := C) with ⟨i, e⟩ | e <;> simp only [e]
    · exact getV_Cl hC i
    · exact vl_Cl 0
  · rcases spC_vals' (k := k) (C := C) with ⟨i, e⟩ | e <;> simp only [e]
    · exact getV_Cl hC i
    · exact vl_Cl 0
theorem spMerge_Cl {k : Int} {a b : Sp} (h1 : a.min.Cl) (h2 : a.max.Cl) (h3 : b.min.Cl) (h4 : b.max.Cl) : (spMerge k a b).min.Cl ∧ (spMerge k a b).max.Cl := by
  unfold spMerge
  split
  · exact ⟨h3, h4⟩
  · split
    · exact ⟨h1, h2⟩
    · simp only []
      constructor <;> (split <;> assumption)
theorem addF_rng (a b : Int) : -9223372036854775808 ≤ (addF a b).1 ∧ (addF a b).1 ≤ 9223372036854775807 := by
  unfold addF
  split
  · assumption
  · simp
theorem mergeF_Fit {k : Int} {x y : Stt} (hx : x.Fit) (hy : y.Fit) (hz : x.has = false → spOf x = sp0) : (mergeF k x y).Fit := by
  rw [mergeF_eq k x y hz]
  have hc : (if y.has = true then spOf y else sp0).min.Cl ∧ (if y.has = true then spOf y else sp0).max.Cl := by
    split
    · exact ⟨hy.min, hy.max⟩
    · exact ⟨vl_Cl 0, vl_Cl 0⟩
  have := spMerge_Cl (k := k) (a := spOf x) hx.min hx.max hc.1 hc.2
  refine ⟨this.1, this.2, ?_⟩
  have hm := merge1_sum x y hx.sum
  simp only [Prod.mk.injEq] at hm
  simp only [hm.2]
  split
  · exact addF_rng _ _
  · simp

def vI (x : Int) : Vl := .mk false x 0 [] []
def minS (m x : Int) : Int := if x < m then x else m
def maxS (m x : Int) : Int := if m < x then x else m
theorem cmp4 (a b : Int) : (cmpV 4 (vI a) (vI b)).1 = cmpI a b := by
  rw [cmpV_leaf rfl _ _ rfl rfl]
  simp only [vI, Vl.i, Vl.n, textF]
  simp only [cmpI]
  (repeat' split) <;> first | rfl | omega | simp_all
theorem fold_vI : ∀ (l : List Int) (lo hi : Int), (l.map vI).foldl (spStep 4) ⟨true, vI lo, vI hi⟩ = ⟨true, vI (l.foldl minS lo), vI (l.foldl maxS hi)⟩
  | [], lo, hi => rfl
  | a :: l, lo, hi => by
    have e : spStep 4 ⟨true, vI lo, vI hi⟩ (vI a) = ⟨true, vI (minS lo a), vI (maxS hi a)⟩ := by
      have hr : rangesF 4 = true := rfl
      simp only [spStep, hr, if_true, cmp4, Bool.true_eq_false, false_or]
      simp only [minS, maxS, cmpI]
      congr 1
      · by_cases h : a < lo
        · simp [h]
        · simp [h]; split <;> simp
      · by_cases h : hi < a
        · simp [h]; omega
        · simp [h]; (repeat' split) <;> first | rfl | omega | simp_all
    rw [List.map_cons, List.foldl_cons, e, fold_vI l, List.foldl_cons, List.foldl_cons]

theorem valsL1 (l : List Int) : (valsC (colL l)).map (·.1) = l.map vI := by
  rw [valsL, List.map_map]; rfl

structure PS (l : List Int) (a : Nat) (s : Stt) : Prop where
  count : s.count = (a : Int)
  null : s.null = false
  sp : spOf s = ((l.take a).map vI).foldl (spStep 4) sp0
  fit : s.Fit

theorem PS.zero {l : List Int} {a : Nat} {s : Stt} (h : PS l a s) : s.has = false → spOf s = sp0 := by
  have hb := Bnd.fold (k := 4) ((l.take a).map vI) [] sp0 (bnd0 4) (fun _ => rfl) (fun v hv => by
    simp only [List.mem_map] at hv
    obtain ⟨x, _, rfl⟩ := hv
    rfl)
  intro e
  rw [h.sp]
  refine hb.zero ?_
  rw [← h.sp]
  exact e
theorem sp_null (l : List Vl) (h : ∀ v ∈ l, v.null = false) : (l.foldl (spStep 4) sp0).min.null = false ∧ (l.foldl (spStep 4) sp0).max.null = false := by
  have hb := Bnd.fold (k := 4) l [] sp0 (bnd0 4) (fun _ => rfl) h
  exact ⟨hb.nmin, hb.nmax⟩
theorem vI_null (l : List Int) : ∀ v ∈ l.map vI, v.null = false := fun v hv => by
  simp only [List.mem_map] at hv
  obtain ⟨x, _, rfl⟩ := hv
  rfl

theorem ofL_zero (l : List Int) : (ofF 4 (colL l)).has = false → spOf (ofF 4 (colL l)) = sp0 := by
  rw [ofF_sp]
  intro e
  refine (spC_bnd 4 (colL l)).zero ?_
  rw [ofF_eq] at e
  exact e

theorem PS.next {l : List Int} {a e : Nat} {s : Stt} (h : PS l a s) (h1 : a ≤ e) (h2 : e ≤ l.length) (h3 : l.length ≤ 1000) (hl : ∀ x ∈ l, -9223372036854775808 ≤ x ∧ x ≤ 9223372036854775807) : PS l e (mergeF 4 s (ofF 4 (colL ((l.drop a).take (e - a))))) := by
  have hF : (colL ((l.drop a).take (e - a))).Fit := fit_colL _ (by simp; omega) (fun x hx => hl x (List.mem_of_mem_drop (List.mem_of_mem_take hx)))
  have hsp : spOf (mergeF 4 s (ofF 4 (colL ((l.drop a).take (e - a))))) = ((l.take e).map vI).foldl (spStep 4) sp0 := by
    rw [mergeF_eq 4 s _ h.zero]
    show spMerge 4 (spOf s) (if _ = true then _ else _) = _
    have e1 : (if (ofF 4 (colL ((l.drop a).take (e - a)))).has = true then spOf (ofF 4 (colL ((l.drop a).take (e - a)))) else sp0) = spOf (ofF 4 (colL ((l.drop a).take (e - a)))) := by
      split
      · rfl
      · rename_i hn; exact (ofL_zero _ (by simpa using hn)).symm
    rw [e1, ofF_sp]
    have hn := sp_null _ (vI_null (l.take a))
    rw [spC, valsL1, h.sp, spMerge_fold _ hn.1 hn.2 _ sp0 rfl rfl (vI_null _)]
    rw [spMerge_zero 4 _ (fun e => by rw [← h.sp] at e ⊢; exact h.zero e), ← List.foldl_append, ← List.map_append]
    congr 2
    conv => rhs; rw [show e = a + (e - a) by omega, List.take_add]
  refine ⟨?_, ?_, hsp, mergeF_Fit h.fit (ofF_Fit hF) h.zero⟩
  · rw [mergeF_eq 4 s _ h.zero, ofL_eq]
    simp only [h.count]
    rw [w64 _ (by omega) (by simp; omega)]
    simp; omega
  · rw [mergeF_eq 4 s _ h.zero, ofL_eq]
    simp [h.null]

theorem empty4 : ofF 4 ⟨[], [], [], [], []⟩ = ofF 4 (colL []) := rfl
theorem take0 (l : List Int) (a : Nat) : (l.drop a).take (a - a) = [] := by simp

theorem and7 (x : Int) (h : 0 ≤ x ∧ x ≤ 255) : ∃ q : Nat, q ≤ 255 ∧ IntKind.wrap .i64 (intBits .and .u8 x 7) = (q : Int) := by
  have e : ∃ q : Nat, q ≤ 255 ∧ intBits .and .u8 x 7 = (q : Int) := by
    simp only [intBits, w8]
    refine ⟨((BitVec.ofInt IntKind.u8.bits x &&& BitVec.ofInt IntKind.u8.bits 7).toNat : Int).toNat % 256, by omega, by omega⟩
  obtain ⟨q, h1, h2⟩ := e
  exact ⟨q, h1, by rw [h2, w64 _ (by omega) (by omega)]⟩

def cellsP (n LO HI : Int) (su : Bool) (sm : Int) : List AVal := [.int .i64 n, .bool false, .bool true, .bool false, .int .i64 LO, .int .i64 0, .slc 1 (bytes []) false, .slc 5 (encVs []) false, .bool false, .int .i64 HI, .int .i64 0, .slc 1 (bytes []) false, .slc 5 (encVs []) false, .bool su, .int .i64 sm]

theorem c_StatParts (l : List Int) (cs : List UInt8) (h : ∀ x ∈ l, -9223372036854775808 ≤ x ∧ x ≤ 9223372036854775807) (hl : l.length ≤ 9223372036854775807) (hcl : cs.length ≤ 9223372036854775807) (σ : AHeap) :
    ACalls Try.prog f_ingotlaw16_StatParts [.slc 1 (l.map (.int .i64)) false, .slc 1 (bytes cs) false] σ fun r σ' => r = .bool true := by
  refine acalls_enter rfl ingotlaw16_StatParts_ok (Nat.le_of_ble_eq_true rfl) ?_
  (repeat (first | refine st_q rfl rfl rfl ?_ | refine st_gy rfl (st_q rfl rfl rfl ?_) | refine st_ldp rfl hget_head rfl rfl ?_ | refine st_gy rfl (st_ldp rfl hget_head rfl rfl ?_) | refine st_b2s rfl rfl ?_ | refine st_gy rfl (st_b2s rfl rfl ?_) | refine st_gn rfl ?_ | refine st_gu rfl ?_ | (refine st_nil ?_; (repeat (first | refine kp_cons rfl ?_ | refine kp_skip ?_)); refine kp_nil ?_) | refine awp_seq ?_ | refine aw_end (fun _ _ => rfl) ?_ | refine awp_block ?_ | refine aw_skipE (fun _ _ => rfl) ?_ | refine aw_exitE (fun _ _ => rfl) ?_ | refine awp_cond (t := true) rfl (fun _ => ?_) (fun e => by cases e) | refine awp_cond (t := false) rfl (fun e => by cases e) (fun _ => ?_)))
  refine st_call rfl (c_known16 _) ⟨_, σ, rfl⟩ ?_
  rintro r σ1 rfl
  (repeat (first | refine st_q rfl rfl rfl ?_ | refine st_gy rfl (st_q rfl rfl rfl ?_) | refine st_ldp rfl hget_head rfl rfl ?_ | refine st_gy rfl (st_ldp rfl hget_head rfl rfl ?_) | refine st_b2s rfl rfl ?_ | refine st_gy rfl (st_b2s rfl rfl ?_) | refine st_gn rfl ?_ | refine st_gu rfl ?_ | (refine st_nil ?_; (repeat (first | refine kp_cons rfl ?_ | refine kp_skip ?_)); refine kp_nil ?_) | refine awp_seq ?_ | refine aw_end (fun _ _ => rfl) ?_ | refine awp_block ?_ | refine aw_skipE (fun _ _ => rfl) ?_ | refine aw_exitE (fun _ _ => rfl) ?_ | refine awp_cond (t := true) rfl (fun _ => ?_) (fun e => by cases e) | refine awp_cond (t := false) rfl (fun e => by cases e) (fun _ => ?_)))
  rw [List.length_map]
  by_cases h2 : 100 < l.length
  · (rw [show decide ((100 : Int) < (l.length : Int)) = true from decide_eq_true (by omega)])
    (repeat (first | refine st_q rfl rfl rfl ?_ | refine st_gy rfl (st_q rfl rfl rfl ?_) | refine st_ldp rfl hget_head rfl rfl ?_ | refine st_gy rfl (st_ldp rfl hget_head rfl rfl ?_) | refine st_b2s rfl rfl ?_ | refine st_gy rfl (st_b2s rfl rfl ?_) | refine st_gn rfl ?_ | refine st_gu rfl ?_ | (refine st_nil ?_; (repeat (first | refine kp_cons rfl ?_ | refine kp_skip ?_)); refine kp_nil ?_) | refine awp_seq ?_ | refine aw_end (fun _ _ => rfl) ?_ | refine awp_block ?_ | refine aw_skipE (fun _ _ => rfl) ?_ | refine aw_exitE (fun _ _ => rfl) ?_ | refine awp_cond (t := true) rfl (fun _ => ?_) (fun e => by cases e) | refine awp_cond (t := false) rfl (fun e => by cases e) (fun _ => ?_)))
    refine awp_ret ?_
    exact ares rfl (HSub.refl _) rfl
  (rw [show decide ((100 : Int) < (l.length : Int)) = false from decide_eq_false (by omega)])
  (repeat (first | refine st_q rfl rfl rfl ?_ | refine st_gy rfl (st_q rfl rfl rfl ?_) | refine st_ldp rfl hget_head rfl rfl ?_ | refine st_gy rfl (st_ldp rfl hget_head rfl rfl ?_) | refine st_b2s rfl rfl ?_ | refine st_gy rfl (st_b2s rfl rfl ?_) | refine st_gn rfl ?_ | refine st_gu rfl ?_ | (refine st_nil ?_; (repeat (first | refine kp_cons rfl ?_ | refine kp_skip ?_)); refine kp_nil ?_) | refine awp_seq ?_ | refine aw_end (fun _ _ => rfl) ?_ | refine awp_block ?_ | refine aw_skipE (fun _ _ => rfl) ?_ | refine aw_exitE (fun _ _ => rfl) ?_ | refine awp_cond (t := true) rfl (fun _ => ?_) (fun e => by cases e) | refine awp_cond (t := false) rfl (fun e => by cases e) (fun _ => ?_)))
  rw [bytes_length]
  by_cases h4 : 20 < cs.length
  · (rw [show decide ((20 : Int) < (cs.length : Int)) = true from decide_eq_true (by omega)])
    (repeat (first | refine st_q rfl rfl rfl ?_ | refine st_gy rfl (st_q rfl rfl rfl ?_) | refine st_ldp rfl hget_head rfl rfl ?_ | refine st_gy rfl (st_ldp rfl hget_head rfl rfl ?_) | refine st_b2s rfl rfl ?_ | refine st_gy rfl (st_b2s rfl rfl ?_) | refine st_gn rfl ?_ | refine st_gu rfl ?_ | (refine st_nil ?_; (repeat (first | refine kp_cons rfl ?_ | refine kp_skip ?_)); refine kp_nil ?_) | refine awp_seq ?_ | refine aw_end (fun _ _ => rfl) ?_ | refine awp_block ?_ | refine aw_skipE (fun _ _ => rfl) ?_ | refine aw_exitE (fun _ _ => rfl) ?_ | refine awp_cond (t := true) rfl (fun _ => ?_) (fun e => by cases e) | refine awp_cond (t := false) rfl (fun e => by cases e) (fun _ => ?_)))
    refine awp_ret ?_
    exact ares rfl (HSub.refl _) rfl
  (rw [show decide ((20 : Int) < (cs.length : Int)) = false from decide_eq_false (by omega)])
  (repeat (first | refine st_q rfl rfl rfl ?_ | refine st_gy rfl (st_q rfl rfl rfl ?_) | refine st_ldp rfl hget_head rfl rfl ?_ | refine st_gy rfl (st_ldp rfl hget_head rfl rfl ?_) | refine st_b2s rfl rfl ?_ | refine st_gy rfl (st_b2s rfl rfl ?_) | refine st_gn rfl ?_ | refine st_gu rfl ?_ | (refine st_nil ?_; (repeat (first | refine kp_cons rfl ?_ | refine kp_skip ?_)); refine kp_nil ?_) | refine awp_seq ?_ | refine aw_end (fun _ _ => rfl) ?_ | refine awp_block ?_ | refine aw_skipE (fun _ _ => rfl) ?_ | refine aw_exitE (fun _ _ => rfl) ?_ | refine awp_cond (t := true) rfl (fun _ => ?_) (fun e => by cases e) | refine awp_cond (t := false) rfl (fun e => by cases e) (fun _ => ?_)))
  rw [List.length_map]
  by_cases h5 : l.length = 0
  · (rw [show decide ((l.length : Int) = 0) = true from decide_eq_true (by omega)])
    (repeat (first | refine st_q rfl rfl rfl ?_ | refine st_gy rfl (st_q rfl rfl rfl ?_) | refine st_ldp rfl hget_head rfl rfl ?_ | refine st_gy rfl (st_ldp rfl hget_head rfl rfl ?_) | refine st_b2s rfl rfl ?_ | refine st_gy rfl (st_b2s rfl rfl ?_) | refine st_gn rfl ?_ | refine st_gu rfl ?_ | (refine st_nil ?_; (repeat (first | refine kp_cons rfl ?_ | refine kp_skip ?_)); refine kp_nil ?_) | refine awp_seq ?_ | refine aw_end (fun _ _ => rfl) ?_ | refine awp_block ?_ | refine aw_skipE (fun _ _ => rfl) ?_ | refine aw_exitE (fun _ _ => rfl) ?_ | refine awp_cond (t := true) rfl (fun _ => ?_) (fun e => by cases e) | refine awp_cond (t := false) rfl (fun e => by cases e) (fun _ => ?_)))
    refine awp_ret ?_
    exact ares rfl (HSub.refl _) rfl
  (rw [show decide ((l.length : Int) = 0) = false from decide_eq_false (by omega)])
  have hlo0 := c_longs [] true (by simp)
  rw [flatten_tA4] at hlo0
  have hE := c_Empty 4 (cellsN ⟨.mk 4 [] [] 0 0 0, [], 0, 2⟩) rfl rfl (by simp [cellsN, AVal.one])
  rw [empty4] at hE
  (repeat (first | refine st_q rfl rfl rfl ?_ | refine st_gy rfl (st_q rfl rfl rfl ?_) | refine st_ldp rfl hget_head rfl rfl ?_ | refine st_gy rfl (st_ldp rfl hget_head rfl rfl ?_) | refine st_b2s rfl rfl ?_ | refine st_gy rfl (st_b2s rfl rfl ?_) | refine st_gn rfl ?_ | refine st_gu rfl ?_ | (refine st_nil ?_; (repeat (first | refine kp_cons rfl ?_ | refine kp_skip ?_)); refine kp_nil ?_) | refine awp_seq ?_ | refine aw_end (fun _ _ => rfl) ?_ | refine awp_block ?_ | refine aw_skipE (fun _ _ => rfl) ?_ | refine aw_exitE (fun _ _ => rfl) ?_ | refine awp_cond (t := true) rfl (fun _ => ?_) (fun e => by cases e) | refine awp_cond (t := false) rfl (fun e => by cases e) (fun _ => ?_)))
  refine st_callv rfl (ACalls.args (VRle.nil_slc 0 1 true) (hlo0 _)) ?_
  (repeat (first | refine st_q rfl rfl rfl ?_ | refine st_gy rfl (st_q rfl rfl rfl ?_) | refine st_ldp rfl hget_head rfl rfl ?_ | refine st_gy rfl (st_ldp rfl hget_head rfl rfl ?_) | refine st_b2s rfl rfl ?_ | refine st_gy rfl (st_b2s rfl rfl ?_) | refine st_gn rfl ?_ | refine st_gu rfl ?_ | (refine st_nil ?_; (repeat (first | refine kp_cons rfl ?_ | refine kp_skip ?_)); refine kp_nil ?_) | refine awp_seq ?_ | refine aw_end (fun _ _ => rfl) ?_ | refine awp_block ?_ | refine aw_skipE (fun _ _ => rfl) ?_ | refine aw_exitE (fun _ _ => rfl) ?_ | refine awp_cond (t := true) rfl (fun _ => ?_) (fun e => by cases e) | refine awp_cond (t := false) rfl (fun e => by cases e) (fun _ => ?_)))
  refine st_alloc (by simp [AVal.cells, AVal.one]) fun b6 hb6 => ?_
  (repeat (first | refine st_q rfl rfl rfl ?_ | refine st_gy rfl (st_q rfl rfl rfl ?_) | refine st_ldp rfl hget_head rfl rfl ?_ | refine st_gy rfl (st_ldp rfl hget_head rfl rfl ?_) | refine st_b2s rfl rfl ?_ | refine st_gy rfl (st_b2s rfl rfl ?_) | refine st_gn rfl ?_ | refine st_gu rfl ?_ | (refine st_nil ?_; (repeat (first | refine kp_cons rfl ?_ | refine kp_skip ?_)); refine kp_nil ?_) | refine awp_seq ?_ | refine aw_end (fun _ _ => rfl) ?_ | refine awp_block ?_ | refine aw_skipE (fun _ _ => rfl) ?_ | refine aw_exitE (fun _ _ => rfl) ?_ | refine awp_cond (t := true) rfl (fun _ => ?_) (fun e => by cases e) | refine awp_cond (t := false) rfl (fun e => by cases e) (fun _ => ?_)))
  (first | refine st_store rfl hget_head rfl (by decide) (AVal.fit_iff.1 rfl) (fun h => by cases h) hset_head ?_ | refine st_gy rfl (st_store rfl hget_head rfl (by decide) (AVal.fit_iff.1 rfl) (fun h => by cases h) hset_head ?_))
  (refine st_nil ?_; (repeat (first | refine kp_cons rfl ?_ | refine kp_skip ?_)); refine kp_nil ?_)
  refine awp_weaken (FSub.refl _) (HSub.tail _ _) ?_
  (repeat (first | refine st_q rfl rfl rfl ?_ | refine st_gy rfl (st_q rfl rfl rfl ?_) | refine st_ldp rfl hget_head rfl rfl ?_ | refine st_gy rfl (st_ldp rfl hget_head rfl rfl ?_) | refine st_b2s rfl rfl ?_ | refine st_gy rfl (st_b2s rfl rfl ?_) | refine st_gn rfl ?_ | refine st_gu rfl ?_ | (refine st_nil ?_; (repeat (first | refine kp_cons rfl ?_ | refine kp_skip ?_)); refine kp_nil ?_) | refine awp_seq ?_ | refine aw_end (fun _ _ => rfl) ?_ | refine awp_block ?_ | refine aw_skipE (fun _ _ => rfl) ?_ | refine aw_exitE (fun _ _ => rfl) ?_ | refine awp_cond (t := true) rfl (fun _ => ?_) (fun e => by cases e) | refine awp_cond (t := false) rfl (fun e => by cases e) (fun _ => ?_)))
  (first | refine st_callv rfl (hE _) ?_ | refine st_gy rfl (st_callv rfl (hE _) ?_) | refine st_callp rfl hE ?_ | refine st_gy rfl (st_callp rfl hE ?_))
  refine st_alloc (by simp [AVal.cells, AVal.one]) fun b7 hb7 => ?_
  (first | refine st_store rfl hget_head rfl (by decide) (AVal.fit_iff.1 rfl) (fun h => by cases h) hset_head ?_ | refine st_gy rfl (st_store rfl hget_head rfl (by decide) (AVal.fit_iff.1 rfl) (fun h => by cases h) hset_head ?_))
  (refine st_nil ?_; (repeat (first | refine kp_cons rfl ?_ | refine kp_skip ?_)); refine kp_nil ?_)
  (repeat (first | refine st_q rfl rfl rfl ?_ | refine st_gy rfl (st_q rfl rfl rfl ?_) | refine st_ldp rfl hget_head rfl rfl ?_ | refine st_gy rfl (st_ldp rfl hget_head rfl rfl ?_) | refine st_b2s rfl rfl ?_ | refine st_gy rfl (st_b2s rfl rfl ?_) | refine st_gn rfl ?_ | refine st_gu rfl ?_ | (refine st_nil ?_; (repeat (first | refine kp_cons rfl ?_ | refine kp_skip ?_)); refine kp_nil ?_) | refine awp_seq ?_ | refine aw_end (fun _ _ => rfl) ?_ | refine awp_block ?_ | refine aw_skipE (fun _ _ => rfl) ?_ | refine aw_exitE (fun _ _ => rfl) ?_ | refine awp_cond (t := true) rfl (fun _ => ?_) (fun e => by cases e) | refine awp_cond (t := false) rfl (fun e => by cases e) (fun _ => ?_)))
  refine awp_loopN (fun m F σ' => ∃ (i a : Nat) (s : Stt), F = fset 0 (some (.slc 1 (l.map (.int .i64)) false)) (fset 1 (some (.slc 1 (bytes cs) false)) (fset 5 (some (.slc 8 ([⟨tA 4, [1], -1, 1⟩, ⟨.mk 4 [] [] 0 0 0, [], 0, 2⟩].map encN) true)) (fset 7 (some (.ptr b7 0 0)) (fset 8 (some (.int .i64 (a : Int))) (fset 9 (some (.int .i64 (i : Int))) fnone))))) ∧
    (b7, ABlk.cells 15 [encS s]) :: σ1 = σ' ∧ i ≤ cs.length + 1 ∧ a ≤ l.length ∧ (i = cs.length + 1 → a = l.length) ∧ PS l a s ∧ m = cs.length + 1 - i) (n := cs.length + 1)
    ⟨0, 0, _, rfl, rfl, by omega, by omega, fun e => by omega, ⟨by rw [ofL_eq]; rfl, by rw [ofL_eq], by rw [ofF_sp, spC, valsL1]; rfl, ofF_Fit (fit_colL [] (by simp) (by simp))⟩, rfl⟩ ?_
  rintro m F σ' ⟨i, a, s, rfl, rfl, hi, ha, hend, hP, rfl⟩
  (repeat (first | refine st_q rfl rfl rfl ?_ | refine st_gy rfl (st_q rfl rfl rfl ?_) | refine st_ldp rfl hget_head rfl rfl ?_ | refine st_gy rfl (st_ldp rfl hget_head rfl rfl ?_) | refine st_b2s rfl rfl ?_ | refine st_gy rfl (st_b2s rfl rfl ?_) | refine st_gn rfl ?_ | refine st_gu rfl ?_ | (refine st_nil ?_; (repeat (first | refine kp_cons rfl ?_ | refine kp_skip ?_)); refine kp_nil ?_) | refine awp_seq ?_ | refine aw_end (fun _ _ => rfl) ?_ | refine awp_block ?_ | refine aw_skipE (fun _ _ => rfl) ?_ | refine aw_exitE (fun _ _ => rfl) ?_ | refine awp_cond (t := true) rfl (fun _ => ?_) (fun e => by cases e) | refine awp_cond (t := false) rfl (fun e => by cases e) (fun _ => ?_)))
  rw [bytes_length]
  refine awp_condp (p := (i : Int) ≤ (cs.length : Int)) rfl (fun h6 => ?_) (fun h6 => ?_)
  · have hil : i ≤ cs.length := by omega
    have next : ∀ (e : Nat), a ≤ e → e ≤ l.length → (i = cs.length → e = l.length) → ∀ (R : APost), (∀ F σ, R .normal F σ = AWp Try.prog ingotlaw16_StatParts.n (.region ingotlaw16_StatParts_r19 [0, 1, 5, 7, 8, 9]) (ALess (fun m F σ' => ∃ (i a : Nat) (s : Stt), F = fset 0 (some (.slc 1 (l.map (.int .i64)) false)) (fset 1 (some (.slc 1 (bytes cs) false)) (fset 5 (some (.slc 8 ([⟨tA 4, [1], -1, 1⟩, ⟨.mk 4 [] [] 0 0 0, [], 0, 2⟩].map encN) true)) (fset 7 (some (.ptr b7 0 0)) (fset 8 (some (.int .i64 (a : Int))) (fset 9 (some (.int .i64 (i : Int))) fnone))))) ∧
        (b7, ABlk.cells 15 [encS s]) :: σ1 = σ' ∧ i ≤ cs.length + 1 ∧ a ≤ l.length ∧ (i = cs.length + 1 → a = l.length) ∧ PS l a s ∧ m = cs.length + 1 - i) (cs.length + 1 - i) (AInBlock 0 (AThen Try.prog ingotlaw16_StatParts.n (ingotlaw16_StatParts.code.snd 8) (ARet ingotlaw16_StatParts.res fun r σ' => r = .bool true)))) F σ) →
        AWp Try.prog ingotlaw16_StatParts.n (((ingotlaw16_StatParts_l0.snd 1).fst.body).snd 2) R
          (fset 0 (some (.slc 1 (l.map (.int .i64)) false)) (fset 1 (some (.slc 1 (bytes cs) false)) (fset 5 (some (.slc 8 ([⟨tA 4, [1], -1, 1⟩, ⟨.mk 4 [] [] 0 0 0, [], 0, 2⟩].map encN) true)) (fset 7 (some (.ptr b7 0 0)) (fset 8 (some (.int .i64 (a : Int))) (fset 9 (some (.int .i64 (i : Int))) (fset 10 (some (.int .i64 (e : Int))) fnone)))))))
          ((b7, .cells 15 [encS s]) :: σ1) := by
      intro e he1 he2 he3 R hR
      have hpart : ∀ x ∈ (l.drop a).take (e - a), -9223372036854775808 ≤ x ∧ x ≤ 9223372036854775807 := fun x hx => h x (List.mem_of_mem_drop (List.mem_of_mem_take hx))
      have hpl : ((l.drop a).take (e - a)).length ≤ 1000 := by simp; omega
      have hlo := c_longs ((l.drop a).take (e - a)) (false && decide ((e : Int) = (l.length : Int))) hpl
      rw [flatten_tA4] at hlo
      have hFc := fit_colL _ hpl hpart
      have hO := c_Of 4 (cellsN ⟨.mk 4 [] [] 0 0 0, [], 0, 2⟩) rfl rfl (by simp [cellsN, AVal.one]) _ hFc
      have hP1 := hP.next he1 he2 (by omega) h
      have hP2 := hP1.next (Nat.le_refl e) he2 (by omega) h
      rw [take0] at hP2
      have hM1 := c_Merge 4 (cellsN ⟨.mk 4 [] [] 0 0 0, [], 0, 2⟩) rfl rfl (by simp [cellsN, AVal.one]) s _ hP.fit (ofF_Fit (k := 4) hFc)
      have hM2 := c_Merge 4 (cellsN ⟨.mk 4 [] [] 0 0 0, [], 0, 2⟩) rfl rfl (by simp [cellsN, AVal.one]) _ _ hP1.fit (ofF_Fit (k := 4) (fit_colL [] (by simp) (by simp)))
      generalize ofF 4 (colL ((l.drop a).take (e - a))) = Y at hO hM1 hM2 hP1 hP2
      generalize mergeF 4 s Y = S1 at hM1 hM2 hP1 hP2
      generalize ofF 4 (colL []) = E0 at hE hM2 hP2
      generalize mergeF 4 S1 E0 = S2 at hM2 hP2
      refine awp_seq ?_
      refine aw_end (fun _ _ => rfl) ?_
      (repeat (refine st_q rfl rfl rfl ?_))
      refine st_slc (a := (a : Int)) (b := (e : Int)) (c := (l.length : Int)) rfl (by simp [bnds]) (by simp; omega) ?_
      rw [show (((l.map (AVal.int .i64)).drop (a : Int).toNat).take ((e : Int) - (a : Int)).toNat) = ((l.drop a).take (e - a)).map (.int .i64) by rw [Int.toNat_natCast, show ((e : Int) - (a : Int)).toNat = e - a by omega, List.map_take, List.map_drop]]
      rw [List.length_map]
      (first | refine st_callv rfl (hlo _) ?_ | refine st_gy rfl (st_callv rfl (hlo _) ?_) | refine st_callp rfl hlo ?_ | refine st_gy rfl (st_callp rfl hlo ?_))
      (repeat (refine st_q rfl rfl rfl ?_))
      refine st_alloc (by simp [AVal.cells, AVal.one]) fun b12 hb12 => ?_
      (repeat (refine st_q rfl rfl rfl ?_))
      (first | refine st_store rfl hget_head rfl (by decide) (AVal.fit_iff.1 rfl) (fun h => by cases h) hset_head ?_ | refine st_gy rfl (st_store rfl hget_head rfl (by decide) (AVal.fit_iff.1 rfl) (fun h => by cases h) hset_head ?_))
      (refine st_nil ?_; (repeat (first | refine kp_cons rfl ?_ | refine kp_skip ?_)); refine kp_nil ?_)
      refine awp_freezeP (d := 12) (cs := cellsC (colL ((l.drop a).take (e - a)))) rfl ?_
      refine awp_seq ?_
      refine aw_end (fun _ _ => rfl) ?_
      (repeat (refine st_q rfl rfl rfl ?_))
      refine st_ldp rfl hget_head rfl rfl ?_
      (repeat (refine st_q rfl rfl rfl ?_))
      (first | refine st_callv rfl ((c_To15 (colL ((l.drop a).take (e - a)))) _) ?_ | refine st_gy rfl (st_callv rfl ((c_To15 (colL ((l.drop a).take (e - a)))) _) ?_) | refine st_callp rfl (c_To15 (colL ((l.drop a).take (e - a)))) ?_ | refine st_gy rfl (st_callp rfl (c_To15 (colL ((l.drop a).take (e - a)))) ?_))
      (first | refine st_callv rfl (hO _) ?_ | refine st_gy rfl (st_callv rfl (hO _) ?_) | refine st_callp rfl hO ?_ | refine st_gy rfl (st_callp rfl hO ?_))
      (first | refine st_callv rfl (hM1 _) ?_ | refine st_gy rfl (st_callv rfl (hM1 _) ?_) | refine st_callp rfl hM1 ?_ | refine st_gy rfl (st_callp rfl hM1 ?_))
      (repeat (refine st_q rfl rfl rfl ?_))
      (first | refine st_store rfl hget_head rfl (by decide) (AVal.fit_iff.1 rfl) (fun h => by cases h) hset_head ?_ | refine st_gy rfl (st_store rfl hget_head rfl (by decide) (AVal.fit_iff.1 rfl) (fun h => by cases h) hset_head ?_))
      (refine st_nil ?_; (repeat (first | refine kp_cons rfl ?_ | refine kp_skip ?_)); refine kp_nil ?_)
      refine awp_seq ?_
      refine aw_end (fun _ _ => rfl) ?_
      (repeat (refine st_q rfl rfl rfl ?_))
      refine st_ldp rfl hget_head rfl rfl ?_
      (repeat (refine st_q rfl rfl rfl ?_))
      (first | refine st_callv rfl (hE _) ?_ | refine st_gy rfl (st_callv rfl (hE _) ?_) | refine st_callp rfl hE ?_ | refine st_gy rfl (st_callp rfl hE ?_))
      (first | refine st_callv rfl (hM2 _) ?_ | refine st_gy rfl (st_callv rfl (hM2 _) ?_) | refine st_callp rfl hM2 ?_ | refine st_gy rfl (st_callp rfl hM2 ?_))
      (repeat (refine st_q rfl rfl rfl ?_))
      (first | refine st_store rfl hget_head rfl (by decide) (AVal.fit_iff.1 rfl) (fun h => by cases h) hset_head ?_ | refine st_gy rfl (st_store rfl hget_head rfl (by decide) (AVal.fit_iff.1 rfl) (fun h => by cases h) hset_head ?_))
      (refine st_nil ?_; (repeat (first | refine kp_cons rfl ?_ | refine kp_skip ?_)); refine kp_nil ?_)
      refine aw_end hR ?_
      (repeat (refine st_q rfl rfl rfl ?_))
      (refine st_nil ?_; (repeat (first | refine kp_cons rfl ?_ | refine kp_skip ?_)); refine kp_nil ?_)
      refine aw_round ?_
      (repeat (refine st_q rfl rfl rfl ?_))
      rw [show IntKind.wrap .i64 ((i : Int) + 1) = ((i + 1 : Nat) : Int) by rw [w64 _ (by omega) (by omega)]; omega]
      (refine st_nil ?_; (repeat (first | refine kp_cons rfl ?_ | refine kp_skip ?_)); refine kp_nil ?_)
      exact ⟨_, cs.length + 1 - (i + 1), HSub.refl _, ⟨i + 1, e, S2, rfl, rfl, by omega, he2, fun q => he3 (by omega), hP2, rfl⟩, by omega⟩
    (repeat (first | refine st_q rfl rfl rfl ?_ | refine st_gy rfl (st_q rfl rfl rfl ?_) | refine st_ldp rfl hget_head rfl rfl ?_ | refine st_gy rfl (st_ldp rfl hget_head rfl rfl ?_) | refine st_b2s rfl rfl ?_ | refine st_gy rfl (st_b2s rfl rfl ?_) | refine st_gn rfl ?_ | refine st_gu rfl ?_ | (refine st_nil ?_; (repeat (first | refine kp_cons rfl ?_ | refine kp_skip ?_)); refine kp_nil ?_) | refine awp_seq ?_ | refine aw_end (fun _ _ => rfl) ?_ | refine awp_block ?_ | refine aw_skipE (fun _ _ => rfl) ?_ | refine aw_exitE (fun _ _ => rfl) ?_ | refine awp_cond (t := true) rfl (fun _ => ?_) (fun e => by cases e) | refine awp_cond (t := false) rfl (fun e => by cases e) (fun _ => ?_)))
    rw [List.length_map]
    rw [bytes_length]
    by_cases h7 : i < cs.length
    · (rw [show decide ((i : Int) < (cs.length : Int)) = true from decide_eq_true (by omega)])
      have hg : (bytes cs)[((i : Nat) : Int).toNat]? = some (byte cs[i]) := by
        rw [Int.toNat_natCast, bytes_get, List.getElem?_eq_getElem h7]; rfl
      have hu8 : ((cs[i].toNat : Nat) : Int) ≤ 255 := by have := cs[i].toNat_lt; omega
      obtain ⟨q, hq1, hq2⟩ := and7 ((cs[i].toNat : Nat) : Int) (by omega)
      (repeat (first | refine st_q rfl rfl rfl ?_ | refine st_gy rfl (st_q rfl rfl rfl ?_) | refine st_ldp rfl hget_head rfl rfl ?_ | refine st_gy rfl (st_ldp rfl hget_head rfl rfl ?_) | refine st_b2s rfl rfl ?_ | refine st_gy rfl (st_b2s rfl rfl ?_) | refine st_gn rfl ?_ | refine st_gu rfl ?_ | (refine st_nil ?_; (repeat (first | refine kp_cons rfl ?_ | refine kp_skip ?_)); refine kp_nil ?_) | refine awp_seq ?_ | refine aw_end (fun _ _ => rfl) ?_ | refine awp_block ?_ | refine aw_skipE (fun _ _ => rfl) ?_ | refine aw_exitE (fun _ _ => rfl) ?_ | refine awp_cond (t := true) rfl (fun _ => ?_) (fun e => by cases e) | refine awp_cond (t := false) rfl (fun e => by cases e) (fun _ => ?_)))
      refine st_gy rfl (st_iad rfl (by omega) hg ?_)
      (repeat (first | refine st_q rfl rfl rfl ?_ | refine st_gy rfl (st_q rfl rfl rfl ?_) | refine st_ldp rfl hget_head rfl rfl ?_ | refine st_gy rfl (st_ldp rfl hget_head rfl rfl ?_) | refine st_b2s rfl rfl ?_ | refine st_gy rfl (st_b2s rfl rfl ?_) | refine st_gn rfl ?_ | refine st_gu rfl ?_ | (refine st_nil ?_; (repeat (first | refine kp_cons rfl ?_ | refine kp_skip ?_)); refine kp_nil ?_) | refine awp_seq ?_ | refine aw_end (fun _ _ => rfl) ?_ | refine awp_block ?_ | refine aw_skipE (fun _ _ => rfl) ?_ | refine aw_exitE (fun _ _ => rfl) ?_ | refine awp_cond (t := true) rfl (fun _ => ?_) (fun e => by cases e) | refine awp_cond (t := false) rfl (fun e => by cases e) (fun _ => ?_)))
      rw [hq2, List.length_map, w64 ((l.length : Int) - (a : Int)) (by omega) (by omega)]
      refine awp_condp (p := (q : Int) < (l.length : Int) - (a : Int)) rfl (fun h8 => ?_) (fun h8 => ?_)
      · refine aw_end (fun _ _ => rfl) ?_
        (repeat (refine st_q rfl rfl rfl ?_))
        refine st_iad rfl (by omega) hg ?_
        (repeat (refine st_q rfl rfl rfl ?_))
        rw [hq2, show IntKind.wrap .i64 ((a : Int) + (q : Int)) = ((a + q : Nat) : Int) by rw [w64 _ (by omega) (by omega)]; omega]
        (refine st_nil ?_; (repeat (first | refine kp_cons rfl ?_ | refine kp_skip ?_)); refine kp_nil ?_)
        exact next (a + q) (by omega) (by omega) (fun e => by omega) _ (fun _ _ => rfl)
      · refine aw_skipE (fun _ _ => rfl) ?_
        (refine kp_weaken (keep := [0, 1, 5, 7, 8, 9, 10]) ?_; ((repeat (first | refine kp_cons rfl ?_ | refine kp_skip ?_)); refine kp_nil ?_))
        exact next l.length (by omega) (by omega) (fun e => rfl) _ (fun _ _ => rfl)
    · (rw [show decide ((i : Int) < (cs.length : Int)) = false from decide_eq_false (by omega)])
      (repeat (first | refine st_q rfl rfl rfl ?_ | refine st_gy rfl (st_q rfl rfl rfl ?_) | refine st_gn rfl ?_ | refine st_gu rfl ?_))
      (refine st_nil ?_; (repeat (first | refine kp_cons rfl ?_ | refine kp_skip ?_)); refine kp_nil ?_)
      (refine awp_cond (t := false) rfl (fun e => by cases e) (fun _ => ?_); refine aw_skipE (fun _ _ => rfl) ?_)
      (refine kp_weaken (keep := [0, 1, 5, 7, 8, 9, 10]) ?_; ((repeat (first | refine kp_cons rfl ?_ | refine kp_skip ?_)); refine kp_nil ?_))
      exact next l.length (by omega) (by omega) (fun e => rfl) _ (fun _ _ => rfl)
  · have hal := hend (by omega)
    subst hal
    obtain ⟨x0, l', rfl⟩ : ∃ x0 l', l = x0 :: l' := by
      cases l with
      | nil => simp at h5
      | cons x0 l' => exact ⟨x0, l', rfl⟩
    have hsp := hP.sp
    rw [List.take_length, List.map_cons, List.foldl_cons, show spStep 4 sp0 (vI x0) = ⟨true, vI x0, vI x0⟩ from rfl, fold_vI] at hsp
    have hcnt := hP.count
    have hnul := hP.null
    have e1 : s.has = true := congrArg Sp.has hsp
    have e2 : s.min = vI (l'.foldl minS x0) := congrArg Sp.min hsp
    have e3 : s.max = vI (l'.foldl maxS x0) := congrArg Sp.max hsp
    have e4 : (x0 :: l').foldl minS x0 = l'.foldl minS x0 := by simp [minS]
    have e5 : (x0 :: l').foldl maxS x0 = l'.foldl maxS x0 := by simp [maxS]
    generalize l'.foldl minS x0 = LO at e2 e4
    generalize l'.foldl maxS x0 = HI at e3 e5
    obtain ⟨c, n, hh, mi, ma, su, sm⟩ := s
    simp only at hcnt hnul e1 e2 e3
    subst hcnt hnul e1 e2 e3
    refine awp_freezeP (d := 7) (cs := cellsP ((x0 :: l').length : Int) LO HI su sm) rfl ?_
    (repeat (first | refine st_q rfl rfl rfl ?_ | refine st_gy rfl (st_q rfl rfl rfl ?_) | refine st_ldp rfl hget_head rfl rfl ?_ | refine st_gy rfl (st_ldp rfl hget_head rfl rfl ?_) | refine st_b2s rfl rfl ?_ | refine st_gy rfl (st_b2s rfl rfl ?_) | refine st_gn rfl ?_ | refine st_gu rfl ?_ | (refine st_nil ?_; (repeat (first | refine kp_cons rfl ?_ | refine kp_skip ?_)); refine kp_nil ?_) | refine awp_seq ?_ | refine aw_end (fun _ _ => rfl) ?_ | refine awp_block ?_ | refine aw_skipE (fun _ _ => rfl) ?_ | refine aw_exitE (fun _ _ => rfl) ?_ | refine awp_cond (t := true) rfl (fun _ => ?_) (fun e => by cases e) | refine awp_cond (t := false) rfl (fun e => by cases e) (fun _ => ?_)))
    generalize hL : x0 :: l' = L at *
    have hx0 : (L.map (AVal.int .i64))[0]? = some (.int .i64 x0) := by rw [← hL]; rfl
    refine awp_loopN (fun m F σ' => ∃ (j : Nat) (lo hi : Int), F = fset 0 (some (.slc 1 (L.map (.int .i64)) false)) (fset 7 (some (.iptr (cellsP (L.length : Int) LO HI su sm))) (fset 13 (some (.int .i64 lo)) (fset 14 (some (.int .i64 hi)) (fset 15 (some (.int .i64 (j : Int))) fnone)))) ∧
      σ1 = σ' ∧ j ≤ L.length ∧ (L.drop j).foldl minS lo = LO ∧ (L.drop j).foldl maxS hi = HI ∧ m = L.length - j) (n := L.length)
      ⟨0, x0, x0, by rw [← hL]; rfl, rfl, by omega, e4, e5, rfl⟩ ?_
    rintro m F σ' ⟨j, lo, hi, rfl, rfl, hj, hlo, hhi, rfl⟩
    (repeat (first | refine st_q rfl rfl rfl ?_ | refine st_gy rfl (st_q rfl rfl rfl ?_) | refine st_ldp rfl hget_head rfl rfl ?_ | refine st_gy rfl (st_ldp rfl hget_head rfl rfl ?_) | refine st_b2s rfl rfl ?_ | refine st_gy rfl (st_b2s rfl rfl ?_) | refine st_gn rfl ?_ | refine st_gu rfl ?_ | (refine st_nil ?_; (repeat (first | refine kp_cons rfl ?_ | refine kp_skip ?_)); refine kp_nil ?_) | refine awp_seq ?_ | refine aw_end (fun _ _ => rfl) ?_ | refine awp_block ?_ | refine aw_skipE (fun _ _ => rfl) ?_ | refine aw_exitE (fun _ _ => rfl) ?_ | refine awp_cond (t := true) rfl (fun _ => ?_) (fun e => by cases e) | refine awp_cond (t := false) rfl (fun e => by cases e) (fun _ => ?_)))
    rw [List.length_map]
    refine awp_condp (p := (j : Int) < (L.length : Int)) rfl (fun h8 => ?_) (fun h8 => ?_)
    · have hjl : j < L.length := by omega
      rw [List.drop_eq_getElem_cons hjl, List.foldl_cons] at hlo hhi
      have hg := map_get (f := AVal.int .i64) hjl
      generalize L[j] = x at hlo hhi hg
      have round : ∀ (hi2 : Int), (L.drop (j + 1)).foldl maxS hi2 = HI → AWp Try.prog ingotlaw16_StatParts.n (.region ingotlaw16_StatParts_r28 [0, 7, 13, 14, 15]) (ALess (fun m F σ' => ∃ (j : Nat) (lo hi : Int), F = fset 0 (some (.slc 1 (L.map (.int .i64)) false)) (fset 7 (some (.iptr (cellsP (L.length : Int) LO HI su sm))) (fset 13 (some (.int .i64 lo)) (fset 14 (some (.int .i64 hi)) (fset 15 (some (.int .i64 (j : Int))) fnone)))) ∧
          σ1 = σ' ∧ j ≤ L.length ∧ (L.drop j).foldl minS lo = LO ∧ (L.drop j).foldl maxS hi = HI ∧ m = L.length - j) (L.length - j) (AInBlock 2 (AThen Try.prog ingotlaw16_StatParts.n (ingotlaw16_StatParts.code.snd 11) (ARet ingotlaw16_StatParts.res fun r σ' => r = .bool true))))
          (fset 0 (some (.slc 1 (L.map (.int .i64)) false)) (fset 7 (some (.iptr (cellsP (L.length : Int) LO HI su sm))) (fset 13 (some (.int .i64 (minS lo x))) (fset 14 (some (.int .i64 hi2)) (fset 15 (some (.int .i64 (j : Int))) fnone))))) σ1 := by
        intro hi2 hh2
        refine aw_round ?_
        (repeat (refine st_q rfl rfl rfl ?_))
        rw [show IntKind.wrap .i64 ((j : Int) + 1) = ((j + 1 : Nat) : Int) by rw [w64 _ (by omega) (by omega)]; omega]
        (refine st_nil ?_; (repeat (first | refine kp_cons rfl ?_ | refine kp_skip ?_)); refine kp_nil ?_)
        exact ⟨_, L.length - (j + 1), HSub.refl _, ⟨j + 1, _, _, rfl, rfl, by omega, hlo, hh2, rfl⟩, by omega⟩
      have max2 : ∀ (R : APost), (∀ F σ, R .normal F σ = AWp Try.prog ingotlaw16_StatParts.n (.region ingotlaw16_StatParts_r28 [0, 7, 13, 14, 15]) (ALess (fun m F σ' => ∃ (j : Nat) (lo hi : Int), F = fset 0 (some (.slc 1 (L.map (.int .i64)) false)) (fset 7 (some (.iptr (cellsP (L.length : Int) LO HI su sm))) (fset 13 (some (.int .i64 lo)) (fset 14 (some (.int .i64 hi)) (fset 15 (some (.int .i64 (j : Int))) fnone)))) ∧
          σ1 = σ' ∧ j ≤ L.length ∧ (L.drop j).foldl minS lo = LO ∧ (L.drop j).foldl maxS hi = HI ∧ m = L.length - j) (L.length - j) (AInBlock 2 (AThen Try.prog ingotlaw16_StatParts.n (ingotlaw16_StatParts.code.snd 11) (ARet ingotlaw16_StatParts.res fun r σ' => r = .bool true)))) F σ) →
          AWp Try.prog ingotlaw16_StatParts.n (((ingotlaw16_StatParts_l1.snd 1).fst.body).snd 1) R
          (fset 0 (some (.slc 1 (L.map (.int .i64)) false)) (fset 7 (some (.iptr (cellsP (L.length : Int) LO HI su sm))) (fset 13 (some (.int .i64 (minS lo x))) (fset 14 (some (.int .i64 hi)) (fset 15 (some (.int .i64 (j : Int))) fnone))))) σ1 := by
        intro R hR
        refine awp_seq ?_
        refine aw_end (fun _ _ => rfl) ?_
        (repeat (refine st_q rfl rfl rfl ?_))
        refine st_iad rfl (by omega) hg ?_
        (repeat (refine st_q rfl rfl rfl ?_))
        (refine st_nil ?_; (repeat (first | refine kp_cons rfl ?_ | refine kp_skip ?_)); refine kp_nil ?_)
        refine awp_condp (p := hi < x) rfl (fun h9 => ?_) (fun h9 => ?_)
        · refine aw_end hR ?_
          (repeat (refine st_q rfl rfl rfl ?_))
          refine st_iad rfl (by omega) hg ?_
          (repeat (refine st_q rfl rfl rfl ?_))
          (refine st_nil ?_; (repeat (first | refine kp_cons rfl ?_ | refine kp_skip ?_)); refine kp_nil ?_)
          exact round x (by rw [maxS, if_pos h9] at hhi; exact hhi)
        · refine aw_skipE hR ?_
          (refine kp_weaken (keep := [0, 7, 13, 14, 15]) ?_; ((repeat (first | refine kp_cons rfl ?_ | refine kp_skip ?_)); refine kp_nil ?_))
          exact round hi (by rw [maxS, if_neg h9] at hhi; exact hhi)
      (repeat (first | refine st_q rfl rfl rfl ?_ | refine st_gy rfl (st_q rfl rfl rfl ?_) | refine st_ldp rfl hget_head rfl rfl ?_ | refine st_gy rfl (st_ldp rfl hget_head rfl rfl ?_) | refine st_b2s rfl rfl ?_ | refine st_gy rfl (st_b2s rfl rfl ?_) | refine st_gn rfl ?_ | refine st_gu rfl ?_ | (refine st_nil ?_; (repeat (first | refine kp_cons rfl ?_ | refine kp_skip ?_)); refine kp_nil ?_) | refine awp_seq ?_ | refine aw_end (fun _ _ => rfl) ?_ | refine awp_block ?_ | refine aw_skipE (fun _ _ => rfl) ?_ | refine aw_exitE (fun _ _ => rfl) ?_ | refine awp_cond (t := true) rfl (fun _ => ?_) (fun e => by cases e) | refine awp_cond (t := false) rfl (fun e => by cases e) (fun _ => ?_)))
      refine st_iad rfl (by omega) hg ?_
      (repeat (first | refine st_q rfl rfl rfl ?_ | refine st_gy rfl (st_q rfl rfl rfl ?_) | refine st_ldp rfl hget_head rfl rfl ?_ | refine st_gy rfl (st_ldp rfl hget_head rfl rfl ?_) | refine st_b2s rfl rfl ?_ | refine st_gy rfl (st_b2s rfl rfl ?_) | refine st_gn rfl ?_ | refine st_gu rfl ?_ | (refine st_nil ?_; (repeat (first | refine kp_cons rfl ?_ | refine kp_skip ?_)); refine kp_nil ?_) | refine awp_seq ?_ | refine aw_end (fun _ _ => rfl) ?_ | refine awp_block ?_ | refine aw_skipE (fun _ _ => rfl) ?_ | refine aw_exitE (fun _ _ => rfl) ?_ | refine awp_cond (t := true) rfl (fun _ => ?_) (fun e => by cases e) | refine awp_cond (t := false) rfl (fun e => by cases e) (fun _ => ?_)))
      refine awp_condp (p := x < lo) rfl (fun h9 => ?_) (fun h9 => ?_)
      · refine aw_end (fun _ _ => rfl) ?_
        (repeat (refine st_q rfl rfl rfl ?_))
        refine st_iad rfl (by omega) hg ?_
        (repeat (refine st_q rfl rfl rfl ?_))
        (refine st_nil ?_; (repeat (first | refine kp_cons rfl ?_ | refine kp_skip ?_)); refine kp_nil ?_)
        rw [show minS lo x = x from if_pos h9] at max2
        exact max2 _ (fun _ _ => rfl)
      · refine aw_skipE (fun _ _ => rfl) ?_
        (refine kp_weaken (keep := [0, 7, 13, 14, 15]) ?_; ((repeat (first | refine kp_cons rfl ?_ | refine kp_skip ?_)); refine kp_nil ?_))
        rw [show minS lo x = lo from if_neg h9] at max2
        exact max2 _ (fun _ _ => rfl)
    · rw [List.drop_of_length_le (by omega), List.foldl_nil] at hlo hhi
      subst hlo hhi
      (repeat (first | refine st_q rfl rfl rfl ?_ | refine st_gy rfl (st_q rfl rfl rfl ?_) | refine st_ldp rfl hget_head rfl rfl ?_ | refine st_gy rfl (st_ldp rfl hget_head rfl rfl ?_) | refine st_b2s rfl rfl ?_ | refine st_gy rfl (st_b2s rfl rfl ?_) | refine st_gn rfl ?_ | refine st_gu rfl ?_ | (refine st_nil ?_; (repeat (first | refine kp_cons rfl ?_ | refine kp_skip ?_)); refine kp_nil ?_) | refine awp_seq ?_ | refine aw_end (fun _ _ => rfl) ?_ | refine awp_block ?_ | refine aw_skipE (fun _ _ => rfl) ?_ | refine aw_exitE (fun _ _ => rfl) ?_ | refine awp_cond (t := true) rfl (fun _ => ?_) (fun e => by cases e) | refine awp_cond (t := false) rfl (fun e => by cases e) (fun _ => ?_)))
      rw [List.length_map]
      rw [show decide ((L.length : Int) = (L.length : Int)) = true from decide_eq_true rfl]
      (repeat (first | refine st_q rfl rfl rfl ?_ | refine st_gy rfl (st_q rfl rfl rfl ?_) | refine st_ldp rfl hget_head rfl rfl ?_ | refine st_gy rfl (st_ldp rfl hget_head rfl rfl ?_) | refine st_b2s rfl rfl ?_ | refine st_gy rfl (st_b2s rfl rfl ?_) | refine st_gn rfl ?_ | refine st_gu rfl ?_ | (refine st_nil ?_; (repeat (first | refine kp_cons rfl ?_ | refine kp_skip ?_)); refine kp_nil ?_) | refine awp_seq ?_ | refine aw_end (fun _ _ => rfl) ?_ | refine awp_block ?_ | refine aw_skipE (fun _ _ => rfl) ?_ | refine aw_exitE (fun _ _ => rfl) ?_ | refine awp_cond (t := true) rfl (fun _ => ?_) (fun e => by cases e) | refine awp_cond (t := false) rfl (fun e => by cases e) (fun _ => ?_)))
      rw [show decide (lo = lo) = true from decide_eq_true rfl]
      (repeat (first | refine st_q rfl rfl rfl ?_ | refine st_gy rfl (st_q rfl rfl rfl ?_) | refine st_ldp rfl hget_head rfl rfl ?_ | refine st_gy rfl (st_ldp rfl hget_head rfl rfl ?_) | refine st_b2s rfl rfl ?_ | refine st_gy rfl (st_b2s rfl rfl ?_) | refine st_gn rfl ?_ | refine st_gu rfl ?_ | (refine st_nil ?_; (repeat (first | refine kp_cons rfl ?_ | refine kp_skip ?_)); refine kp_nil ?_) | refine awp_seq ?_ | refine aw_end (fun _ _ => rfl) ?_ | refine awp_block ?_ | refine aw_skipE (fun _ _ => rfl) ?_ | refine aw_exitE (fun _ _ => rfl) ?_ | refine awp_cond (t := true) rfl (fun _ => ?_) (fun e => by cases e) | refine awp_cond (t := false) rfl (fun e => by cases e) (fun _ => ?_)))
      refine awp_ret ?_
      exact ares rfl (HSub.refl _) (by simp [tupOf])
end Go.Abs

