/- The small code of functions, printed by program. -/
import Derived.Test.YtgmefkhincnajaaDoorAbsC
import Derived.Test.YtgmefkhincnajaaDoorAbsD
import Derived.Test.YtgmefkhincnajaaDoorANum
namespace Go.Abs
open Go
def ingotlaw13_Few_r0 : List AOper := [
  ⟨some 1, (.box 6), [.t 0], none⟩,
  ⟨some 2, .mov, [.c (.bool false)], none⟩]
def ingotlaw13_Few_r1 : List AOper := [
  ⟨some 4, (.load true 6), [.t 1], none⟩,
  ⟨some 5, (.call f_ingotlaw13_few), [.t 4, .c (.int .i64 1)], none⟩,
  ⟨some 3, .mov, [.t 5], none⟩]
def ingotlaw13_Few_r2 : List AOper := [
  ⟨some 6, .mov, [.t 3], none⟩,
  ⟨some 7, (.bin .leq), [.t 6, .c (.int .i64 150)], none⟩,
  ⟨some 2, .mov, [.t 7], none⟩]
def ingotlaw13_Few : AFunc := ⟨8, (.seq (.region ingotlaw13_Few_r0 [1]) (.seq (.region ingotlaw13_Few_r1 [3]) (.seq (.region ingotlaw13_Few_r2 [2]) .ret))), [.t 2]⟩
def ingotlaw13_few_r0 : List AOper := [
  ⟨some 2, (.box 6), [.t 0], none⟩,
  ⟨some 4, .mov, [.c (.int .i64 0)], none⟩]
def ingotlaw13_few_r1 : List AOper := [
  ⟨some 8, .mov, [.t 1], none⟩,
  ⟨some 9, (.bin .gtr), [.t 8, .c (.int .i64 20)], none⟩,
  ⟨some 10, .mov, [.t 9], none⟩,
  ⟨some 11, (.fad 2), [.t 2], some (10, false)⟩,
  ⟨some 12, (.load false 1), [.t 11], some (10, false)⟩,
  ⟨some 13, .lens, [.t 12], some (10, false)⟩,
  ⟨some 14, (.bin .gtr), [.t 13, .c (.int .i64 300)], some (10, false)⟩,
  ⟨some 15, .pick, [.t 10, .c (.bool true), .t 14], none⟩,
  ⟨some 16, .mov, [.t 15], none⟩,
  ⟨some 17, (.fad 1), [.t 2], some (16, false)⟩,
  ⟨some 18, (.load false 1), [.t 17], some (16, false)⟩,
  ⟨some 19, .lens, [.t 18], some (16, false)⟩,
  ⟨some 20, (.bin .gtr), [.t 19, .c (.int .i64 300)], some (16, false)⟩,
  ⟨some 21, .pick, [.t 16, .c (.bool true), .t 20], none⟩]
def ingotlaw13_few_r2 : List AOper := [
  ⟨some 4, .mov, [.c (.int .i64 1000)], none⟩]
def ingotlaw13_few_r3 : List AOper := [
  ⟨some 5, .mov, [.c (.int .i64 1)], none⟩]
def ingotlaw13_few_r4 : List AOper := [
  ⟨some 6, .mov, [.c (.int .i64 0)], none⟩]
def ingotlaw13_few_r5 : List AOper := [
  ⟨some 22, .mov, [.t 6], none⟩,
  ⟨some 23, (.fad 1), [.t 2], none⟩,
  ⟨some 24, (.load false 1), [.t 23], none⟩,
  ⟨some 25, .lens, [.t 24], none⟩,
  ⟨some 26, (.bin .lss), [.t 22, .t 25], none⟩]
def ingotlaw13_few_r6 : List AOper := [
  ⟨some 29, (.fad 1), [.t 2], none⟩,
  ⟨some 30, (.load false 1), [.t 29], none⟩,
  ⟨some 31, .mov, [.t 6], none⟩,
  ⟨some 32, (.iad 1), [.t 30, .t 31], none⟩,
  ⟨some 33, (.load false 1), [.t 32], none⟩,
  ⟨some 34, .lent, [.t 33], none⟩,
  ⟨some 35, (.bin .gtr), [.t 34, .c (.int .i64 200)], none⟩]
def ingotlaw13_few_r7 : List AOper := [
  ⟨some 4, .mov, [.c (.int .i64 1000)], none⟩]
def ingotlaw13_few_r8 : List AOper := [
  ⟨some 27, .mov, [.t 6], none⟩,
  ⟨some 28, (.bin .add), [.t 27, .c (.int .i64 1)], none⟩,
  ⟨some 6, .mov, [.t 28], none⟩]
def ingotlaw13_few_l0 : ACode := (.seq (.seq (.region ingotlaw13_few_r5 [1, 2, 5, 6, 26]) (.cond (.t 26) .skip (.exit 0))) (.seq (.block 1 (.seq (.region ingotlaw13_few_r6 [1, 2, 5, 6, 35]) (.cond (.t 35) (.seq (.region ingotlaw13_few_r7 [4]) .ret) .skip))) (.region ingotlaw13_few_r8 [1, 2, 5, 6])))
def ingotlaw13_few_r9 : List AOper := [
  ⟨some 7, .mov, [.c (.int .i64 0)], none⟩]
def ingotlaw13_few_r10 : List AOper := [
  ⟨some 36, .mov, [.t 7], none⟩,
  ⟨some 37, (.fad 2), [.t 2], none⟩,
  ⟨some 38, (.load false 1), [.t 37], none⟩,
  ⟨some 39, .lens, [.t 38], none⟩,
  ⟨some 40, (.bin .lss), [.t 36, .t 39], none⟩]
def ingotlaw13_few_r11 : List AOper := [
  ⟨some 43, .mov, [.t 5], none⟩,
  ⟨some 44, (.fad 2), [.t 2], none⟩,
  ⟨some 45, (.load false 1), [.t 44], none⟩,
  ⟨some 46, .mov, [.t 7], none⟩,
  ⟨some 47, (.iad 6), [.t 45, .t 46], none⟩,
  ⟨some 48, (.load true 6), [.t 47], none⟩,
  ⟨some 49, .mov, [.t 1], none⟩,
  ⟨some 50, (.bin .add), [.t 49, .c (.int .i64 1)], none⟩,
  ⟨some 51, (.call f_ingotlaw13_few), [.t 48, .t 50], none⟩,
  ⟨some 52, (.bin .add), [.t 43, .t 51], none⟩,
  ⟨some 5, .mov, [.t 52], none⟩]
def ingotlaw13_few_r12 : List AOper := [
  ⟨some 53, .mov, [.t 5], none⟩,
  ⟨some 54, (.bin .gtr), [.t 53, .c (.int .i64 1000)], none⟩]
def ingotlaw13_few_r13 : List AOper := [
  ⟨some 4, .mov, [.c (.int .i64 1000)], none⟩]
def ingotlaw13_few_r14 : List AOper := [
  ⟨some 41, .mov, [.t 7], none⟩,
  ⟨some 42, (.bin .add), [.t 41, .c (.int .i64 1)], none⟩,
  ⟨some 7, .mov, [.t 42], none⟩]
def ingotlaw13_few_l1 : ACode := (.seq (.seq (.region ingotlaw13_few_r10 [1, 2, 5, 7, 40]) (.cond (.t 40) .skip (.exit 2))) (.seq (.block 3 (.seq (.region ingotlaw13_few_r11 [1, 2, 5, 7]) (.seq (.region ingotlaw13_few_r12 [1, 2, 5, 7, 54]) (.cond (.t 54) (.seq (.region ingotlaw13_few_r13 [4]) .ret) .skip)))) (.region ingotlaw13_few_r14 [1, 2, 5, 7])))
def ingotlaw13_few_r15 : List AOper := [
  ⟨some 55, .mov, [.t 5], none⟩,
  ⟨some 4, .mov, [.t 55], none⟩]
def ingotlaw13_few : AFunc := ⟨56, (.seq (.region ingotlaw13_few_r0 [1, 2]) (.seq (.seq (.region ingotlaw13_few_r1 [1, 2, 21]) (.cond (.t 21) (.seq (.region ingotlaw13_few_r2 [4]) .ret) .skip)) (.seq (.region ingotlaw13_few_r3 [1, 2, 5]) (.seq (.seq (.region ingotlaw13_few_r4 [1, 2, 5, 6]) (.block 0 (.loop ingotlaw13_few_l0))) (.seq (.seq (.region ingotlaw13_few_r9 [1, 2, 5, 7]) (.block 2 (.loop ingotlaw13_few_l1))) (.seq (.region ingotlaw13_few_r15 [4]) .ret)))))), [.t 4]⟩
end Go.Abs
