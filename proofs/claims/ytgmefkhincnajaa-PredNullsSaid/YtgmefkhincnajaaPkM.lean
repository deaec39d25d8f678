/- Part M of a proof: merged by program. -/
import Derived.Test.YtgmefkhincnajaaPkL
import Derived.Test.YtgmefkhincnajaaProg
import Derived.KernelRfl
namespace Go.Abs
open Go
def Z18d : List Z2a := [
  ⟨some 10, .mov, [.c (.bool false)], none⟩]
def Z18e : List Z2a := [
  ⟨some 18, (.call Zd5), [], none⟩,
  ⟨some 19, .unot, [.t 18], none⟩]
def Z18f : List Z2a := [
  ⟨some 10, .mov, [.c (.bool false)], none⟩]
def Z18g : List Z2a := [
  ⟨some 20, (.call Zdf), [], none⟩,
  ⟨some 11, .mov, [.t 20], none⟩]
def Z18h : List Z2a := [
  ⟨some 21, .mov, [.t 11], none⟩,
  ⟨some 22, .lens, [.t 21], none⟩,
  ⟨some 23, (.bin .neq), [.t 22, .c (.int .i64 2)], none⟩,
  ⟨some 24, .mov, [.t 23], none⟩,
  ⟨some 25, .mov, [.t 0], some (24, false)⟩,
  ⟨some 26, (.bin .lss), [.t 25, .c (.int .i64 1)], some (24, false)⟩,
  ⟨some 27, .pick, [.t 24, .c (.bool true), .t 26], none⟩,
  ⟨some 28, .mov, [.t 27], none⟩,
  ⟨some 29, .mov, [.t 0], some (28, false)⟩,
  ⟨some 30, (.bin .gtr), [.t 29, .c (.int .i64 6)], some (28, false)⟩,
  ⟨some 31, .pick, [.t 28, .c (.bool true), .t 30], none⟩,
  ⟨some 32, .mov, [.t 31], none⟩,
  ⟨some 33, .mov, [.t 3], some (32, false)⟩,
  ⟨some 34, .mov, [.t 4], some (32, false)⟩,
  ⟨some 35, (.bin .gtr), [.t 33, .t 34], some (32, false)⟩,
  ⟨some 36, .pick, [.t 32, .c (.bool true), .t 35], none⟩]
def Z18i : List Z2a := [
  ⟨some 37, .mov, [.t 0], none⟩,
  ⟨some 38, (.bin .lss), [.t 37, .c (.int .i64 1)], none⟩,
  ⟨some 39, .mov, [.t 38], none⟩,
  ⟨some 40, .mov, [.t 0], some (39, false)⟩,
  ⟨some 41, (.bin .gtr), [.t 40, .c (.int .i64 6)], some (39, false)⟩,
  ⟨some 42, .pick, [.t 39, .c (.bool true), .t 41], none⟩,
  ⟨some 43, .mov, [.t 42], none⟩,
  ⟨some 44, .mov, [.t 3], some (43, false)⟩,
  ⟨some 45, .mov, [.t 4], some (43, false)⟩,
  ⟨some 46, (.bin .gtr), [.t 44, .t 45], some (43, false)⟩,
  ⟨some 47, .pick, [.t 43, .c (.bool true), .t 46], none⟩,
  ⟨some 10, .mov, [.t 47], none⟩]
def Z18j : List Z2a := [
  ⟨some 48, .mov, [.t 0], none⟩,
  ⟨some 49, .mov, [.t 1], none⟩,
  ⟨some 50, (.bld [(.bool false), (.int .i64 0), (.int .i64 0), (.slc 0 [] true), (.slc 0 [] true)] [(1, 1)]), [.t 49], none⟩,
  ⟨some 51, (.bld [(.int .i64 0), (.int .i64 0), (.bool false), (.int .i64 0), (.int .i64 0), (.slc 0 [] true), (.slc 0 [] true)] [(0, 1), (1, 1), (2, 5)]), [.c (.int .i64 1), .t 48, .t 50], none⟩,
  ⟨some 52, (.bsl 7), [.t 51], none⟩,
  ⟨some 12, .mov, [.t 52], none⟩]
def Z18k : List Z2a := [
  ⟨some 53, .mov, [.t 2], none⟩,
  ⟨some 54, .mov, [.t 1], none⟩,
  ⟨some 55, (.bin .eql), [.t 53, .t 54], none⟩,
  ⟨some 56, .mov, [.t 2], none⟩,
  ⟨some 57, .mov, [.t 1], none⟩,
  ⟨some 58, (.bin .neq), [.t 56, .t 57], none⟩,
  ⟨some 59, .mov, [.t 2], none⟩,
  ⟨some 60, .mov, [.t 1], none⟩,
  ⟨some 61, (.bin .lss), [.t 59, .t 60], none⟩,
  ⟨some 62, .mov, [.t 2], none⟩,
  ⟨some 63, .mov, [.t 1], none⟩,
  ⟨some 64, (.bin .leq), [.t 62, .t 63], none⟩,
  ⟨some 65, .mov, [.t 2], none⟩,
  ⟨some 66, .mov, [.t 1], none⟩,
  ⟨some 67, (.bin .gtr), [.t 65, .t 66], none⟩,
  ⟨some 68, .mov, [.t 2], none⟩,
  ⟨some 69, .mov, [.t 1], none⟩,
  ⟨some 70, (.bin .geq), [.t 68, .t 69], none⟩,
  ⟨some 71, (.bsl 1), [.c (.bool false), .t 55, .t 58, .t 61, .t 64, .t 67, .t 70], none⟩,
  ⟨some 72, .mov, [.t 0], none⟩,
  ⟨some 73, (.iad 1), [.t 71, .t 72], none⟩,
  ⟨some 74, (.load false 1), [.t 73], none⟩,
  ⟨some 13, .mov, [.t 74], none⟩]
def Z18l : List Z2a := [
  ⟨some 75, .mov, [.t 11], none⟩,
  ⟨some 76, .mov, [.t 12], none⟩,
  ⟨some 77, .mov, [.t 2], none⟩,
  ⟨some 78, (.bld [(.bool false), (.int .i64 0), (.int .i64 0), (.slc 0 [] true), (.slc 0 [] true)] [(1, 1)]), [.t 77], none⟩,
  ⟨some 79, (.bsl 5), [.t 78], none⟩,
  ⟨some 80, (.bld [(.bool false), (.int .i64 0), (.int .i64 0), (.slc 0 [] true), (.slc 0 [] true)] [(4, 1)]), [.t 79], none⟩,
  ⟨some 81, (.call Zdd), [.t 75, .t 76, .t 80], none⟩,
  ⟨some 14, .mov, [.t 81], none⟩]
def Z18m : List Z2a := [
  ⟨some 82, .mov, [.t 14], none⟩,
  ⟨some 83, (.bin .eql), [.t 82, .c (.int .i64 1)], none⟩,
  ⟨some 84, .mov, [.t 13], none⟩,
  ⟨some 85, (.binb .neq), [.t 83, .t 84], none⟩,
  ⟨some 86, .mov, [.t 85], none⟩,
  ⟨some 87, .mov, [.t 14], some (86, false)⟩,
  ⟨some 88, (.bin .eql), [.t 87, .c (.int .i64 0)], some (86, false)⟩,
  ⟨some 89, .mov, [.t 13], some (86, false)⟩,
  ⟨some 90, (.binb .eql), [.t 88, .t 89], some (86, false)⟩,
  ⟨some 91, .pick, [.t 86, .c (.bool true), .t 90], none⟩]
def Z18n : List Z2a := [
  ⟨some 10, .mov, [.c (.bool false)], none⟩]
def Z18o : List Z2a := [
  ⟨some 92, (.bld [(.int .i64 0), (.bool false), (.bool false), (.bool false), (.int .i64 0), (.int .i64 0), (.slc 0 [] true), (.slc 0 [] true), (.bool false), (.int .i64 0), (.int .i64 0), (.slc 0 [] true), (.slc 0 [] true), (.bool false), (.int .i64 0)] [(0, 1)]), [.c (.int .i64 2)], none⟩,
  ⟨some 93, .mov, [.t 3], none⟩,
  ⟨some 94, (.conv .i64), [.t 93], none⟩,
  ⟨some 95, (.bld [(.bool false), (.int .i64 0), (.int .i64 0), (.slc 0 [] true), (.slc 0 [] true)] [(1, 1)]), [.t 94], none⟩,
  ⟨some 96, .mov, [.t 4], none⟩,
  ⟨some 97, (.conv .i64), [.t 96], none⟩,
  ⟨some 98, (.bld [(.bool false), (.int .i64 0), (.int .i64 0), (.slc 0 [] true), (.slc 0 [] true)] [(1, 1)]), [.t 97], none⟩,
  ⟨some 99, (.bld [(.int .i64 0), (.bool false), (.bool false), (.bool false), (.int .i64 0), (.int .i64 0), (.slc 0 [] true), (.slc 0 [] true), (.bool false), (.int .i64 0), (.int .i64 0), (.slc 0 [] true), (.slc 0 [] true), (.bool false), (.int .i64 0)] [(0, 1), (2, 1), (3, 5), (8, 5)]), [.c (.int .i64 2), .c (.bool true), .t 95, .t 98], none⟩,
  ⟨some 100, (.bsl 15), [.t 92, .t 99], none⟩,
  ⟨some 15, .mov, [.t 100], none⟩]
def Z18p : List Z2a := [
  ⟨some 16, .mov, [.c (.bool false)], none⟩]
def Z18q : List Z2a := [
  ⟨some 101, .mov, [.t 3], none⟩,
  ⟨some 102, (.conv .i64), [.t 101], none⟩,
  ⟨some 17, .mov, [.t 102], none⟩]
def Z18r : List Z2a := [
  ⟨some 103, .mov, [.t 17], none⟩,
  ⟨some 104, .mov, [.t 4], none⟩,
  ⟨some 105, (.conv .i64), [.t 104], none⟩,
  ⟨some 106, (.bin .leq), [.t 103, .t 105], none⟩]
def Z18s : List Z2a := [
  ⟨some 109, .mov, [.t 16], none⟩,
  ⟨some 110, .mov, [.t 109], none⟩,
  ⟨some 111, .mov, [.t 17], some (110, false)⟩,
  ⟨some 112, .mov, [.t 1], some (110, false)⟩,
  ⟨some 113, (.bin .eql), [.t 111, .t 112], some (110, false)⟩,
  ⟨some 114, .mov, [.t 17], some (110, false)⟩,
  ⟨some 115, .mov, [.t 1], some (110, false)⟩,
  ⟨some 116, (.bin .neq), [.t 114, .t 115], some (110, false)⟩,
  ⟨some 117, .mov, [.t 17], some (110, false)⟩,
  ⟨some 118, .mov, [.t 1], some (110, false)⟩,
  ⟨some 119, (.bin .lss), [.t 117, .t 118], some (110, false)⟩,
  ⟨some 120, .mov, [.t 17], some (110, false)⟩,
  ⟨some 121, .mov, [.t 1], some (110, false)⟩,
  ⟨some 122, (.bin .leq), [.t 120, .t 121], some (110, false)⟩,
  ⟨some 123, .mov, [.t 17], some (110, false)⟩,
  ⟨some 124, .mov, [.t 1], some (110, false)⟩,
  ⟨some 125, (.bin .gtr), [.t 123, .t 124], some (110, false)⟩,
  ⟨some 126, .mov, [.t 17], some (110, false)⟩,
  ⟨some 127, .mov, [.t 1], some (110, false)⟩,
  ⟨some 128, (.bin .geq), [.t 126, .t 127], some (110, false)⟩,
  ⟨some 129, (.bsl 1), [.c (.bool false), .t 113, .t 116, .t 119, .t 122, .t 125, .t 128], some (110, false)⟩,
  ⟨some 130, .mov, [.t 0], some (110, false)⟩,
  ⟨some 131, (.iad 1), [.t 129, .t 130], some (110, false)⟩,
  ⟨some 132, (.load false 1), [.t 131], some (110, false)⟩,
  ⟨some 133, .pick, [.t 110, .c (.bool true), .t 132], none⟩,
  ⟨some 16, .mov, [.t 133], none⟩]
def Z18t : List Z2a := [
  ⟨some 107, .mov, [.t 17], none⟩,
  ⟨some 108, (.bin .add), [.t 107, .c (.int .i64 1)], none⟩,
  ⟨some 17, .mov, [.t 108], none⟩]
def Z18u : Z2b := (.seq (.seq (.region Z18r [0, 1, 4, 11, 12, 15, 16, 17, 106]) (.cond (.t 106) .skip (.exit 0))) (.seq (.block 1 (.region Z18s [0, 1, 4, 11, 12, 15, 16, 17])) (.region Z18t [0, 1, 4, 11, 12, 15, 16, 17])))
def Z18v : List Z2a := [
  ⟨some 134, .mov, [.t 11], none⟩,
  ⟨some 135, .mov, [.t 12], none⟩,
  ⟨some 136, .mov, [.t 15], none⟩,
  ⟨some 137, (.call Zdb), [.t 134, .t 135, .t 136], none⟩,
  ⟨some 138, .mov, [.t 16], none⟩,
  ⟨some 139, (.binb .eql), [.t 137, .t 138], none⟩,
  ⟨some 10, .mov, [.t 139], none⟩]
def Z18w : Z2y := ⟨140, (.seq (.region Z18d [0, 1, 2, 3, 4]) (.seq (.seq (.region Z18e [0, 1, 2, 3, 4, 19]) (.cond (.t 19) (.seq (.region Z18f [10]) .ret) .skip)) (.seq (.region Z18g [0, 1, 2, 3, 4, 11]) (.seq (.seq (.region Z18h [0, 1, 2, 3, 4, 11, 36]) (.cond (.t 36) (.seq (.region Z18i [10]) .ret) .skip)) (.seq (.region Z18j [0, 1, 2, 3, 4, 11, 12]) (.seq (.region Z18k [0, 1, 2, 3, 4, 11, 12, 13]) (.seq (.region Z18l [0, 1, 3, 4, 11, 12, 13, 14]) (.seq (.seq (.region Z18m [0, 1, 3, 4, 11, 12, 91]) (.cond (.t 91) (.seq (.region Z18n [10]) .ret) .skip)) (.seq (.region Z18o [0, 1, 3, 4, 11, 12, 15]) (.seq (.region Z18p [0, 1, 3, 4, 11, 12, 15, 16]) (.seq (.seq (.region Z18q [0, 1, 4, 11, 12, 15, 16, 17]) (.block 0 (.loop Z18u))) (.seq (.region Z18v [10]) .ret)))))))))))), [.t 10]⟩
def Z18x : List Z2a := [
  ⟨some 0, .mov, [.c (.bool false)], none⟩]
def Z18y : List Z2a := [
  ⟨some 9, (.bsl 1), [.c (.str [97])], none⟩,
  ⟨some 10, (.bld [(.int .i64 0), (.slc 0 [] true), (.slc 0 [] true), (.int .i64 0), (.int .i64 0), (.int .i64 0)] [(0, 1)]), [.c (.int .i64 3)], none⟩,
  ⟨some 11, (.bsl 6), [.t 10], none⟩,
  ⟨some 12, (.bld [(.int .i64 0), (.slc 0 [] true), (.slc 0 [] true), (.int .i64 0), (.int .i64 0), (.int .i64 0)] [(0, 1), (1, 1), (2, 1)]), [.c (.int .i64 12), .t 9, .t 11], none⟩,
  ⟨some 1, (.alloc (.agg [(.int .i64 0), (.slc 0 [] true), (.slc 0 [] true), (.int .i64 0), (.int .i64 0), (.int .i64 0)])), [], none⟩,
  ⟨none, (.store 6), [.t 1, .t 12], none⟩]
def Z18z : List Z2a := [
  ⟨some 13, (.load true 6), [.t 1], none⟩,
  ⟨some 14, (.call Zcs), [.t 13], none⟩,
  ⟨some 2, .mov, [.t 14], none⟩]
def Z190 : List Z2a := [
  ⟨some 15, .mov, [.t 2], none⟩,
  ⟨some 16, .lens, [.t 15], none⟩,
  ⟨some 17, (.bin .neq), [.t 16, .c (.int .i64 2)], none⟩]
def Z191 : List Z2a := [
  ⟨some 0, .mov, [.c (.bool false)], none⟩]
def Z192 : List Z2a := [
  ⟨some 18, (.bld [(.bool false), (.int .i64 0), (.int .i64 0), (.slc 0 [] true), (.slc 0 [] true)] [(1, 1)]), [.c (.int .i64 5)], none⟩,
  ⟨some 19, (.bld [(.int .i64 0), (.int .i64 0), (.bool false), (.int .i64 0), (.int .i64 0), (.slc 0 [] true), (.slc 0 [] true)] [(0, 1), (1, 1), (2, 5)]), [.c (.int .i64 1), .c (.int .i64 3), .t 18], none⟩,
  ⟨some 20, (.bsl 7), [.t 19], none⟩,
  ⟨some 3, .mov, [.t 20], none⟩]
def Z193 : List Z2a := [
  ⟨some 21, (.bld [(.bool false), (.int .i64 0), (.int .i64 0), (.slc 0 [] true), (.slc 0 [] true)] [(1, 1)]), [.c (.int .i64 4)], none⟩,
  ⟨some 22, (.bsl 5), [.t 21], none⟩,
  ⟨some 23, (.bld [(.bool false), (.int .i64 0), (.int .i64 0), (.slc 0 [] true), (.slc 0 [] true)] [(4, 1)]), [.t 22], none⟩,
  ⟨some 4, (.alloc (.agg [(.bool false), (.int .i64 0), (.int .i64 0), (.slc 0 [] true), (.slc 0 [] true)])), [], none⟩,
  ⟨none, (.store 5), [.t 4, .t 23], none⟩]
def Z194 : List Z2a := [
  ⟨some 24, (.bld [(.bool false), (.int .i64 0), (.int .i64 0), (.slc 0 [] true), (.slc 0 [] true)] [(0, 1)]), [.c (.bool true)], none⟩,
  ⟨some 25, (.bsl 5), [.t 24], none⟩,
  ⟨some 26, (.bld [(.bool false), (.int .i64 0), (.int .i64 0), (.slc 0 [] true), (.slc 0 [] true)] [(4, 1)]), [.t 25], none⟩,
  ⟨some 5, (.alloc (.agg [(.bool false), (.int .i64 0), (.int .i64 0), (.slc 0 [] true), (.slc 0 [] true)])), [], none⟩,
  ⟨none, (.store 5), [.t 5, .t 26], none⟩]
def Z195 : List Z2a := [
  ⟨some 28, .mov, [.t 2], none⟩,
  ⟨some 29, (.load true 5), [.t 4], none⟩,
  ⟨some 30, (.call Zdg), [.t 28, .c (.int .i64 1), .t 29], none⟩,
  ⟨some 27, .mov, [.t 30], none⟩,
  ⟨some 31, (.ext 0), [.t 27], none⟩,
  ⟨some 32, (.ext 1), [.t 27], none⟩,
  ⟨some 6, (.alloc (.agg [(.bool false), (.int .i64 0), (.int .i64 0), (.slc 0 [] true), (.slc 0 [] true)])), [], none⟩,
  ⟨none, (.store 5), [.t 6, .t 31], none⟩,
  ⟨some 7, .mov, [.t 32], none⟩]
def Z196 : List Z2a := [
  ⟨some 33, (.bld [(.int .i64 0), (.bool false), (.bool false), (.bool false), (.int .i64 0), (.int .i64 0), (.slc 0 [] true), (.slc 0 [] true), (.bool false), (.int .i64 0), (.int .i64 0), (.slc 0 [] true), (.slc 0 [] true), (.bool false), (.int .i64 0)] [(0, 1)]), [.c (.int .i64 1)], none⟩,
  ⟨some 34, (.bld [(.bool false), (.int .i64 0), (.int .i64 0), (.slc 0 [] true), (.slc 0 [] true)] [(1, 1)]), [.c (.int .i64 5)], none⟩,
  ⟨some 35, (.bld [(.bool false), (.int .i64 0), (.int .i64 0), (.slc 0 [] true), (.slc 0 [] true)] [(1, 1)]), [.c (.int .i64 9)], none⟩,
  ⟨some 36, (.bld [(.int .i64 0), (.bool false), (.bool false), (.bool false), (.int .i64 0), (.int .i64 0), (.slc 0 [] true), (.slc 0 [] true), (.bool false), (.int .i64 0), (.int .i64 0), (.slc 0 [] true), (.slc 0 [] true), (.bool false), (.int .i64 0)] [(0, 1), (2, 1), (3, 5), (8, 5)]), [.c (.int .i64 1), .c (.bool true), .t 34, .t 35], none⟩,
  ⟨some 37, (.bsl 15), [.t 33, .t 36], none⟩,
  ⟨some 8, .mov, [.t 37], none⟩]
def Z197 : List Z2a := [
  ⟨some 38, .mov, [.t 2], none⟩,
  ⟨some 39, .mov, [.t 3], none⟩,
  ⟨some 40, (.call Zdh), [.t 38, .t 39], none⟩,
  ⟨some 41, (.bin .eql), [.t 40, .c (.int .i64 0)], none⟩,
  ⟨some 42, .mov, [.t 41], none⟩,
  ⟨some 43, .mov, [.t 2], some (42, true)⟩,
  ⟨some 44, (.bld [(.int .i64 0), (.int .i64 0), (.bool false), (.int .i64 0), (.int .i64 0), (.slc 0 [] true), (.slc 0 [] true)] [(0, 1), (1, 1)]), [.c (.int .i64 0), .c (.int .i64 1)], some (42, true)⟩,
  ⟨some 45, (.bsl 7), [.t 44], some (42, true)⟩,
  ⟨some 46, (.call Zdh), [.t 43, .t 45], some (42, true)⟩,
  ⟨some 47, (.bin .eql), [.t 46, .c (.int .i64 1)], some (42, true)⟩,
  ⟨some 48, .pick, [.t 42, .t 47, .c (.bool false)], none⟩,
  ⟨some 49, .mov, [.t 48], none⟩,
  ⟨some 50, .mov, [.t 2], some (49, true)⟩,
  ⟨some 51, .mov, [.t 3], some (49, true)⟩,
  ⟨some 52, (.load true 5), [.t 4], some (49, true)⟩,
  ⟨some 53, (.call Zdd), [.t 50, .t 51, .t 52], some (49, true)⟩,
  ⟨some 54, (.bin .eql), [.t 53, .c (.int .i64 1)], some (49, true)⟩,
  ⟨some 55, .pick, [.t 49, .t 54, .c (.bool false)], none⟩,
  ⟨some 56, .mov, [.t 55], none⟩,
  ⟨some 57, .mov, [.t 2], some (56, true)⟩,
  ⟨some 58, .mov, [.t 3], some (56, true)⟩,
  ⟨some 59, (.load true 5), [.t 5], some (56, true)⟩,
  ⟨some 60, (.call Zdd), [.t 57, .t 58, .t 59], some (56, true)⟩,
  ⟨some 61, (.bin .eql), [.t 60, .c (.int .i64 2)], some (56, true)⟩,
  ⟨some 62, .pick, [.t 56, .t 61, .c (.bool false)], none⟩,
  ⟨some 63, .mov, [.t 62], none⟩,
  ⟨some 64, .mov, [.t 2], some (63, true)⟩,
  ⟨some 65, .mov, [.t 3], some (63, true)⟩,
  ⟨some 66, .mov, [.t 8], some (63, true)⟩,
  ⟨some 67, (.call Zdb), [.t 64, .t 65, .t 66], some (63, true)⟩,
  ⟨some 68, .unot, [.t 67], some (63, true)⟩,
  ⟨some 69, .pick, [.t 63, .t 68, .c (.bool false)], none⟩,
  ⟨some 70, .mov, [.t 69], none⟩,
  ⟨some 71, (.fad 1), [.t 6], some (70, true)⟩,
  ⟨some 72, (.load false 1), [.t 71], some (70, true)⟩,
  ⟨some 73, (.bin .eql), [.t 72, .c (.int .i64 4)], some (70, true)⟩,
  ⟨some 74, .pick, [.t 70, .t 73, .c (.bool false)], none⟩,
  ⟨some 75, .mov, [.t 74], none⟩,
  ⟨some 76, .mov, [.t 7], some (75, true)⟩,
  ⟨some 77, .pick, [.t 75, .t 76, .c (.bool false)], none⟩,
  ⟨some 0, .mov, [.t 77], none⟩]
def Z198 : Z2y := ⟨78, (.seq (.region Z18x []) (.seq (.region Z18y [1]) (.seq (.region Z18z [2]) (.seq (.seq (.region Z190 [2, 17]) (.cond (.t 17) (.seq (.region Z191 [0]) .ret) .skip)) (.seq (.region Z192 [2, 3]) (.seq (.region Z193 [2, 3, 4]) (.seq (.region Z194 [2, 3, 4, 5]) (.seq (.region Z195 [2, 3, 4, 5, 6, 7]) (.seq (.region Z196 [2, 3, 4, 5, 6, 7, 8]) (.seq (.region Z197 [0]) .ret)))))))))), [.t 0]⟩
def Z199 : List Z2a := [
  ⟨some 0, .mov, [.c (.slc 0 [] true)], none⟩]
def Z19a : List Z2a := [
  ⟨some 1, (.bsl 1), [.c (.str [97])], none⟩,
  ⟨some 2, (.bld [(.int .i64 0), (.slc 0 [] true), (.slc 0 [] true), (.int .i64 0), (.int .i64 0), (.int .i64 0)] [(0, 1)]), [.c (.int .i64 4)], none⟩,
  ⟨some 3, (.bsl 6), [.t 2], none⟩,
  ⟨some 4, (.bld [(.int .i64 0), (.slc 0 [] true), (.slc 0 [] true), (.int .i64 0), (.int .i64 0), (.int .i64 0)] [(0, 1), (1, 1), (2, 1)]), [.c (.int .i64 12), .t 1, .t 3], none⟩,
  ⟨some 5, (.call Zcs), [.t 4], none⟩,
  ⟨some 0, .mov, [.t 5], none⟩]
def Z19b : Z2y := ⟨6, (.seq (.region Z199 []) (.seq (.region Z19a [0]) .ret)), [.t 0]⟩
end Go.Abs
namespace Go.Abs
open Go Go.Proofs
theorem Z19c : Z2z Try.prog [] Zcf = some Z18w.erase := by kernel_rfl
theorem Z19d : Z2z Try.prog [] Zd5 = some Z198.erase := by kernel_rfl
theorem Z19e : Z2z Try.prog [] Zdf = some Z19b.erase := by kernel_rfl
end Go.Abs
namespace Go.Abs
open Go Go.Proofs
set_option linter.unusedVariables false
set_option linter.unusedSimpArgs false
set_option maxHeartbeats 4000000
attribute [local irreducible] AWp aops KP
def tB (k : Int) : Ty := .mk 12 [[97]] [.mk k [] [] 0 0 0] 0 0 0
def lB (k : Int) : List Nd := [⟨tB k, [1], -1, 1⟩, ⟨.mk k [] [] 0 0 0, [], 0, 2⟩]
theorem Z19f : Zm4 (tB 3) = lB 3 := by rfl
theorem Z19g : Zm4 (tB 4) = lB 4 := by rfl
theorem Z19h (k : Int) : (tB k).Fit := by
  refine .mk (by simp [tB, Ty.kids]) (by simp [tB, Ty.names]) (by simp [tB, Ty.names, maxLen]) fun u hu => ?_
  simp only [tB, Ty.kids, List.mem_singleton] at hu
  subst hu
  exact .mk (by simp [Ty.kids]) (by simp [Ty.names]) (by simp [Ty.names]) (by simp [Ty.kids])
theorem lB_Wf (k : Int) : WfN (lB k) := by
  refine ⟨by simp [lB], ?_, ?_⟩
  · intro i n h
    match i, h with
    | 0, h => simp only [lB, List.getElem?_cons_zero, Option.some.injEq] at h; subst h; simp
    | 1, h => simp only [lB, List.getElem?_cons_succ, List.getElem?_cons_zero, Option.some.injEq] at h; subst h; simp
    | i + 2, h => simp [lB] at h
  · intro n hn
    simp only [lB, List.mem_cons, List.not_mem_nil, or_false] at hn
    rcases hn with rfl | rfl <;> simp
theorem lB_ok {k : Int} (h : ownF k [] 0 0 0 0 = 0) : ∀ n ∈ lB k, Zlt n.t.kind = true → (tyN n).Ok := by
  intro n hn hl
  simp only [lB, List.mem_cons, List.not_mem_nil, or_false] at hn
  rcases hn with rfl | rfl
  · simp [tB, Ty.kind, Zlt] at hl
  · exact .mk h (by simp [tyN, Ty.kids])
def vI (i : Int) : Vl := .mk false i 0 [] []
def rowI (v : Vl) : Vl := .mk false 0 0 [] [v]
def tm1 (op i : Int) : Tm := ⟨1, op, vI i⟩
theorem vI_Cl (i : Int) : (vI i).Cl := .mk (by simp [vI, Vl.b]) (by simp [vI, Vl.kids]) (by simp [vI, Vl.kids])
theorem Z19i (i : Int) (h : -9223372036854775808 ≤ i ∧ i ≤ 9223372036854775807) : (vI i).Fit := .mk h (by simp [vI, Vl.b]) (by simp [vI, Vl.kids]) (by simp [vI, Vl.kids])
theorem Z19j (v : Vl) (h : v.Cl) : (rowI v).Cl := .mk (by simp [rowI, Vl.b]) (by simp [rowI, Vl.kids]) (by simpa [rowI, Vl.kids] using h)
def s25 (c : Int) : Stt := ⟨c, false, false, vl0, vl0, false, 0⟩
def h25 (c lo hi : Int) : Stt := ⟨c, false, true, vI lo, vI hi, false, 0⟩
theorem hs25 (op v c lo hi : Int) : ∀ t ∈ [tm1 op v], goodF (lB 4) t.col = true → ∀ x, [s25 c, h25 c lo hi][t.col.toNat]? = some x → x.has = true := by
  intro t ht _ x hx
  rw [List.mem_singleton] at ht
  subst ht
  simp only [tm1, Int.toNat_one, List.getElem?_cons_succ, List.getElem?_cons_zero, Option.some.injEq] at hx
  subst hx
  rfl
theorem hs25' (op v c lo hi : Int) : ∀ t ∈ [tm1 op v], goodF (lB 3) t.col = true → ∀ x, [s25 c, h25 c lo hi][t.col.toNat]? = some x → x.has = true := by
  intro t ht _ x hx
  rw [List.mem_singleton] at ht
  subst ht
  simp only [tm1, Int.toNat_one, List.getElem?_cons_succ, List.getElem?_cons_zero, Option.some.injEq] at hx
  subst hx
  rfl
theorem k_get : GetF (lB 3) 1 (rowI (vI 4)) = (vI 4, true) := by rfl
theorem Z19k : Z18b (lB 3) [tm1 3 5] = 0 := by rfl
theorem Z19l : Z18b (lB 3) [⟨0, 1, vl0⟩] = 1 := by rfl
theorem Z19m : Z189 (lB 3) (rowI (vI 4)) [tm1 3 5] 1 = 1 := by rfl
theorem Z19n : Z189 (lB 3) (rowI nullV) [tm1 3 5] 1 = 2 := by rfl
theorem k_may : MayF (lB 3) [s25 1, h25 1 5 9] [tm1 3 5] = false := by rfl
theorem Z19o (σ : Zc) : Z1q Try.prog Zd5 [] σ fun r σ' => r = .bool true ∧ σ' = σ := by
  have hFl := Znk (tB 3) (Z19h 3)
  rw [Z19f, Zlp] at hFl
  have hG := c_Get (lB 3) (lB_Wf 3) true 1 (rowI (vI 4)) (Z19j _ (vI_Cl 4))
  rw [k_get] at hG
  have hC := Z18c (lB 3) (lB_Wf 3) (lB_ok rfl) true false [tm1 3 5] (by
    intro t ht
    rw [List.mem_singleton] at ht
    subst ht
    exact Z19i 5 (by omega))
  rw [Z19k] at hC
  have hC0 := Z18c (lB 3) (lB_Wf 3) (lB_ok rfl) true false [⟨0, 1, vl0⟩] (by
    intro t ht
    rw [List.mem_singleton] at ht
    subst ht
    exact Z19i 0 (by omega))
  rw [Z19l] at hC0
  have hM := Z18a (lB 3) (lB_Wf 3) true false [tm1 3 5] (by simp) (rowI (vI 4))
  rw [Z19m] at hM
  have hN := Z18a (lB 3) (lB_Wf 3) true false [tm1 3 5] (by simp) (rowI nullV)
  rw [Z19n] at hN
  have hY := Z188 (lB 3) (lB_Wf 3) true false false [tm1 3 5] (by simp) [s25 1, h25 1 5 9] (hs25' 3 5 1 5 9)
  rw [k_may] at hY
  simp only [Zm7] at *
  refine Z8t rfl Z19d (Nat.le_of_ble_eq_true rfl) ?_
  (repeat (first | refine st_q rfl rfl rfl ?_ | refine Z8v rfl (st_q rfl rfl rfl ?_) | refine Z92 rfl Z8z rfl rfl ?_ | refine Z8v rfl (Z92 rfl Z8z rfl rfl ?_) | refine Zbz rfl rfl ?_ | refine Z8v rfl (Zbz rfl rfl ?_) | refine Z8w rfl ?_ | refine Z8x rfl ?_ | (refine Z8y ?_; (repeat (first | refine Z9v rfl ?_ | refine Z9w ?_)); refine Z9u ?_) | refine awp_seq ?_ | refine Zbm (fun _ _ => rfl) ?_ | refine Z8h ?_ | refine Zbn (fun _ _ => rfl) ?_ | refine Zbo (fun _ _ => rfl) ?_ | refine Z8f (t := true) rfl (fun _ => ?_) (fun e => by cases e) | refine Z8f (t := false) rfl (fun e => by cases e) (fun _ => ?_)))
  refine Z9k (by simp [Z0.cells, Z0.one]) fun b1 hb1 => ?_
  (first | refine Z9a rfl Z8z rfl (by decide) (Z0.fit_iff.1 rfl) (fun h => by cases h) Z9b ?_ | refine Z8v rfl (Z9a rfl Z8z rfl (by decide) (Z0.fit_iff.1 rfl) (fun h => by cases h) Z9b ?_))
  (refine Z8y ?_; (repeat (first | refine Z9v rfl ?_ | refine Z9w ?_)); refine Z9u ?_)
  refine Zby (Zbx.view (ys := [.agg (Zlo (tB 3))]) rfl rfl (by (repeat (first | exact VRle.refl _ | exact Zc5 | refine Zc6 rfl rfl ?_ | refine Zc7 rfl ?_ | refine Zc4 ?_ ?_)))) ?_
  refine Zb3 (d := 1) (cs := Zlo (tB 3)) rfl ?_
  (repeat (first | refine st_q rfl rfl rfl ?_ | refine Z8v rfl (st_q rfl rfl rfl ?_) | refine Z92 rfl Z8z rfl rfl ?_ | refine Z8v rfl (Z92 rfl Z8z rfl rfl ?_) | refine Zbz rfl rfl ?_ | refine Z8v rfl (Zbz rfl rfl ?_) | refine Z8w rfl ?_ | refine Z8x rfl ?_ | (refine Z8y ?_; (repeat (first | refine Z9v rfl ?_ | refine Z9w ?_)); refine Z9u ?_) | refine awp_seq ?_ | refine Zbm (fun _ _ => rfl) ?_ | refine Z8h ?_ | refine Zbn (fun _ _ => rfl) ?_ | refine Zbo (fun _ _ => rfl) ?_ | refine Z8f (t := true) rfl (fun _ => ?_) (fun e => by cases e) | refine Z8f (t := false) rfl (fun e => by cases e) (fun _ => ?_)))
  (first | refine Z9t rfl (hFl _) ?_ | refine Z8v rfl (Z9t rfl (hFl _) ?_) | refine Zbw rfl hFl ?_ | refine Z8v rfl (Zbw rfl hFl ?_))
  (repeat (first | refine st_q rfl rfl rfl ?_ | refine Z8v rfl (st_q rfl rfl rfl ?_) | refine Z92 rfl Z8z rfl rfl ?_ | refine Z8v rfl (Z92 rfl Z8z rfl rfl ?_) | refine Zbz rfl rfl ?_ | refine Z8v rfl (Zbz rfl rfl ?_) | refine Z8w rfl ?_ | refine Z8x rfl ?_ | (refine Z8y ?_; (repeat (first | refine Z9v rfl ?_ | refine Z9w ?_)); refine Z9u ?_) | refine awp_seq ?_ | refine Zbm (fun _ _ => rfl) ?_ | refine Z8h ?_ | refine Zbn (fun _ _ => rfl) ?_ | refine Zbo (fun _ _ => rfl) ?_ | refine Z8f (t := true) rfl (fun _ => ?_) (fun e => by cases e) | refine Z8f (t := false) rfl (fun e => by cases e) (fun _ => ?_)))
  refine Z9k (by simp [Z0.cells, Z0.one]) fun b4 hb4 => ?_
  (first | refine Z9a rfl Z8z rfl (by decide) (Z0.fit_iff.1 rfl) (fun h => by cases h) Z9b ?_ | refine Z8v rfl (Z9a rfl Z8z rfl (by decide) (Z0.fit_iff.1 rfl) (fun h => by cases h) Z9b ?_))
  (refine Z8y ?_; (repeat (first | refine Z9v rfl ?_ | refine Z9w ?_)); refine Z9u ?_)
  refine Zby (Zbx.view (ys := [.agg (Zm6 (rowI (vI 4)))]) rfl rfl (by (repeat (first | exact VRle.refl _ | exact Zc5 | refine Zc6 rfl rfl ?_ | refine Zc7 rfl ?_ | refine Zc4 ?_ ?_)))) ?_
  refine Zb3 (d := 4) (cs := Zm6 (rowI (vI 4))) rfl ?_
  (refine Z9y (keep := [2, 3, 4]) ?_; ((repeat (first | refine Z9v rfl ?_ | refine Z9w ?_)); refine Z9u ?_))
  (repeat (first | refine st_q rfl rfl rfl ?_ | refine Z8v rfl (st_q rfl rfl rfl ?_) | refine Z92 rfl Z8z rfl rfl ?_ | refine Z8v rfl (Z92 rfl Z8z rfl rfl ?_) | refine Zbz rfl rfl ?_ | refine Z8v rfl (Zbz rfl rfl ?_) | refine Z8w rfl ?_ | refine Z8x rfl ?_ | (refine Z8y ?_; (repeat (first | refine Z9v rfl ?_ | refine Z9w ?_)); refine Z9u ?_) | refine awp_seq ?_ | refine Zbm (fun _ _ => rfl) ?_ | refine Z8h ?_ | refine Zbn (fun _ _ => rfl) ?_ | refine Zbo (fun _ _ => rfl) ?_ | refine Z8f (t := true) rfl (fun _ => ?_) (fun e => by cases e) | refine Z8f (t := false) rfl (fun e => by cases e) (fun _ => ?_)))
  refine Z9k (by simp [Z0.cells, Z0.one]) fun b5 hb5 => ?_
  (first | refine Z9a rfl Z8z rfl (by decide) (Z0.fit_iff.1 rfl) (fun h => by cases h) Z9b ?_ | refine Z8v rfl (Z9a rfl Z8z rfl (by decide) (Z0.fit_iff.1 rfl) (fun h => by cases h) Z9b ?_))
  (refine Z8y ?_; (repeat (first | refine Z9v rfl ?_ | refine Z9w ?_)); refine Z9u ?_)
  refine Zby (Zbx.view (ys := [.agg (Zm6 (rowI nullV))]) rfl rfl (by (repeat (first | exact VRle.refl _ | exact Zc5 | refine Zc6 rfl rfl ?_ | refine Zc7 rfl ?_ | refine Zc4 ?_ ?_)))) ?_
  refine Zb3 (d := 5) (cs := Zm6 (rowI nullV)) rfl ?_
  (refine Z9y (keep := [2, 3, 4, 5]) ?_; ((repeat (first | refine Z9v rfl ?_ | refine Z9w ?_)); refine Z9u ?_))
  (repeat (first | refine st_q rfl rfl rfl ?_ | refine Z8v rfl (st_q rfl rfl rfl ?_) | refine Z92 rfl Z8z rfl rfl ?_ | refine Z8v rfl (Z92 rfl Z8z rfl rfl ?_) | refine Zbz rfl rfl ?_ | refine Z8v rfl (Zbz rfl rfl ?_) | refine Z8w rfl ?_ | refine Z8x rfl ?_ | (refine Z8y ?_; (repeat (first | refine Z9v rfl ?_ | refine Z9w ?_)); refine Z9u ?_) | refine awp_seq ?_ | refine Zbm (fun _ _ => rfl) ?_ | refine Z8h ?_ | refine Zbn (fun _ _ => rfl) ?_ | refine Zbo (fun _ _ => rfl) ?_ | refine Z8f (t := true) rfl (fun _ => ?_) (fun e => by cases e) | refine Z8f (t := false) rfl (fun e => by cases e) (fun _ => ?_)))
  refine Z9t rfl (hG _) ?_
  (repeat (first | refine st_q rfl rfl rfl ?_ | refine Z8v rfl (st_q rfl rfl rfl ?_) | refine Z92 rfl Z8z rfl rfl ?_ | refine Z8v rfl (Z92 rfl Z8z rfl rfl ?_) | refine Zbz rfl rfl ?_ | refine Z8v rfl (Zbz rfl rfl ?_) | refine Z8w rfl ?_ | refine Z8x rfl ?_ | (refine Z8y ?_; (repeat (first | refine Z9v rfl ?_ | refine Z9w ?_)); refine Z9u ?_) | refine awp_seq ?_ | refine Zbm (fun _ _ => rfl) ?_ | refine Z8h ?_ | refine Zbn (fun _ _ => rfl) ?_ | refine Zbo (fun _ _ => rfl) ?_ | refine Z8f (t := true) rfl (fun _ => ?_) (fun e => by cases e) | refine Z8f (t := false) rfl (fun e => by cases e) (fun _ => ?_)))
  refine Z9k (by simp [Z0.cells, Z0.one]) fun b6 hb6 => ?_
  (first | refine Z9a rfl Z8z rfl (by decide) (Z0.fit_iff.1 rfl) (fun h => by cases h) Z9b ?_ | refine Z8v rfl (Z9a rfl Z8z rfl (by decide) (Z0.fit_iff.1 rfl) (fun h => by cases h) Z9b ?_))
  (repeat (refine st_q rfl rfl rfl ?_))
  (refine Z8y ?_; (repeat (first | refine Z9v rfl ?_ | refine Z9w ?_)); refine Z9u ?_)
  refine Zb3 (d := 6) (cs := Zm6 (vI 4)) rfl ?_
  (refine Z9y (keep := [2, 3, 4, 5, 6, 7]) ?_; ((repeat (first | refine Z9v rfl ?_ | refine Z9w ?_)); refine Z9u ?_))
  (repeat (first | refine st_q rfl rfl rfl ?_ | refine Z8v rfl (st_q rfl rfl rfl ?_) | refine Z92 rfl Z8z rfl rfl ?_ | refine Z8v rfl (Z92 rfl Z8z rfl rfl ?_) | refine Zbz rfl rfl ?_ | refine Z8v rfl (Zbz rfl rfl ?_) | refine Z8w rfl ?_ | refine Z8x rfl ?_ | (refine Z8y ?_; (repeat (first | refine Z9v rfl ?_ | refine Z9w ?_)); refine Z9u ?_) | refine awp_seq ?_ | refine Zbm (fun _ _ => rfl) ?_ | refine Z8h ?_ | refine Zbn (fun _ _ => rfl) ?_ | refine Zbo (fun _ _ => rfl) ?_ | refine Z8f (t := true) rfl (fun _ => ?_) (fun e => by cases e) | refine Z8f (t := false) rfl (fun e => by cases e) (fun _ => ?_)))
  refine Z9t rfl (Z1q.args (by (repeat (first | exact VRle.refl _ | exact Zc5 | refine Zc6 rfl rfl ?_ | refine Zc7 rfl ?_ | refine Zc4 ?_ ?_))) (hC _)) ?_
  (repeat (first | refine st_q rfl rfl rfl ?_ | refine Z8v rfl (st_q rfl rfl rfl ?_) | refine Z92 rfl Z8z rfl rfl ?_ | refine Z8v rfl (Z92 rfl Z8z rfl rfl ?_) | refine Zbz rfl rfl ?_ | refine Z8v rfl (Zbz rfl rfl ?_) | refine Z8w rfl ?_ | refine Z8x rfl ?_ | (refine Z8y ?_; (repeat (first | refine Z9v rfl ?_ | refine Z9w ?_)); refine Z9u ?_) | refine awp_seq ?_ | refine Zbm (fun _ _ => rfl) ?_ | refine Z8h ?_ | refine Zbn (fun _ _ => rfl) ?_ | refine Zbo (fun _ _ => rfl) ?_ | refine Z8f (t := true) rfl (fun _ => ?_) (fun e => by cases e) | refine Z8f (t := false) rfl (fun e => by cases e) (fun _ => ?_)))
  refine Z8v rfl (Z9t rfl (Z1q.args (by (repeat (first | exact VRle.refl _ | exact Zc5 | refine Zc6 rfl rfl ?_ | refine Zc7 rfl ?_ | refine Zc4 ?_ ?_))) (hC0 _)) ?_)
  (repeat (first | refine st_q rfl rfl rfl ?_ | refine Z8v rfl (st_q rfl rfl rfl ?_) | refine Z92 rfl Z8z rfl rfl ?_ | refine Z8v rfl (Z92 rfl Z8z rfl rfl ?_) | refine Zbz rfl rfl ?_ | refine Z8v rfl (Zbz rfl rfl ?_) | refine Z8w rfl ?_ | refine Z8x rfl ?_ | (refine Z8y ?_; (repeat (first | refine Z9v rfl ?_ | refine Z9w ?_)); refine Z9u ?_) | refine awp_seq ?_ | refine Zbm (fun _ _ => rfl) ?_ | refine Z8h ?_ | refine Zbn (fun _ _ => rfl) ?_ | refine Zbo (fun _ _ => rfl) ?_ | refine Z8f (t := true) rfl (fun _ => ?_) (fun e => by cases e) | refine Z8f (t := false) rfl (fun e => by cases e) (fun _ => ?_)))
  refine Z8v rfl (Z9t rfl (Z1q.args (by (repeat (first | exact VRle.refl _ | exact Zc5 | refine Zc6 rfl rfl ?_ | refine Zc7 rfl ?_ | refine Zc4 ?_ ?_))) (hM _)) ?_)
  (repeat (first | refine st_q rfl rfl rfl ?_ | refine Z8v rfl (st_q rfl rfl rfl ?_) | refine Z92 rfl Z8z rfl rfl ?_ | refine Z8v rfl (Z92 rfl Z8z rfl rfl ?_) | refine Zbz rfl rfl ?_ | refine Z8v rfl (Zbz rfl rfl ?_) | refine Z8w rfl ?_ | refine Z8x rfl ?_ | (refine Z8y ?_; (repeat (first | refine Z9v rfl ?_ | refine Z9w ?_)); refine Z9u ?_) | refine awp_seq ?_ | refine Zbm (fun _ _ => rfl) ?_ | refine Z8h ?_ | refine Zbn (fun _ _ => rfl) ?_ | refine Zbo (fun _ _ => rfl) ?_ | refine Z8f (t := true) rfl (fun _ => ?_) (fun e => by cases e) | refine Z8f (t := false) rfl (fun e => by cases e) (fun _ => ?_)))
  refine Z8v rfl (Z9t rfl (Z1q.args (by (repeat (first | exact VRle.refl _ | exact Zc5 | refine Zc6 rfl rfl ?_ | refine Zc7 rfl ?_ | refine Zc4 ?_ ?_))) (hN _)) ?_)
  (repeat (first | refine st_q rfl rfl rfl ?_ | refine Z8v rfl (st_q rfl rfl rfl ?_) | refine Z92 rfl Z8z rfl rfl ?_ | refine Z8v rfl (Z92 rfl Z8z rfl rfl ?_) | refine Zbz rfl rfl ?_ | refine Z8v rfl (Zbz rfl rfl ?_) | refine Z8w rfl ?_ | refine Z8x rfl ?_ | (refine Z8y ?_; (repeat (first | refine Z9v rfl ?_ | refine Z9w ?_)); refine Z9u ?_) | refine awp_seq ?_ | refine Zbm (fun _ _ => rfl) ?_ | refine Z8h ?_ | refine Zbn (fun _ _ => rfl) ?_ | refine Zbo (fun _ _ => rfl) ?_ | refine Z8f (t := true) rfl (fun _ => ?_) (fun e => by cases e) | refine Z8f (t := false) rfl (fun e => by cases e) (fun _ => ?_)))
  refine Z8v rfl (Z9t rfl (Z1q.args (by (repeat (first | exact VRle.refl _ | exact Zc5 | refine Zc6 rfl rfl ?_ | refine Zc7 rfl ?_ | refine Zc4 ?_ ?_))) (hY _)) ?_)
  (repeat (first | refine st_q rfl rfl rfl ?_ | refine Z8v rfl (st_q rfl rfl rfl ?_) | refine Z92 rfl Z8z rfl rfl ?_ | refine Z8v rfl (Z92 rfl Z8z rfl rfl ?_) | refine Zbz rfl rfl ?_ | refine Z8v rfl (Zbz rfl rfl ?_) | refine Z8w rfl ?_ | refine Z8x rfl ?_ | (refine Z8y ?_; (repeat (first | refine Z9v rfl ?_ | refine Z9w ?_)); refine Z9u ?_) | refine awp_seq ?_ | refine Zbm (fun _ _ => rfl) ?_ | refine Z8h ?_ | refine Zbn (fun _ _ => rfl) ?_ | refine Zbo (fun _ _ => rfl) ?_ | refine Z8f (t := true) rfl (fun _ => ?_) (fun e => by cases e) | refine Z8f (t := false) rfl (fun e => by cases e) (fun _ => ?_)))
  refine Z8d ?_
  exact ares rfl (HSub.refl _) ⟨rfl, rfl⟩
theorem Z19p (σ : Zc) : Z1q Try.prog Zdf [] σ fun r σ' => r = .slc 8 ((lB 4).map encN) true ∧ σ' = σ := by
  have hFl := Znk (tB 4) (Z19h 4)
  rw [Z19g, Zlp] at hFl
  refine Z8t rfl Z19e (Nat.le_of_ble_eq_true rfl) ?_
  (repeat (first | refine st_q rfl rfl rfl ?_ | refine Z8v rfl (st_q rfl rfl rfl ?_) | refine Z92 rfl Z8z rfl rfl ?_ | refine Z8v rfl (Z92 rfl Z8z rfl rfl ?_) | refine Zbz rfl rfl ?_ | refine Z8v rfl (Zbz rfl rfl ?_) | refine Z8w rfl ?_ | refine Z8x rfl ?_ | (refine Z8y ?_; (repeat (first | refine Z9v rfl ?_ | refine Z9w ?_)); refine Z9u ?_) | refine awp_seq ?_ | refine Zbm (fun _ _ => rfl) ?_ | refine Z8h ?_ | refine Zbn (fun _ _ => rfl) ?_ | refine Zbo (fun _ _ => rfl) ?_ | refine Z8f (t := true) rfl (fun _ => ?_) (fun e => by cases e) | refine Z8f (t := false) rfl (fun e => by cases e) (fun _ => ?_)))
  refine Z9t rfl (Z1q.args (by (repeat (first | exact VRle.refl _ | exact Zc5 | refine Zc6 rfl rfl ?_ | refine Zc7 rfl ?_ | refine Zc4 ?_ ?_))) (hFl _)) ?_
  (repeat (first | refine st_q rfl rfl rfl ?_ | refine Z8v rfl (st_q rfl rfl rfl ?_) | refine Z92 rfl Z8z rfl rfl ?_ | refine Z8v rfl (Z92 rfl Z8z rfl rfl ?_) | refine Zbz rfl rfl ?_ | refine Z8v rfl (Zbz rfl rfl ?_) | refine Z8w rfl ?_ | refine Z8x rfl ?_ | (refine Z8y ?_; (repeat (first | refine Z9v rfl ?_ | refine Z9w ?_)); refine Z9u ?_) | refine awp_seq ?_ | refine Zbm (fun _ _ => rfl) ?_ | refine Z8h ?_ | refine Zbn (fun _ _ => rfl) ?_ | refine Zbo (fun _ _ => rfl) ?_ | refine Z8f (t := true) rfl (fun _ => ?_) (fun e => by cases e) | refine Z8f (t := false) rfl (fun e => by cases e) (fun _ => ?_)))
  refine Z8d ?_
  exact ares rfl (HSub.refl _) ⟨rfl, rfl⟩
end Go.Abs
namespace Go.Abs
open Go Go.Proofs
set_option linter.unusedVariables false
set_option linter.unusedSimpArgs false
set_option maxHeartbeats 4000000
attribute [local irreducible] AWp aops KP
def wantF (op x v : Int) : Bool :=
  if op = 1 then decide (x = v) else if op = 2 then decide (x ≠ v) else if op = 3 then decide (x < v) else if op = 4 then decide (x ≤ v) else if op = 5 then decide (x > v) else decide (x ≥ v)
theorem cmp4 (x v : Int) : (cmpV 4 (vI x) (vI v)).1 = cmpI x v := by
  have h : cmpV 4 (vI x) (vI v) = (if cmpI x v ≠ 0 then cmpI x v else cmpI 0 0, true) := by
    rw [cmpV, if_neg (by simp [vI, Vl.null]; decide), if_neg (by decide)]
    rfl
  rw [h]
  simp only
  split
  · rfl
  · rename_i hn
    have : cmpI x v = 0 := by
      apply Classical.byContradiction; intro h'; exact hn h'
    rw [this]; rfl
theorem Z19q {x v : Int} : cmpI x v < 0 ↔ x < v := by
  unfold cmpI
  split
  · simp; omega
  · split <;> simp <;> omega
theorem Z19r {x v : Int} : 0 < cmpI x v ↔ v < x := by
  unfold cmpI
  split
  · simp; omega
  · split <;> simp <;> omega
theorem Z19s {x v : Int} : cmpI x v = 0 ↔ x = v := by
  unfold cmpI
  split
  · simp; omega
  · split <;> simp <;> omega
theorem Z19t {op x v : Int} (h : 1 ≤ op ∧ op ≤ 6) : Z17x op (cmpI x v) = wantF op x v := by
  have e1 := Z19q (x := x) (v := v)
  have e2 := Z19r (x := x) (v := v)
  have e3 := Z19s (x := x) (v := v)
  have h6 : op = 1 ∨ op = 2 ∨ op = 3 ∨ op = 4 ∨ op = 5 ∨ op = 6 := by omega
  rcases h6 with rfl | rfl | rfl | rfl | rfl | rfl
  · exact decide_eq_decide.2 (by omega)
  · exact decide_eq_decide.2 (by omega)
  · exact decide_eq_decide.2 (by omega)
  · exact decide_eq_decide.2 (by omega)
  · exact decide_eq_decide.2 (by omega)
  · exact decide_eq_decide.2 (by omega)
theorem Z19u {op x v : Int} (h : 1 ≤ op ∧ op ≤ 6) : Z189 (lB 4) (rowI (vI x)) [tm1 op v] 1 = if wantF op x v = true then 1 else 0 := by
  have e : Z189 (lB 4) (rowI (vI x)) [tm1 op v] 1 = (if op = 7 then (0 : Int) else if op = 8 then 1 else if Z17x op (cmpV 4 (vI x) (vI v)).1 = true then 1 else 0) := rfl
  rw [e, if_neg (by omega), if_neg (by omega), cmp4, Z19t h]
def anyW (op v lo : Int) (n : Nat) : Bool := (List.range n).any fun j => wantF op (lo + j) v
theorem Z19v (op v lo : Int) (n : Nat) : anyW op v lo (n + 1) = (anyW op v lo n || wantF op (lo + n) v) := by simp [anyW, List.range_succ]
theorem Z19w (op v lo : Int) (n : Nat) : anyW op v lo n = true ↔ ∃ i : Int, lo ≤ i ∧ i < lo + n ∧ wantF op i v = true := by
  simp only [anyW, List.any_eq_true, List.mem_range]
  constructor
  · rintro ⟨j, hj, h⟩; exact ⟨lo + j, by omega, by omega, h⟩
  · rintro ⟨i, h1, h2, h⟩; exact ⟨(i - lo).toNat, by omega, by rw [show lo + ((i - lo).toNat : Int) = i by omega]; exact h⟩
theorem Z19x {op v lo hi : Int} (h : 1 ≤ op ∧ op ≤ 6) (hlh : lo ≤ hi) : MayF (lB 4) [s25 2, h25 2 lo hi] [tm1 op v] = anyW op v lo (hi - lo + 1).toNat := by
  have hg : goodF (lB 4) 1 = true := by rfl
  have hm : mayF (lB 4) (tm1 op v) [s25 2, h25 2 lo hi] = !Z17z 4 op (vI v) (vI lo) (vI hi) := by
    have e : mayF (lB 4) (tm1 op v) [s25 2, h25 2 lo hi] = (if op = 7 then false || decide ((2 : Int) ≠ 2) else if (2 : Int) = 0 then false else if op = 8 then true else !Z17z 4 op (vI v) (vI lo) (vI hi)) := rfl
    rw [e, if_neg (by omega), if_neg (by decide), if_neg (by omega)]
  have hM : MayF (lB 4) [s25 2, h25 2 lo hi] [tm1 op v] = mayF (lB 4) (tm1 op v) [s25 2, h25 2 lo hi] := by
    simp only [MayF]
    have hg' : goodF (lB 4) (tm1 op v).col = true := hg
    cases hmm : mayF (lB 4) (tm1 op v) [s25 2, h25 2 lo hi] with
    | true => rw [if_neg (by simp)]
    | false => rw [if_pos ⟨hg', by simp [tm1], rfl⟩]
  rw [hM, hm]
  have a1 := Z19q (x := v) (v := lo)
  have a2 := Z19r (x := v) (v := lo)
  have a3 := Z19s (x := v) (v := lo)
  have b1 := Z19q (x := v) (v := hi)
  have b2 := Z19r (x := v) (v := hi)
  have b3 := Z19s (x := v) (v := hi)
  have hA : anyW op v lo (hi - lo + 1).toNat = true ↔ ∃ i : Int, lo ≤ i ∧ i ≤ hi ∧ wantF op i v = true := by
    rw [Z19w, Int.toNat_of_nonneg (by omega)]
    constructor
    · intro hx
      obtain ⟨i, h1, h2, h3⟩ := hx
      exact ⟨i, h1, by omega, h3⟩
    · intro hx
      obtain ⟨i, h1, h2, h3⟩ := hx
      exact ⟨i, h1, by omega, h3⟩
  have key : ∀ P : Prop, [Decidable P] → Z17z 4 op (vI v) (vI lo) (vI hi) = decide P → ((∃ i : Int, lo ≤ i ∧ i ≤ hi ∧ wantF op i v = true) ↔ ¬ P) → (!Z17z 4 op (vI v) (vI lo) (vI hi)) = anyW op v lo (hi - lo + 1).toNat := by
    intro P _ h1 h2
    rw [h1]
    by_cases hP : P
    · rw [decide_eq_true hP]
      cases hx : anyW op v lo (hi - lo + 1).toNat with
      | false => rfl
      | true => exact absurd hP (h2.1 (hA.1 hx))
    · rw [decide_eq_false hP, hA.2 (h2.2 hP)]; rfl
  have h6 : op = 1 ∨ op = 2 ∨ op = 3 ∨ op = 4 ∨ op = 5 ∨ op = 6 := by omega
  rcases h6 with rfl | rfl | rfl | rfl | rfl | rfl
  · refine key ((cmpV 4 (vI v) (vI lo)).1 < 0 ∨ (cmpV 4 (vI v) (vI hi)).1 > 0) rfl ?_
    rw [cmp4, cmp4]
    constructor
    · intro hx; obtain ⟨i, h1, h2, h3⟩ := hx; have h4 := of_decide_eq_true h3; clear hA key hm hM h3; generalize cmpI v lo = ca at *; generalize cmpI v hi = cb at *; omega
    · intro hn; clear hA key hm hM; generalize cmpI v lo = ca at *; generalize cmpI v hi = cb at *; exact ⟨v, by omega, by omega, decide_eq_true rfl⟩
  · refine key ((cmpV 4 (vI v) (vI lo)).1 = 0 ∧ (cmpV 4 (vI v) (vI hi)).1 = 0) rfl ?_
    rw [cmp4, cmp4]
    constructor
    · intro hx; obtain ⟨i, h1, h2, h3⟩ := hx; have h4 := of_decide_eq_true h3; clear hA key hm hM h3; generalize cmpI v lo = ca at *; generalize cmpI v hi = cb at *; omega
    · intro hn; clear hA key hm hM; generalize cmpI v lo = ca at *; generalize cmpI v hi = cb at *
      by_cases hv : v = lo
      · exact ⟨hi, by omega, by omega, decide_eq_true (by omega)⟩
      · exact ⟨lo, by omega, by omega, decide_eq_true (by omega)⟩
  · refine key ((cmpV 4 (vI v) (vI lo)).1 ≤ 0) rfl ?_
    rw [cmp4]
    constructor
    · intro hx; obtain ⟨i, h1, h2, h3⟩ := hx; have h4 := of_decide_eq_true h3; clear hA key hm hM h3; generalize cmpI v lo = ca at *; generalize cmpI v hi = cb at *; omega
    · intro hn; clear hA key hm hM; generalize cmpI v lo = ca at *; generalize cmpI v hi = cb at *; exact ⟨lo, by omega, by omega, decide_eq_true (by omega)⟩
  · refine key ((cmpV 4 (vI v) (vI lo)).1 < 0) rfl ?_
    rw [cmp4]
    constructor
    · intro hx; obtain ⟨i, h1, h2, h3⟩ := hx; have h4 := of_decide_eq_true h3; clear hA key hm hM h3; generalize cmpI v lo = ca at *; generalize cmpI v hi = cb at *; omega
    · intro hn; clear hA key hm hM; generalize cmpI v lo = ca at *; generalize cmpI v hi = cb at *; exact ⟨lo, by omega, by omega, decide_eq_true (by omega)⟩
  · refine key ((cmpV 4 (vI v) (vI hi)).1 ≥ 0) rfl ?_
    rw [cmp4]
    constructor
    · intro hx; obtain ⟨i, h1, h2, h3⟩ := hx; have h4 := of_decide_eq_true h3; clear hA key hm hM h3; generalize cmpI v lo = ca at *; generalize cmpI v hi = cb at *; omega
    · intro hn; clear hA key hm hM; generalize cmpI v lo = ca at *; generalize cmpI v hi = cb at *; exact ⟨hi, by omega, by omega, decide_eq_true (by omega)⟩
  · refine key ((cmpV 4 (vI v) (vI hi)).1 > 0) rfl ?_
    rw [cmp4]
    constructor
    · intro hx; obtain ⟨i, h1, h2, h3⟩ := hx; have h4 := of_decide_eq_true h3; clear hA key hm hM h3; generalize cmpI v lo = ca at *; generalize cmpI v hi = cb at *; omega
    · intro hn; clear hA key hm hM; generalize cmpI v lo = ca at *; generalize cmpI v hi = cb at *; exact ⟨hi, by omega, by omega, decide_eq_true (by omega)⟩
end Go.Abs
namespace Go.Abs
open Go Go.Proofs
set_option linter.unusedVariables false
set_option linter.unusedSimpArgs false
set_option maxHeartbeats 4000000
attribute [local irreducible] AWp aops KP
def pN (op v : Int) : Z0 := .slc 7 [.agg [.int .i64 1, .int .i64 op, .bool false, .int .i64 v, .int .i64 0, .slc 0 [] true, .slc 0 [] true]] true
def sN (lo hi : Int) : Z0 := .slc 15 [.agg [.int .i64 2, .bool false, .bool false, .bool false, .int .i64 0, .int .i64 0, .slc 0 [] true, .slc 0 [] true, .bool false, .int .i64 0, .int .i64 0, .slc 0 [] true, .slc 0 [] true, .bool false, .int .i64 0],
  .agg [.int .i64 2, .bool false, .bool true, .bool false, .int .i64 lo, .int .i64 0, .slc 0 [] true, .slc 0 [] true, .bool false, .int .i64 hi, .int .i64 0, .slc 0 [] true, .slc 0 [] true, .bool false, .int .i64 0]] true
theorem Z19y (op v lo hi : Int) (h6 : op = 1 ∨ op = 2 ∨ op = 3 ∨ op = 4 ∨ op = 5 ∨ op = 6) (hl : -128 ≤ lo ∧ lo ≤ 127) (hh : -128 ≤ hi ∧ hi ≤ 127) (hlh : lo ≤ hi) (σ : Zc) :
    AWp Try.prog Z18w.n (.loop Z18u) (Z8g 0 (Z8e Try.prog Z18w.n (.seq (.region Z18v [10]) .ret) (ARet Z18w.res fun r σ' => r = .bool true ∧ σ' = σ)))
      (fset 0 (some (.int .i64 op)) (fset 1 (some (.int .i64 v)) (fset 4 (some (.int .i8 hi)) (fset 11 (some (.slc 8 ((lB 4).map encN) true)) (fset 12 (some (pN op v)) (fset 15 (some (sN lo hi)) (fset 16 (some (.bool false)) (fset 17 (some (.int .i64 lo)) Z27)))))))) σ := by
  have hop : 1 ≤ op ∧ op ≤ 6 := by omega
  have hY := Z188 (lB 4) (lB_Wf 4) true false false [tm1 op v] (by simp) [s25 2, h25 2 lo hi] (hs25 op v 2 lo hi)
  rw [Z19x hop hlh] at hY
  have hwh : IntKind.wrap .i64 hi = hi := w64 _ (by omega) (by omega)
  refine Zaa (fun m F σ' => ∃ n : Nat, F = fset 0 (some (.int .i64 op)) (fset 1 (some (.int .i64 v)) (fset 4 (some (.int .i8 hi)) (fset 11 (some (.slc 8 ((lB 4).map encN) true)) (fset 12 (some (pN op v)) (fset 15 (some (sN lo hi)) (fset 16 (some (.bool (anyW op v lo n))) (fset 17 (some (.int .i64 (lo + (n : Int)))) Z27))))))) ∧ σ = σ' ∧ n ≤ (hi - lo + 1).toNat ∧ m = (hi - lo + 1).toNat - n) (n := (hi - lo + 1).toNat)
    ⟨0, by rw [show lo + ((0 : Nat) : Int) = lo by omega]; rfl, rfl, by omega, by omega⟩ ?_
  rintro m F σ' ⟨n, rfl, rfl, hn, rfl⟩
  refine Za5 ?_
  refine Zad ?_
  (repeat (refine st_q rfl rfl rfl ?_))
  rw [hwh]
  (repeat (refine st_q rfl rfl rfl ?_))
  (refine Z8y ?_; (repeat (first | refine Z9v rfl ?_ | refine Z9w ?_)); refine Z9u ?_)
  refine Za3 (p := lo + (n : Int) ≤ hi) rfl (fun h1 => ?_) (fun h1 => ?_)
  · refine Za4 ?_
    have hs := Z19v op v lo n
    have hw1 : IntKind.wrap .i64 (lo + (n : Int) + 1) = lo + ((n + 1 : Nat) : Int) := by rw [w64 _ (by omega) (by omega)]; omega
    have next : ∀ b : Bool, b = anyW op v lo (n + 1) → ∀ Q : Z87, AWp Try.prog Z18w.n (.region Z18t [0, 1, 4, 11, 12, 15, 16, 17]) (Za9 (fun m F σ' => ∃ n : Nat, F = fset 0 (some (.int .i64 op)) (fset 1 (some (.int .i64 v)) (fset 4 (some (.int .i8 hi)) (fset 11 (some (.slc 8 ((lB 4).map encN) true)) (fset 12 (some (pN op v)) (fset 15 (some (sN lo hi)) (fset 16 (some (.bool (anyW op v lo n))) (fset 17 (some (.int .i64 (lo + (n : Int)))) Z27))))))) ∧ σ = σ' ∧ n ≤ (hi - lo + 1).toNat ∧ m = (hi - lo + 1).toNat - n) ((hi - lo + 1).toNat - n) Q)
        (fset 0 (some (.int .i64 op)) (fset 1 (some (.int .i64 v)) (fset 4 (some (.int .i8 hi)) (fset 11 (some (.slc 8 ((lB 4).map encN) true)) (fset 12 (some (pN op v)) (fset 15 (some (sN lo hi)) (fset 16 (some (.bool b)) (fset 17 (some (.int .i64 (lo + (n : Int)))) Z27)))))))) σ := by
      rintro b rfl Q
      refine Zbp ?_
      (repeat (refine st_q rfl rfl rfl ?_))
      rw [hw1]
      (repeat (refine st_q rfl rfl rfl ?_))
      (refine Z8y ?_; (repeat (first | refine Z9v rfl ?_ | refine Z9w ?_)); refine Z9u ?_)
      exact ⟨_, (hi - lo + 1).toNat - (n + 1), HSub.refl _, ⟨n + 1, rfl, rfl, by omega, rfl⟩, by omega⟩
    generalize lo + (n : Int) = c at *
    cases hA : anyW op v lo n with
    | true =>
      rw [hA, Bool.true_or] at hs
      refine Za6 ?_
      refine Zbm (fun _ _ => rfl) ?_
      (repeat (first | refine st_q rfl rfl rfl ?_ | refine Z8v rfl (st_q rfl rfl rfl ?_) | refine Z8w rfl ?_ | refine Z8x rfl ?_))
      (refine Z8y ?_; (repeat (first | refine Z9v rfl ?_ | refine Z9w ?_)); refine Z9u ?_)
      exact next true hs.symm _
    | false =>
      rw [hA, Bool.false_or] at hs
      rcases h6 with rfl | rfl | rfl | rfl | rfl | rfl
      all_goals
        refine Za6 ?_
        refine Zbm (fun _ _ => rfl) ?_
        (repeat (first | refine st_q rfl rfl rfl ?_ | refine Z8v rfl (st_q rfl rfl rfl ?_) | refine Z8w rfl ?_ | refine Z8x rfl ?_))
        (refine Z8y ?_; (repeat (first | refine Z9v rfl ?_ | refine Z9w ?_)); refine Z9u ?_)
        exact next _ hs.symm _
  · refine Zbo (fun _ _ => rfl) ?_
    have hnN : n = (hi - lo + 1).toNat := by omega
    rw [← hnN] at hY
    refine Z9z ?_
    (repeat (refine st_q rfl rfl rfl ?_))
    refine Z9t rfl (Z1q.args (by rw [pN, sN]; (repeat (first | exact VRle.refl _ | exact Zc5 | refine Zc6 rfl rfl ?_ | refine Zc7 rfl ?_ | refine Zc4 ?_ ?_))) (hY _)) ?_
    cases anyW op v lo n with
    | true =>
      (repeat (refine st_q rfl rfl rfl ?_))
      (refine Z8y ?_; (repeat (first | refine Z9v rfl ?_ | refine Z9w ?_)); refine Z9u ?_)
      refine Z8d ?_
      exact ares rfl (HSub.refl _) ⟨rfl, rfl⟩
    | false =>
      (repeat (refine st_q rfl rfl rfl ?_))
      (refine Z8y ?_; (repeat (first | refine Z9v rfl ?_ | refine Z9w ?_)); refine Z9u ?_)
      refine Z8d ?_
      exact ares rfl (HSub.refl _) ⟨rfl, rfl⟩
theorem Z19z (op v x lo hi : Int) (hl : -128 ≤ lo ∧ lo ≤ 127) (hh : -128 ≤ hi ∧ hi ≤ 127) (σ : Zc) :
    Z1q Try.prog Zcf [.int .i64 op, .int .i64 v, .int .i64 x, .int .i8 lo, .int .i8 hi] σ fun r σ' => r = .bool true ∧ σ' = σ := by
  refine Z8t rfl Z19c (Nat.le_of_ble_eq_true rfl) ?_
  (repeat (first | refine st_q rfl rfl rfl ?_ | refine Z8v rfl (st_q rfl rfl rfl ?_) | refine Z8w rfl ?_ | refine Z8x rfl ?_ | (refine Z8y ?_; (repeat (first | refine Z9v rfl ?_ | refine Z9w ?_)); refine Z9u ?_) | refine awp_seq ?_ | refine Zbm (fun _ _ => rfl) ?_ | refine Z8h ?_ | refine Zbn (fun _ _ => rfl) ?_ | refine Zbo (fun _ _ => rfl) ?_ | refine Z8f (t := true) rfl (fun _ => ?_) (fun e => by cases e) | refine Z8f (t := false) rfl (fun e => by cases e) (fun _ => ?_)))
  refine Z9t rfl (Z19o _) ?_
  (repeat (first | refine st_q rfl rfl rfl ?_ | refine Z8v rfl (st_q rfl rfl rfl ?_) | refine Z8w rfl ?_ | refine Z8x rfl ?_ | (refine Z8y ?_; (repeat (first | refine Z9v rfl ?_ | refine Z9w ?_)); refine Z9u ?_) | refine awp_seq ?_ | refine Zbm (fun _ _ => rfl) ?_ | refine Z8h ?_ | refine Zbn (fun _ _ => rfl) ?_ | refine Zbo (fun _ _ => rfl) ?_ | refine Z8f (t := true) rfl (fun _ => ?_) (fun e => by cases e) | refine Z8f (t := false) rfl (fun e => by cases e) (fun _ => ?_)))
  refine Z9t rfl (Z19p _) ?_
  (repeat (first | refine st_q rfl rfl rfl ?_ | refine Z8v rfl (st_q rfl rfl rfl ?_) | refine Z8w rfl ?_ | refine Z8x rfl ?_ | (refine Z8y ?_; (repeat (first | refine Z9v rfl ?_ | refine Z9w ?_)); refine Z9u ?_) | refine awp_seq ?_ | refine Zbm (fun _ _ => rfl) ?_ | refine Z8h ?_ | refine Zbn (fun _ _ => rfl) ?_ | refine Zbo (fun _ _ => rfl) ?_ | refine Z8f (t := true) rfl (fun _ => ?_) (fun e => by cases e) | refine Z8f (t := false) rfl (fun e => by cases e) (fun _ => ?_)))
  by_cases c1 : op < 1
  · (rw [show decide (op < 1) = true from decide_eq_true (by omega)])
    (repeat (first | refine st_q rfl rfl rfl ?_ | refine Z8v rfl (st_q rfl rfl rfl ?_) | refine Z8w rfl ?_ | refine Z8x rfl ?_ | (refine Z8y ?_; (repeat (first | refine Z9v rfl ?_ | refine Z9w ?_)); refine Z9u ?_) | refine awp_seq ?_ | refine Zbm (fun _ _ => rfl) ?_ | refine Z8h ?_ | refine Zbn (fun _ _ => rfl) ?_ | refine Zbo (fun _ _ => rfl) ?_ | refine Z8f (t := true) rfl (fun _ => ?_) (fun e => by cases e) | refine Z8f (t := false) rfl (fun e => by cases e) (fun _ => ?_)))
    (rw [show decide (op < 1) = true from decide_eq_true (by omega)])
    (repeat (first | refine st_q rfl rfl rfl ?_ | refine Z8v rfl (st_q rfl rfl rfl ?_) | refine Z8w rfl ?_ | refine Z8x rfl ?_ | (refine Z8y ?_; (repeat (first | refine Z9v rfl ?_ | refine Z9w ?_)); refine Z9u ?_) | refine awp_seq ?_ | refine Zbm (fun _ _ => rfl) ?_ | refine Z8h ?_ | refine Zbn (fun _ _ => rfl) ?_ | refine Zbo (fun _ _ => rfl) ?_ | refine Z8f (t := true) rfl (fun _ => ?_) (fun e => by cases e) | refine Z8f (t := false) rfl (fun e => by cases e) (fun _ => ?_)))
    refine Z8d ?_
    exact ares rfl (HSub.refl _) ⟨rfl, rfl⟩
  (rw [show decide (op < 1) = false from decide_eq_false (by omega)])
  (repeat (first | refine st_q rfl rfl rfl ?_ | refine Z8v rfl (st_q rfl rfl rfl ?_) | refine Z8w rfl ?_ | refine Z8x rfl ?_ | (refine Z8y ?_; (repeat (first | refine Z9v rfl ?_ | refine Z9w ?_)); refine Z9u ?_) | refine awp_seq ?_ | refine Zbm (fun _ _ => rfl) ?_ | refine Z8h ?_ | refine Zbn (fun _ _ => rfl) ?_ | refine Zbo (fun _ _ => rfl) ?_ | refine Z8f (t := true) rfl (fun _ => ?_) (fun e => by cases e) | refine Z8f (t := false) rfl (fun e => by cases e) (fun _ => ?_)))
  by_cases c2 : op > 6
  · (rw [show decide (op > 6) = true from decide_eq_true (by omega)])
    (repeat (first | refine st_q rfl rfl rfl ?_ | refine Z8v rfl (st_q rfl rfl rfl ?_) | refine Z8w rfl ?_ | refine Z8x rfl ?_ | (refine Z8y ?_; (repeat (first | refine Z9v rfl ?_ | refine Z9w ?_)); refine Z9u ?_) | refine awp_seq ?_ | refine Zbm (fun _ _ => rfl) ?_ | refine Z8h ?_ | refine Zbn (fun _ _ => rfl) ?_ | refine Zbo (fun _ _ => rfl) ?_ | refine Z8f (t := true) rfl (fun _ => ?_) (fun e => by cases e) | refine Z8f (t := false) rfl (fun e => by cases e) (fun _ => ?_)))
    (rw [show decide (op < 1) = false from decide_eq_false (by omega)])
    (repeat (first | refine st_q rfl rfl rfl ?_ | refine Z8v rfl (st_q rfl rfl rfl ?_) | refine Z8w rfl ?_ | refine Z8x rfl ?_ | (refine Z8y ?_; (repeat (first | refine Z9v rfl ?_ | refine Z9w ?_)); refine Z9u ?_) | refine awp_seq ?_ | refine Zbm (fun _ _ => rfl) ?_ | refine Z8h ?_ | refine Zbn (fun _ _ => rfl) ?_ | refine Zbo (fun _ _ => rfl) ?_ | refine Z8f (t := true) rfl (fun _ => ?_) (fun e => by cases e) | refine Z8f (t := false) rfl (fun e => by cases e) (fun _ => ?_)))
    (rw [show decide (op > 6) = true from decide_eq_true (by omega)])
    (repeat (first | refine st_q rfl rfl rfl ?_ | refine Z8v rfl (st_q rfl rfl rfl ?_) | refine Z8w rfl ?_ | refine Z8x rfl ?_ | (refine Z8y ?_; (repeat (first | refine Z9v rfl ?_ | refine Z9w ?_)); refine Z9u ?_) | refine awp_seq ?_ | refine Zbm (fun _ _ => rfl) ?_ | refine Z8h ?_ | refine Zbn (fun _ _ => rfl) ?_ | refine Zbo (fun _ _ => rfl) ?_ | refine Z8f (t := true) rfl (fun _ => ?_) (fun e => by cases e) | refine Z8f (t := false) rfl (fun e => by cases e) (fun _ => ?_)))
    refine Z8d ?_
    exact ares rfl (HSub.refl _) ⟨rfl, rfl⟩
  (rw [show decide (op > 6) = false from decide_eq_false (by omega)])
  (repeat (first | refine st_q rfl rfl rfl ?_ | refine Z8v rfl (st_q rfl rfl rfl ?_) | refine Z8w rfl ?_ | refine Z8x rfl ?_ | (refine Z8y ?_; (repeat (first | refine Z9v rfl ?_ | refine Z9w ?_)); refine Z9u ?_) | refine awp_seq ?_ | refine Zbm (fun _ _ => rfl) ?_ | refine Z8h ?_ | refine Zbn (fun _ _ => rfl) ?_ | refine Zbo (fun _ _ => rfl) ?_ | refine Z8f (t := true) rfl (fun _ => ?_) (fun e => by cases e) | refine Z8f (t := false) rfl (fun e => by cases e) (fun _ => ?_)))
  by_cases c3 : lo > hi
  · (rw [show decide (lo > hi) = true from decide_eq_true (by omega)])
    (repeat (first | refine st_q rfl rfl rfl ?_ | refine Z8v rfl (st_q rfl rfl rfl ?_) | refine Z8w rfl ?_ | refine Z8x rfl ?_ | (refine Z8y ?_; (repeat (first | refine Z9v rfl ?_ | refine Z9w ?_)); refine Z9u ?_) | refine awp_seq ?_ | refine Zbm (fun _ _ => rfl) ?_ | refine Z8h ?_ | refine Zbn (fun _ _ => rfl) ?_ | refine Zbo (fun _ _ => rfl) ?_ | refine Z8f (t := true) rfl (fun _ => ?_) (fun e => by cases e) | refine Z8f (t := false) rfl (fun e => by cases e) (fun _ => ?_)))
    (rw [show decide (op < 1) = false from decide_eq_false (by omega)])
    (repeat (first | refine st_q rfl rfl rfl ?_ | refine Z8v rfl (st_q rfl rfl rfl ?_) | refine Z8w rfl ?_ | refine Z8x rfl ?_ | (refine Z8y ?_; (repeat (first | refine Z9v rfl ?_ | refine Z9w ?_)); refine Z9u ?_) | refine awp_seq ?_ | refine Zbm (fun _ _ => rfl) ?_ | refine Z8h ?_ | refine Zbn (fun _ _ => rfl) ?_ | refine Zbo (fun _ _ => rfl) ?_ | refine Z8f (t := true) rfl (fun _ => ?_) (fun e => by cases e) | refine Z8f (t := false) rfl (fun e => by cases e) (fun _ => ?_)))
    (rw [show decide (op > 6) = false from decide_eq_false (by omega)])
    (repeat (first | refine st_q rfl rfl rfl ?_ | refine Z8v rfl (st_q rfl rfl rfl ?_) | refine Z8w rfl ?_ | refine Z8x rfl ?_ | (refine Z8y ?_; (repeat (first | refine Z9v rfl ?_ | refine Z9w ?_)); refine Z9u ?_) | refine awp_seq ?_ | refine Zbm (fun _ _ => rfl) ?_ | refine Z8h ?_ | refine Zbn (fun _ _ => rfl) ?_ | refine Zbo (fun _ _ => rfl) ?_ | refine Z8f (t := true) rfl (fun _ => ?_) (fun e => by cases e) | refine Z8f (t := false) rfl (fun e => by cases e) (fun _ => ?_)))
    (rw [show decide (lo > hi) = true from decide_eq_true (by omega)])
    (repeat (first | refine st_q rfl rfl rfl ?_ | refine Z8v rfl (st_q rfl rfl rfl ?_) | refine Z8w rfl ?_ | refine Z8x rfl ?_ | (refine Z8y ?_; (repeat (first | refine Z9v rfl ?_ | refine Z9w ?_)); refine Z9u ?_) | refine awp_seq ?_ | refine Zbm (fun _ _ => rfl) ?_ | refine Z8h ?_ | refine Zbn (fun _ _ => rfl) ?_ | refine Zbo (fun _ _ => rfl) ?_ | refine Z8f (t := true) rfl (fun _ => ?_) (fun e => by cases e) | refine Z8f (t := false) rfl (fun e => by cases e) (fun _ => ?_)))
    refine Z8d ?_
    exact ares rfl (HSub.refl _) ⟨rfl, rfl⟩
  (rw [show decide (lo > hi) = false from decide_eq_false (by omega)])
  have hop : 1 ≤ op ∧ op ≤ 6 := by omega
  have h6 : op = 1 ∨ op = 2 ∨ op = 3 ∨ op = 4 ∨ op = 5 ∨ op = 6 := by omega
  have hloop := Z19y op v lo hi h6 hl hh (by omega) σ
  have hwl : IntKind.wrap .i64 lo = lo := w64 _ (by omega) (by omega)
  have hwh : IntKind.wrap .i64 hi = hi := w64 _ (by omega) (by omega)
  have hM := Z18a (lB 4) (lB_Wf 4) true false [tm1 op v] (by simp) (rowI (vI x))
  rw [Z19u hop] at hM
  simp only [Zm7] at hM
  by_cases hw : wantF op x v = true
  · rw [if_pos hw] at hM
    rcases h6 with rfl | rfl | rfl | rfl | rfl | rfl
    all_goals
      (repeat (first | refine st_q rfl rfl rfl ?_ | refine Z8v rfl (st_q rfl rfl rfl ?_) | refine Z8w rfl ?_ | refine Z8x rfl ?_ | (refine Z8y ?_; (repeat (first | refine Z9v rfl ?_ | refine Z9w ?_)); refine Z9u ?_) | refine awp_seq ?_ | refine Zbm (fun _ _ => rfl) ?_ | refine Z8h ?_ | refine Zbn (fun _ _ => rfl) ?_ | refine Zbo (fun _ _ => rfl) ?_ | refine Z8f (t := true) rfl (fun _ => ?_) (fun e => by cases e) | refine Z8f (t := false) rfl (fun e => by cases e) (fun _ => ?_)))
      refine Z9t rfl (Z1q.args (by (repeat (first | exact VRle.refl _ | exact Zc5 | refine Zc6 rfl rfl ?_ | refine Zc7 rfl ?_ | refine Zc4 ?_ ?_))) (hM _)) ?_
      (first | rw [show decide (x = v) = true from hw] | rw [show decide (x ≠ v) = true from hw] | rw [show decide (x < v) = true from hw] | rw [show decide (x ≤ v) = true from hw] | rw [show decide (x > v) = true from hw] | rw [show decide (x ≥ v) = true from hw])
      (repeat (first | refine st_q rfl rfl rfl ?_ | refine Z8v rfl (st_q rfl rfl rfl ?_) | refine Z8w rfl ?_ | refine Z8x rfl ?_ | (refine Z8y ?_; (repeat (first | refine Z9v rfl ?_ | refine Z9w ?_)); refine Z9u ?_) | refine awp_seq ?_ | refine Zbm (fun _ _ => rfl) ?_ | refine Z8h ?_ | refine Zbn (fun _ _ => rfl) ?_ | refine Zbo (fun _ _ => rfl) ?_ | refine Z8f (t := true) rfl (fun _ => ?_) (fun e => by cases e) | refine Z8f (t := false) rfl (fun e => by cases e) (fun _ => ?_)))
      rw [hwl, hwh]
      (repeat (first | refine st_q rfl rfl rfl ?_ | refine Z8v rfl (st_q rfl rfl rfl ?_) | refine Z8w rfl ?_ | refine Z8x rfl ?_ | (refine Z8y ?_; (repeat (first | refine Z9v rfl ?_ | refine Z9w ?_)); refine Z9u ?_) | refine awp_seq ?_ | refine Zbm (fun _ _ => rfl) ?_ | refine Z8h ?_ | refine Zbn (fun _ _ => rfl) ?_ | refine Zbo (fun _ _ => rfl) ?_ | refine Z8f (t := true) rfl (fun _ => ?_) (fun e => by cases e) | refine Z8f (t := false) rfl (fun e => by cases e) (fun _ => ?_)))
      (refine Z9y (keep := [0, 1, 4, 11, 12, 15, 16, 17]) ?_; ((repeat (first | refine Z9v rfl ?_ | refine Z9w ?_)); refine Z9u ?_))
      exact hloop
  · rw [if_neg hw] at hM
    have hw := Bool.eq_false_iff.2 hw
    rcases h6 with rfl | rfl | rfl | rfl | rfl | rfl
    all_goals
      (repeat (first | refine st_q rfl rfl rfl ?_ | refine Z8v rfl (st_q rfl rfl rfl ?_) | refine Z8w rfl ?_ | refine Z8x rfl ?_ | (refine Z8y ?_; (repeat (first | refine Z9v rfl ?_ | refine Z9w ?_)); refine Z9u ?_) | refine awp_seq ?_ | refine Zbm (fun _ _ => rfl) ?_ | refine Z8h ?_ | refine Zbn (fun _ _ => rfl) ?_ | refine Zbo (fun _ _ => rfl) ?_ | refine Z8f (t := true) rfl (fun _ => ?_) (fun e => by cases e) | refine Z8f (t := false) rfl (fun e => by cases e) (fun _ => ?_)))
      refine Z9t rfl (Z1q.args (by (repeat (first | exact VRle.refl _ | exact Zc5 | refine Zc6 rfl rfl ?_ | refine Zc7 rfl ?_ | refine Zc4 ?_ ?_))) (hM _)) ?_
      (first | rw [show decide (x = v) = false from hw] | rw [show decide (x ≠ v) = false from hw] | rw [show decide (x < v) = false from hw] | rw [show decide (x ≤ v) = false from hw] | rw [show decide (x > v) = false from hw] | rw [show decide (x ≥ v) = false from hw])
      (repeat (first | refine st_q rfl rfl rfl ?_ | refine Z8v rfl (st_q rfl rfl rfl ?_) | refine Z8w rfl ?_ | refine Z8x rfl ?_ | (refine Z8y ?_; (repeat (first | refine Z9v rfl ?_ | refine Z9w ?_)); refine Z9u ?_) | refine awp_seq ?_ | refine Zbm (fun _ _ => rfl) ?_ | refine Z8h ?_ | refine Zbn (fun _ _ => rfl) ?_ | refine Zbo (fun _ _ => rfl) ?_ | refine Z8f (t := true) rfl (fun _ => ?_) (fun e => by cases e) | refine Z8f (t := false) rfl (fun e => by cases e) (fun _ => ?_)))
      rw [hwl, hwh]
      (repeat (first | refine st_q rfl rfl rfl ?_ | refine Z8v rfl (st_q rfl rfl rfl ?_) | refine Z8w rfl ?_ | refine Z8x rfl ?_ | (refine Z8y ?_; (repeat (first | refine Z9v rfl ?_ | refine Z9w ?_)); refine Z9u ?_) | refine awp_seq ?_ | refine Zbm (fun _ _ => rfl) ?_ | refine Z8h ?_ | refine Zbn (fun _ _ => rfl) ?_ | refine Zbo (fun _ _ => rfl) ?_ | refine Z8f (t := true) rfl (fun _ => ?_) (fun e => by cases e) | refine Z8f (t := false) rfl (fun e => by cases e) (fun _ => ?_)))
      (refine Z9y (keep := [0, 1, 4, 11, 12, 15, 16, 17]) ?_; ((repeat (first | refine Z9v rfl ?_ | refine Z9w ?_)); refine Z9u ?_))
      exact hloop
end Go.Abs

