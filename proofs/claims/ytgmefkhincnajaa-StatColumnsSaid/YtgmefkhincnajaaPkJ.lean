/- Part J of a proof: merged by program. -/
import Derived.Test.YtgmefkhincnajaaProg
import Derived.KernelRfl
import Derived.Test.YtgmefkhincnajaaPkH
namespace Go.Abs
open Go
def Z16c : List Z2a := [
  ⟨some 2, (.box 6), [.t 0], none⟩,
  ⟨some 4, .mov, [.c (.bool false)], none⟩]
def Z16d : List Z2a := [
  ⟨some 7, (.load true 6), [.t 2], none⟩,
  ⟨some 8, (.call Zdq), [.t 7], none⟩,
  ⟨some 9, .unot, [.t 8], none⟩,
  ⟨some 10, .mov, [.t 9], none⟩,
  ⟨some 11, .mov, [.t 1], some (10, false)⟩,
  ⟨some 12, .lens, [.t 11], some (10, false)⟩,
  ⟨some 13, (.bin .gtr), [.t 12, .c (.int .i64 200)], some (10, false)⟩,
  ⟨some 14, .pick, [.t 10, .c (.bool true), .t 13], none⟩]
def Z16e : List Z2a := [
  ⟨some 4, .mov, [.c (.bool false)], none⟩]
def Z16f : List Z2a := [
  ⟨some 5, .mov, [.c (.int .i64 0)], none⟩]
def Z16g : List Z2a := [
  ⟨some 6, .mov, [.c (.int .i64 0)], none⟩]
def Z16h : List Z2a := [
  ⟨some 15, .mov, [.t 6], none⟩,
  ⟨some 16, .mov, [.t 1], none⟩,
  ⟨some 17, .lens, [.t 16], none⟩,
  ⟨some 18, (.bin .lss), [.t 15, .t 17], none⟩]
def Z16i : List Z2a := [
  ⟨some 21, .mov, [.t 5], none⟩,
  ⟨some 22, .mov, [.t 1], none⟩,
  ⟨some 23, .mov, [.t 6], none⟩,
  ⟨some 24, (.iad 5), [.t 22, .t 23], none⟩,
  ⟨some 25, (.load true 5), [.t 24], none⟩,
  ⟨some 26, (.call Zdy), [.t 25], none⟩,
  ⟨some 27, (.bin .add), [.t 21, .t 26], none⟩,
  ⟨some 5, .mov, [.t 27], none⟩]
def Z16j : List Z2a := [
  ⟨some 28, .mov, [.t 5], none⟩,
  ⟨some 29, (.bin .gtr), [.t 28, .c (.int .i64 1000)], none⟩]
def Z16k : List Z2a := [
  ⟨some 4, .mov, [.c (.bool false)], none⟩]
def Z16l : List Z2a := [
  ⟨some 19, .mov, [.t 6], none⟩,
  ⟨some 20, (.bin .add), [.t 19, .c (.int .i64 1)], none⟩,
  ⟨some 6, .mov, [.t 20], none⟩]
def Z16m : Z2b := (.seq (.seq (.region Z16h [1, 5, 6, 18]) (.cond (.t 18) .skip (.exit 0))) (.seq (.block 1 (.seq (.region Z16i [1, 5, 6]) (.seq (.region Z16j [1, 5, 6, 29]) (.cond (.t 29) (.seq (.region Z16k [4]) .ret) .skip)))) (.region Z16l [1, 5, 6])))
def Z16n : List Z2a := [
  ⟨some 4, .mov, [.c (.bool true)], none⟩]
def Z16o : Z2y := ⟨30, (.seq (.region Z16c [1, 2]) (.seq (.seq (.region Z16d [1, 14]) (.cond (.t 14) (.seq (.region Z16e [4]) .ret) .skip)) (.seq (.region Z16f [1, 5]) (.seq (.seq (.region Z16g [1, 5, 6]) (.block 0 (.loop Z16m))) (.seq (.region Z16n [4]) .ret))))), [.t 4]⟩
def Z16p : List Z2a := [
  ⟨some 2, (.box 6), [.t 0], none⟩,
  ⟨some 4, .mov, [.c (.bool false)], none⟩]
def Z16q : List Z2a := [
  ⟨some 11, (.call Zcn), [], none⟩,
  ⟨some 12, .unot, [.t 11], none⟩]
def Z16r : List Z2a := [
  ⟨some 4, .mov, [.c (.bool false)], none⟩]
def Z16s : List Z2a := [
  ⟨some 13, (.load true 6), [.t 2], none⟩,
  ⟨some 14, .mov, [.t 1], none⟩,
  ⟨some 15, (.call Zco), [.t 13, .t 14], none⟩,
  ⟨some 16, .unot, [.t 15], none⟩]
def Z16t : List Z2a := [
  ⟨some 4, .mov, [.c (.bool true)], none⟩]
def Z16u : List Z2a := [
  ⟨some 18, (.load true 6), [.t 2], none⟩,
  ⟨some 19, .mov, [.t 1], none⟩,
  ⟨some 20, (.call Zcp), [.t 18, .t 19], none⟩,
  ⟨some 17, .mov, [.t 20], none⟩,
  ⟨some 21, (.ext 0), [.t 17], none⟩,
  ⟨some 22, (.ext 1), [.t 17], none⟩,
  ⟨some 5, .mov, [.t 21], none⟩,
  ⟨some 6, .mov, [.t 22], none⟩]
def Z16v : List Z2a := [
  ⟨some 23, .mov, [.t 6], none⟩,
  ⟨some 24, (.bin .neq), [.t 23, .c (.int .i64 0)], none⟩]
def Z16w : List Z2a := [
  ⟨some 4, .mov, [.c (.bool true)], none⟩]
def Z16x : List Z2a := [
  ⟨some 25, (.load true 6), [.t 2], none⟩,
  ⟨some 26, (.call Zcq), [.t 25], none⟩,
  ⟨some 7, .mov, [.t 26], none⟩]
def Z16y : List Z2a := [
  ⟨some 27, (.load true 6), [.t 2], none⟩,
  ⟨some 28, (.call Zcr), [.t 27], none⟩,
  ⟨some 8, .mov, [.t 28], none⟩]
def Z16z : List Z2a := [
  ⟨some 29, .mov, [.t 8], none⟩,
  ⟨some 30, .lens, [.t 29], none⟩,
  ⟨some 31, .mov, [.t 7], none⟩,
  ⟨some 32, .lens, [.t 31], none⟩,
  ⟨some 33, (.bin .neq), [.t 30, .t 32], none⟩]
def Z170 : List Z2a := [
  ⟨some 4, .mov, [.c (.bool false)], none⟩]
def Z171 : List Z2a := [
  ⟨some 9, .mov, [.c (.int .i64 0)], none⟩]
def Z172 : List Z2a := [
  ⟨some 34, .mov, [.t 9], none⟩,
  ⟨some 35, .mov, [.t 7], none⟩,
  ⟨some 36, .lens, [.t 35], none⟩,
  ⟨some 37, (.bin .lss), [.t 34, .t 36], none⟩]
def Z173 : List Z2a := [
  ⟨some 40, .mov, [.t 8], none⟩,
  ⟨some 41, .mov, [.t 9], none⟩,
  ⟨some 42, (.iad 8), [.t 40, .t 41], none⟩,
  ⟨some 43, (.load true 8), [.t 42], none⟩,
  ⟨some 44, .mov, [.t 5], none⟩,
  ⟨some 45, .mov, [.t 9], none⟩,
  ⟨some 46, (.iad 5), [.t 44, .t 45], none⟩,
  ⟨some 47, (.load true 5), [.t 46], none⟩,
  ⟨some 48, (.callp Zct), [.t 47], none⟩,
  ⟨some 49, (.callp Zcs), [.t 43, .t 48], none⟩,
  ⟨some 10, (.alloc (.agg [(.int .i64 0), (.bool false), (.bool false), (.bool false), (.int .i64 0), (.int .i64 0), (.slc 0 [] true), (.slc 0 [] true), (.bool false), (.int .i64 0), (.int .i64 0), (.slc 0 [] true), (.slc 0 [] true), (.bool false), (.int .i64 0)])), [], none⟩,
  ⟨none, (.store 15), [.t 10, .t 49], none⟩]
def Z174 : List Z2a := [
  ⟨some 50, (.load true 15), [.t 10], none⟩,
  ⟨some 51, (.callp Zcv), [.t 50], none⟩,
  ⟨some 52, .mov, [.t 7], none⟩,
  ⟨some 53, .mov, [.t 9], none⟩,
  ⟨some 54, (.iad 9), [.t 52, .t 53], none⟩,
  ⟨some 55, (.fad 0), [.t 54], none⟩,
  ⟨some 56, (.load true 6), [.t 55], none⟩,
  ⟨some 57, .mov, [.t 5], none⟩,
  ⟨some 58, .mov, [.t 9], none⟩,
  ⟨some 59, (.iad 5), [.t 57, .t 58], none⟩,
  ⟨some 60, (.load true 5), [.t 59], none⟩,
  ⟨some 61, (.call Zcw), [.t 56, .t 60], none⟩,
  ⟨some 62, (.call Zcu), [.t 51, .t 61], none⟩,
  ⟨some 63, .unot, [.t 62], none⟩,
  ⟨some 64, .mov, [.t 63], none⟩,
  ⟨some 65, .mov, [.t 8], some (64, false)⟩,
  ⟨some 66, .mov, [.t 9], some (64, false)⟩,
  ⟨some 67, (.iad 8), [.t 65, .t 66], some (64, false)⟩,
  ⟨some 68, (.load true 8), [.t 67], some (64, false)⟩,
  ⟨some 69, (.callp Zcx), [.t 68], some (64, false)⟩,
  ⟨some 70, (.callp Zcv), [.t 69], some (64, false)⟩,
  ⟨some 71, .mov, [.t 7], some (64, false)⟩,
  ⟨some 72, .mov, [.t 9], some (64, false)⟩,
  ⟨some 73, (.iad 9), [.t 71, .t 72], some (64, false)⟩,
  ⟨some 74, (.fad 0), [.t 73], some (64, false)⟩,
  ⟨some 75, (.load true 6), [.t 74], some (64, false)⟩,
  ⟨some 76, (.bld [(.slc 0 [] true), (.slc 0 [] true), (.slc 0 [] true), (.slc 0 [] true), (.slc 0 [] true)] []), [], some (64, false)⟩,
  ⟨some 77, (.call Zcw), [.t 75, .t 76], some (64, false)⟩,
  ⟨some 78, (.call Zcu), [.t 70, .t 77], some (64, false)⟩,
  ⟨some 79, .unot, [.t 78], some (64, false)⟩,
  ⟨some 80, .pick, [.t 64, .c (.bool true), .t 79], none⟩]
def Z175 : List Z2a := [
  ⟨some 4, .mov, [.c (.bool false)], none⟩]
def Z176 : List Z2a := [
  ⟨some 81, .mov, [.t 7], none⟩,
  ⟨some 82, .mov, [.t 9], none⟩,
  ⟨some 83, (.iad 9), [.t 81, .t 82], none⟩,
  ⟨some 84, (.fad 0), [.t 83], none⟩,
  ⟨some 85, (.load true 6), [.t 84], none⟩,
  ⟨some 86, .mov, [.t 5], none⟩,
  ⟨some 87, .mov, [.t 9], none⟩,
  ⟨some 88, (.iad 5), [.t 86, .t 87], none⟩,
  ⟨some 89, (.load true 5), [.t 88], none⟩,
  ⟨some 90, (.load true 15), [.t 10], none⟩,
  ⟨some 91, (.call Zcy), [.t 85, .t 89, .t 90], none⟩,
  ⟨some 92, .unot, [.t 91], none⟩]
def Z177 : List Z2a := [
  ⟨some 4, .mov, [.c (.bool false)], none⟩]
def Z178 : List Z2a := [
  ⟨some 38, .mov, [.t 9], none⟩,
  ⟨some 39, (.bin .add), [.t 38, .c (.int .i64 1)], none⟩,
  ⟨some 9, .mov, [.t 39], none⟩]
def Z179 : Z2b := (.seq (.seq (.region Z172 [5, 7, 8, 9, 37]) (.cond (.t 37) .skip (.exit 0))) (.seq (.block 1 (.seq (.region Z173 [5, 7, 8, 9, 10]) (.seq (.seq (.region Z174 [5, 7, 8, 9, 10, 80]) (.cond (.t 80) (.seq (.region Z175 [4]) .ret) .skip)) (.seq (.region Z176 [5, 7, 8, 9, 92]) (.cond (.t 92) (.seq (.region Z177 [4]) .ret) .skip))))) (.region Z178 [5, 7, 8, 9])))
def Z17a : List Z2a := [
  ⟨some 4, .mov, [.c (.bool true)], none⟩]
def Z17b : Z2y := ⟨93, (.seq (.region Z16p [1, 2]) (.seq (.seq (.region Z16q [1, 2, 12]) (.cond (.t 12) (.seq (.region Z16r [4]) .ret) .skip)) (.seq (.seq (.region Z16s [1, 2, 16]) (.cond (.t 16) (.seq (.region Z16t [4]) .ret) .skip)) (.seq (.region Z16u [2, 5, 6]) (.seq (.seq (.region Z16v [2, 5, 24]) (.cond (.t 24) (.seq (.region Z16w [4]) .ret) .skip)) (.seq (.region Z16x [2, 5, 7]) (.seq (.region Z16y [5, 7, 8]) (.seq (.seq (.region Z16z [5, 7, 8, 33]) (.cond (.t 33) (.seq (.region Z170 [4]) .ret) .skip)) (.seq (.seq (.region Z171 [5, 7, 8, 9]) (.block 0 (.loop Z179))) (.seq (.region Z17a [4]) .ret)))))))))), [.t 4]⟩
def Z17c : List Z2a := [
  ⟨some 3, (.box 6), [.t 0], none⟩,
  ⟨some 6, .mov, [.c (.bool false)], none⟩]
def Z17d : List Z2a := [
  ⟨some 20, (.call Zcn), [], none⟩,
  ⟨some 21, .unot, [.t 20], none⟩]
def Z17e : List Z2a := [
  ⟨some 6, .mov, [.c (.bool false)], none⟩]
def Z17f : List Z2a := [
  ⟨some 22, (.load true 6), [.t 3], none⟩,
  ⟨some 23, .mov, [.t 1], none⟩,
  ⟨some 24, (.call Zco), [.t 22, .t 23], none⟩,
  ⟨some 25, .unot, [.t 24], none⟩,
  ⟨some 26, .mov, [.t 25], none⟩,
  ⟨some 27, .mov, [.t 2], some (26, false)⟩,
  ⟨some 28, (.bin .lss), [.t 27, .c (.int .i64 0)], some (26, false)⟩,
  ⟨some 29, .pick, [.t 26, .c (.bool true), .t 28], none⟩,
  ⟨some 30, .mov, [.t 29], none⟩,
  ⟨some 31, .mov, [.t 2], some (30, false)⟩,
  ⟨some 32, .mov, [.t 1], some (30, false)⟩,
  ⟨some 33, .lens, [.t 32], some (30, false)⟩,
  ⟨some 34, (.bin .gtr), [.t 31, .t 33], some (30, false)⟩,
  ⟨some 35, .pick, [.t 30, .c (.bool true), .t 34], none⟩]
def Z17g : List Z2a := [
  ⟨some 6, .mov, [.c (.bool true)], none⟩]
def Z17h : List Z2a := [
  ⟨some 37, (.load true 6), [.t 3], none⟩,
  ⟨some 38, .mov, [.t 1], none⟩,
  ⟨some 39, .mov, [.t 2], none⟩,
  ⟨some 40, (.slc 5 false true false), [.t 38, .t 39], none⟩,
  ⟨some 41, (.call Zcp), [.t 37, .t 40], none⟩,
  ⟨some 36, .mov, [.t 41], none⟩,
  ⟨some 42, (.ext 0), [.t 36], none⟩,
  ⟨some 43, (.ext 1), [.t 36], none⟩,
  ⟨some 7, .mov, [.t 42], none⟩,
  ⟨some 8, .mov, [.t 43], none⟩]
def Z17i : List Z2a := [
  ⟨some 45, (.load true 6), [.t 3], none⟩,
  ⟨some 46, .mov, [.t 1], none⟩,
  ⟨some 47, .mov, [.t 2], none⟩,
  ⟨some 48, (.slc 5 true false false), [.t 46, .t 47], none⟩,
  ⟨some 49, (.call Zcp), [.t 45, .t 48], none⟩,
  ⟨some 44, .mov, [.t 49], none⟩,
  ⟨some 50, (.ext 0), [.t 44], none⟩,
  ⟨some 51, (.ext 1), [.t 44], none⟩,
  ⟨some 9, .mov, [.t 50], none⟩,
  ⟨some 10, .mov, [.t 51], none⟩]
def Z17j : List Z2a := [
  ⟨some 53, (.load true 6), [.t 3], none⟩,
  ⟨some 54, .mov, [.t 1], none⟩,
  ⟨some 55, (.call Zcp), [.t 53, .t 54], none⟩,
  ⟨some 52, .mov, [.t 55], none⟩,
  ⟨some 56, (.ext 0), [.t 52], none⟩,
  ⟨some 57, (.ext 1), [.t 52], none⟩,
  ⟨some 11, .mov, [.t 56], none⟩,
  ⟨some 12, .mov, [.t 57], none⟩]
def Z17k : List Z2a := [
  ⟨some 58, .mov, [.t 8], none⟩,
  ⟨some 59, (.bin .neq), [.t 58, .c (.int .i64 0)], none⟩,
  ⟨some 60, .mov, [.t 59], none⟩,
  ⟨some 61, .mov, [.t 10], some (60, false)⟩,
  ⟨some 62, (.bin .neq), [.t 61, .c (.int .i64 0)], some (60, false)⟩,
  ⟨some 63, .pick, [.t 60, .c (.bool true), .t 62], none⟩,
  ⟨some 64, .mov, [.t 63], none⟩,
  ⟨some 65, .mov, [.t 12], some (64, false)⟩,
  ⟨some 66, (.bin .neq), [.t 65, .c (.int .i64 0)], some (64, false)⟩,
  ⟨some 67, .pick, [.t 64, .c (.bool true), .t 66], none⟩]
def Z17l : List Z2a := [
  ⟨some 6, .mov, [.c (.bool true)], none⟩]
def Z17m : List Z2a := [
  ⟨some 68, (.load true 6), [.t 3], none⟩,
  ⟨some 69, (.call Zcq), [.t 68], none⟩,
  ⟨some 13, .mov, [.t 69], none⟩]
def Z17n : List Z2a := [
  ⟨some 70, (.load true 6), [.t 3], none⟩,
  ⟨some 71, (.call Zcr), [.t 70], none⟩,
  ⟨some 14, .mov, [.t 71], none⟩]
def Z17o : List Z2a := [
  ⟨some 72, .mov, [.t 14], none⟩,
  ⟨some 73, .lens, [.t 72], none⟩,
  ⟨some 74, .mov, [.t 13], none⟩,
  ⟨some 75, .lens, [.t 74], none⟩,
  ⟨some 76, (.bin .neq), [.t 73, .t 75], none⟩]
def Z17p : List Z2a := [
  ⟨some 6, .mov, [.c (.bool false)], none⟩]
def Z17q : List Z2a := [
  ⟨some 15, .mov, [.c (.int .i64 0)], none⟩]
def Z17r : List Z2a := [
  ⟨some 77, .mov, [.t 15], none⟩,
  ⟨some 78, .mov, [.t 13], none⟩,
  ⟨some 79, .lens, [.t 78], none⟩,
  ⟨some 80, (.bin .lss), [.t 77, .t 79], none⟩]
def Z17s : List Z2a := [
  ⟨some 83, .mov, [.t 14], none⟩,
  ⟨some 84, .mov, [.t 15], none⟩,
  ⟨some 85, (.iad 8), [.t 83, .t 84], none⟩,
  ⟨some 86, (.load true 8), [.t 85], none⟩,
  ⟨some 87, .mov, [.t 7], none⟩,
  ⟨some 88, .mov, [.t 15], none⟩,
  ⟨some 89, (.iad 5), [.t 87, .t 88], none⟩,
  ⟨some 90, (.load true 5), [.t 89], none⟩,
  ⟨some 91, (.callp Zct), [.t 90], none⟩,
  ⟨some 92, (.callp Zcs), [.t 86, .t 91], none⟩,
  ⟨some 16, (.alloc (.agg [(.int .i64 0), (.bool false), (.bool false), (.bool false), (.int .i64 0), (.int .i64 0), (.slc 0 [] true), (.slc 0 [] true), (.bool false), (.int .i64 0), (.int .i64 0), (.slc 0 [] true), (.slc 0 [] true), (.bool false), (.int .i64 0)])), [], none⟩,
  ⟨none, (.store 15), [.t 16, .t 92], none⟩]
def Z17t : List Z2a := [
  ⟨some 93, .mov, [.t 14], none⟩,
  ⟨some 94, .mov, [.t 15], none⟩,
  ⟨some 95, (.iad 8), [.t 93, .t 94], none⟩,
  ⟨some 96, (.load true 8), [.t 95], none⟩,
  ⟨some 97, .mov, [.t 9], none⟩,
  ⟨some 98, .mov, [.t 15], none⟩,
  ⟨some 99, (.iad 5), [.t 97, .t 98], none⟩,
  ⟨some 100, (.load true 5), [.t 99], none⟩,
  ⟨some 101, (.callp Zct), [.t 100], none⟩,
  ⟨some 102, (.callp Zcs), [.t 96, .t 101], none⟩,
  ⟨some 17, (.alloc (.agg [(.int .i64 0), (.bool false), (.bool false), (.bool false), (.int .i64 0), (.int .i64 0), (.slc 0 [] true), (.slc 0 [] true), (.bool false), (.int .i64 0), (.int .i64 0), (.slc 0 [] true), (.slc 0 [] true), (.bool false), (.int .i64 0)])), [], none⟩,
  ⟨none, (.store 15), [.t 17, .t 102], none⟩]
def Z17u : List Z2a := [
  ⟨some 103, .mov, [.t 14], none⟩,
  ⟨some 104, .mov, [.t 15], none⟩,
  ⟨some 105, (.iad 8), [.t 103, .t 104], none⟩,
  ⟨some 106, (.load true 8), [.t 105], none⟩,
  ⟨some 107, (.load true 15), [.t 16], none⟩,
  ⟨some 108, (.load true 15), [.t 17], none⟩,
  ⟨some 109, (.callp Zcz), [.t 106, .t 107, .t 108], none⟩,
  ⟨some 18, (.alloc (.agg [(.int .i64 0), (.bool false), (.bool false), (.bool false), (.int .i64 0), (.int .i64 0), (.slc 0 [] true), (.slc 0 [] true), (.bool false), (.int .i64 0), (.int .i64 0), (.slc 0 [] true), (.slc 0 [] true), (.bool false), (.int .i64 0)])), [], none⟩,
  ⟨none, (.store 15), [.t 18, .t 109], none⟩]
def Z17v : List Z2a := [
  ⟨some 110, .mov, [.t 13], none⟩,
  ⟨some 111, .mov, [.t 15], none⟩,
  ⟨some 112, (.iad 9), [.t 110, .t 111], none⟩,
  ⟨some 113, (.fad 0), [.t 112], none⟩,
  ⟨some 114, (.load true 6), [.t 113], none⟩,
  ⟨some 115, .mov, [.t 11], none⟩,
  ⟨some 116, .mov, [.t 15], none⟩,
  ⟨some 117, (.iad 5), [.t 115, .t 116], none⟩,
  ⟨some 118, (.load true 5), [.t 117], none⟩,
  ⟨some 119, (.callp Zcw), [.t 114, .t 118], none⟩,
  ⟨some 19, (.alloc (.agg [(.int .i64 0), (.bool false), (.bool false), (.bool false), (.int .i64 0), (.int .i64 0), (.slc 0 [] true), (.slc 0 [] true), (.bool false), (.int .i64 0), (.int .i64 0), (.slc 0 [] true), (.slc 0 [] true), (.bool false), (.int .i64 0)])), [], none⟩,
  ⟨none, (.store 15), [.t 19, .t 119], none⟩]
def Z17w : List Z2a := [
  ⟨some 120, (.load true 15), [.t 18], none⟩,
  ⟨some 121, (.callp Zcv), [.t 120], none⟩,
  ⟨some 122, .mov, [.t 13], none⟩,
  ⟨some 123, .mov, [.t 15], none⟩,
  ⟨some 124, (.iad 9), [.t 122, .t 123], none⟩,
  ⟨some 125, (.fad 0), [.t 124], none⟩,
  ⟨some 126, (.load true 6), [.t 125], none⟩,
  ⟨some 127, (.load true 15), [.t 16], none⟩,
  ⟨some 128, (.callp Zcv), [.t 127], none⟩,
  ⟨some 129, (.load true 15), [.t 17], none⟩,
  ⟨some 130, (.callp Zcv), [.t 129], none⟩,
  ⟨some 131, (.call Zd0), [.t 126, .t 128, .t 130], none⟩,
  ⟨some 132, (.call Zcu), [.t 121, .t 131], none⟩,
  ⟨some 133, .unot, [.t 132], none⟩]
def Z17x : List Z2a := [
  ⟨some 6, .mov, [.c (.bool false)], none⟩]
def Z17y : List Z2a := [
  ⟨some 134, (.fad 13), [.t 18], none⟩,
  ⟨some 135, (.load false 1), [.t 134], none⟩,
  ⟨some 136, .unot, [.t 135], none⟩]
def Z17z : List Z2a := [
  ⟨some 137, (.fad 13), [.t 19], none⟩,
  ⟨none, (.store 1), [.t 137, .c (.bool false)], none⟩]
def Z180 : List Z2a := [
  ⟨some 138, (.fad 14), [.t 19], none⟩,
  ⟨none, (.store 1), [.t 138, .c (.int .i64 0)], none⟩]
def Z181 : List Z2a := [
  ⟨some 139, (.fad 13), [.t 19], none⟩,
  ⟨some 140, (.load false 1), [.t 139], none⟩,
  ⟨some 141, .mov, [.t 140], none⟩,
  ⟨some 142, (.load true 15), [.t 18], some (141, true)⟩,
  ⟨some 143, (.callp Zcv), [.t 142], some (141, true)⟩,
  ⟨some 144, (.load true 15), [.t 19], some (141, true)⟩,
  ⟨some 145, (.call Zcu), [.t 143, .t 144], some (141, true)⟩,
  ⟨some 146, .unot, [.t 145], some (141, true)⟩,
  ⟨some 147, .pick, [.t 141, .t 146, .c (.bool false)], none⟩,
  ⟨some 148, .mov, [.t 147], none⟩,
  ⟨some 149, (.fad 0), [.t 18], some (148, false)⟩,
  ⟨some 150, (.load false 1), [.t 149], some (148, false)⟩,
  ⟨some 151, (.fad 0), [.t 19], some (148, false)⟩,
  ⟨some 152, (.load false 1), [.t 151], some (148, false)⟩,
  ⟨some 153, (.bin .neq), [.t 150, .t 152], some (148, false)⟩,
  ⟨some 154, .pick, [.t 148, .c (.bool true), .t 153], none⟩,
  ⟨some 155, .mov, [.t 154], none⟩,
  ⟨some 156, (.fad 1), [.t 18], some (155, false)⟩,
  ⟨some 157, (.load false 1), [.t 156], some (155, false)⟩,
  ⟨some 158, (.fad 1), [.t 19], some (155, false)⟩,
  ⟨some 159, (.load false 1), [.t 158], some (155, false)⟩,
  ⟨some 160, (.binb .neq), [.t 157, .t 159], some (155, false)⟩,
  ⟨some 161, .pick, [.t 155, .c (.bool true), .t 160], none⟩,
  ⟨some 162, .mov, [.t 161], none⟩,
  ⟨some 163, (.fad 2), [.t 18], some (162, false)⟩,
  ⟨some 164, (.load false 1), [.t 163], some (162, false)⟩,
  ⟨some 165, (.fad 2), [.t 19], some (162, false)⟩,
  ⟨some 166, (.load false 1), [.t 165], some (162, false)⟩,
  ⟨some 167, (.binb .neq), [.t 164, .t 166], some (162, false)⟩,
  ⟨some 168, .pick, [.t 162, .c (.bool true), .t 167], none⟩,
  ⟨some 169, .mov, [.t 168], none⟩,
  ⟨some 170, (.fad 3), [.t 18], some (169, false)⟩,
  ⟨some 171, (.load true 5), [.t 170], some (169, false)⟩,
  ⟨some 172, (.fad 3), [.t 19], some (169, false)⟩,
  ⟨some 173, (.load true 5), [.t 172], some (169, false)⟩,
  ⟨some 174, (.call Zd1), [.t 171, .t 173], some (169, false)⟩,
  ⟨some 175, .unot, [.t 174], some (169, false)⟩,
  ⟨some 176, .pick, [.t 169, .c (.bool true), .t 175], none⟩,
  ⟨some 177, .mov, [.t 176], none⟩,
  ⟨some 178, (.fad 8), [.t 18], some (177, false)⟩,
  ⟨some 179, (.load true 5), [.t 178], some (177, false)⟩,
  ⟨some 180, (.fad 8), [.t 19], some (177, false)⟩,
  ⟨some 181, (.load true 5), [.t 180], some (177, false)⟩,
  ⟨some 182, (.call Zd1), [.t 179, .t 181], some (177, false)⟩,
  ⟨some 183, .unot, [.t 182], some (177, false)⟩,
  ⟨some 184, .pick, [.t 177, .c (.bool true), .t 183], none⟩]
def Z182 : List Z2a := [
  ⟨some 6, .mov, [.c (.bool false)], none⟩]
def Z183 : List Z2a := [
  ⟨some 81, .mov, [.t 15], none⟩,
  ⟨some 82, (.bin .add), [.t 81, .c (.int .i64 1)], none⟩,
  ⟨some 15, .mov, [.t 82], none⟩]
def Z184 : Z2b := (.seq (.seq (.region Z17r [7, 9, 11, 13, 14, 15, 80]) (.cond (.t 80) .skip (.exit 0))) (.seq (.block 1 (.seq (.region Z17s [7, 9, 11, 13, 14, 15, 16]) (.seq (.region Z17t [7, 9, 11, 13, 14, 15, 16, 17]) (.seq (.region Z17u [7, 9, 11, 13, 14, 15, 16, 17, 18]) (.seq (.region Z17v [7, 9, 11, 13, 14, 15, 16, 17, 18, 19]) (.seq (.seq (.region Z17w [7, 9, 11, 13, 14, 15, 18, 19, 133]) (.cond (.t 133) (.seq (.region Z17x [6]) .ret) .skip)) (.seq (.seq (.region Z17y [7, 9, 11, 13, 14, 15, 18, 19, 136]) (.cond (.t 136) (.seq (.region Z17z [7, 9, 11, 13, 14, 15, 18, 19]) (.region Z180 [7, 9, 11, 13, 14, 15, 18, 19])) .skip)) (.seq (.region Z181 [7, 9, 11, 13, 14, 15, 184]) (.cond (.t 184) (.seq (.region Z182 [6]) .ret) .skip))))))))) (.region Z183 [7, 9, 11, 13, 14, 15])))
def Z185 : List Z2a := [
  ⟨some 6, .mov, [.c (.bool true)], none⟩]
def Z186 : Z2y := ⟨185, (.seq (.region Z17c [1, 2, 3]) (.seq (.seq (.region Z17d [1, 2, 3, 21]) (.cond (.t 21) (.seq (.region Z17e [6]) .ret) .skip)) (.seq (.seq (.region Z17f [1, 2, 3, 35]) (.cond (.t 35) (.seq (.region Z17g [6]) .ret) .skip)) (.seq (.region Z17h [1, 2, 3, 7, 8]) (.seq (.region Z17i [1, 3, 7, 8, 9, 10]) (.seq (.region Z17j [3, 7, 8, 9, 10, 11, 12]) (.seq (.seq (.region Z17k [3, 7, 9, 11, 67]) (.cond (.t 67) (.seq (.region Z17l [6]) .ret) .skip)) (.seq (.region Z17m [3, 7, 9, 11, 13]) (.seq (.region Z17n [7, 9, 11, 13, 14]) (.seq (.seq (.region Z17o [7, 9, 11, 13, 14, 76]) (.cond (.t 76) (.seq (.region Z17p [6]) .ret) .skip)) (.seq (.seq (.region Z17q [7, 9, 11, 13, 14, 15]) (.block 0 (.loop Z184))) (.seq (.region Z185 [6]) .ret)))))))))))), [.t 6]⟩
def Z187 : List Z2a := [
  ⟨some 0, .mov, [.c (.bool false)], none⟩]
def Z188 : List Z2a := [
  ⟨some 7, (.bsl 1), [.c (.str [97])], none⟩,
  ⟨some 8, (.bld [(.int .i64 0), (.slc 0 [] true), (.slc 0 [] true), (.int .i64 0), (.int .i64 0), (.int .i64 0)] [(0, 1)]), [.c (.int .i64 3)], none⟩,
  ⟨some 9, (.bsl 6), [.t 8], none⟩,
  ⟨some 10, (.bld [(.int .i64 0), (.slc 0 [] true), (.slc 0 [] true), (.int .i64 0), (.int .i64 0), (.int .i64 0)] [(0, 1), (1, 1), (2, 1)]), [.c (.int .i64 12), .t 7, .t 9], none⟩,
  ⟨some 1, (.alloc (.agg [(.int .i64 0), (.slc 0 [] true), (.slc 0 [] true), (.int .i64 0), (.int .i64 0), (.int .i64 0)])), [], none⟩,
  ⟨none, (.store 6), [.t 1, .t 10], none⟩]
def Z189 : List Z2a := [
  ⟨some 12, (.load true 6), [.t 1], none⟩,
  ⟨some 13, (.bld [(.bool false), (.int .i64 0), (.int .i64 0), (.slc 0 [] true), (.slc 0 [] true)] [(1, 1)]), [.c (.int .i64 5)], none⟩,
  ⟨some 14, (.bsl 5), [.t 13], none⟩,
  ⟨some 15, (.bld [(.bool false), (.int .i64 0), (.int .i64 0), (.slc 0 [] true), (.slc 0 [] true)] [(4, 1)]), [.t 14], none⟩,
  ⟨some 16, (.bld [(.bool false), (.int .i64 0), (.int .i64 0), (.slc 0 [] true), (.slc 0 [] true)] [(0, 1)]), [.c (.bool true)], none⟩,
  ⟨some 17, (.bsl 5), [.t 16], none⟩,
  ⟨some 18, (.bld [(.bool false), (.int .i64 0), (.int .i64 0), (.slc 0 [] true), (.slc 0 [] true)] [(4, 1)]), [.t 17], none⟩,
  ⟨some 19, (.bld [(.bool false), (.int .i64 0), (.int .i64 0), (.slc 0 [] true), (.slc 0 [] true)] [(1, 1)]), [.c (.int .i64 (-2))], none⟩,
  ⟨some 20, (.bsl 5), [.t 19], none⟩,
  ⟨some 21, (.bld [(.bool false), (.int .i64 0), (.int .i64 0), (.slc 0 [] true), (.slc 0 [] true)] [(4, 1)]), [.t 20], none⟩,
  ⟨some 22, (.bsl 5), [.t 15, .t 18, .t 21], none⟩,
  ⟨some 23, (.call Zcp), [.t 12, .t 22], none⟩,
  ⟨some 11, .mov, [.t 23], none⟩,
  ⟨some 24, (.ext 0), [.t 11], none⟩,
  ⟨some 25, (.ext 1), [.t 11], none⟩,
  ⟨some 2, .mov, [.t 24], none⟩,
  ⟨some 3, .mov, [.t 25], none⟩]
def Z18a : List Z2a := [
  ⟨some 26, (.load true 6), [.t 1], none⟩,
  ⟨some 27, (.call Zcr), [.t 26], none⟩,
  ⟨some 4, .mov, [.t 27], none⟩]
def Z18b : List Z2a := [
  ⟨some 28, .mov, [.t 4], none⟩,
  ⟨some 29, .lens, [.t 28], none⟩,
  ⟨some 30, (.bin .neq), [.t 29, .c (.int .i64 2)], none⟩,
  ⟨some 31, .mov, [.t 30], none⟩,
  ⟨some 32, .mov, [.t 2], some (31, false)⟩,
  ⟨some 33, .lens, [.t 32], some (31, false)⟩,
  ⟨some 34, (.bin .neq), [.t 33, .c (.int .i64 2)], some (31, false)⟩,
  ⟨some 35, .pick, [.t 31, .c (.bool true), .t 34], none⟩]
def Z18c : List Z2a := [
  ⟨some 0, .mov, [.c (.bool false)], none⟩]
def Z18d : List Z2a := [
  ⟨some 36, .mov, [.t 4], none⟩,
  ⟨some 37, (.iad 8), [.t 36, .c (.int .i64 1)], none⟩,
  ⟨some 38, (.load true 8), [.t 37], none⟩,
  ⟨some 39, .mov, [.t 2], none⟩,
  ⟨some 40, (.iad 5), [.t 39, .c (.int .i64 1)], none⟩,
  ⟨some 41, (.load true 5), [.t 40], none⟩,
  ⟨some 42, (.callp Zct), [.t 41], none⟩,
  ⟨some 43, (.callp Zcs), [.t 38, .t 42], none⟩,
  ⟨some 5, (.alloc (.agg [(.int .i64 0), (.bool false), (.bool false), (.bool false), (.int .i64 0), (.int .i64 0), (.slc 0 [] true), (.slc 0 [] true), (.bool false), (.int .i64 0), (.int .i64 0), (.slc 0 [] true), (.slc 0 [] true), (.bool false), (.int .i64 0)])), [], none⟩,
  ⟨none, (.store 15), [.t 5, .t 43], none⟩]
def Z18e : List Z2a := [
  ⟨some 44, .mov, [.t 4], none⟩,
  ⟨some 45, (.iad 8), [.t 44, .c (.int .i64 1)], none⟩,
  ⟨some 46, (.load true 8), [.t 45], none⟩,
  ⟨some 47, .mov, [.t 4], none⟩,
  ⟨some 48, (.iad 8), [.t 47, .c (.int .i64 1)], none⟩,
  ⟨some 49, (.load true 8), [.t 48], none⟩,
  ⟨some 50, (.callp Zcx), [.t 49], none⟩,
  ⟨some 51, (.load true 15), [.t 5], none⟩,
  ⟨some 52, (.callp Zcz), [.t 46, .t 50, .t 51], none⟩,
  ⟨some 6, (.alloc (.agg [(.int .i64 0), (.bool false), (.bool false), (.bool false), (.int .i64 0), (.int .i64 0), (.slc 0 [] true), (.slc 0 [] true), (.bool false), (.int .i64 0), (.int .i64 0), (.slc 0 [] true), (.slc 0 [] true), (.bool false), (.int .i64 0)])), [], none⟩,
  ⟨none, (.store 15), [.t 6, .t 52], none⟩]
def Z18f : List Z2a := [
  ⟨some 53, (.fad 0), [.t 5], none⟩,
  ⟨some 54, (.load false 1), [.t 53], none⟩,
  ⟨some 55, (.bin .eql), [.t 54, .c (.int .i64 2)], none⟩,
  ⟨some 56, .mov, [.t 55], none⟩,
  ⟨some 57, (.fad 1), [.t 5], some (56, true)⟩,
  ⟨some 58, (.load false 1), [.t 57], some (56, true)⟩,
  ⟨some 59, .pick, [.t 56, .t 58, .c (.bool false)], none⟩,
  ⟨some 60, .mov, [.t 59], none⟩,
  ⟨some 61, (.fad 2), [.t 5], some (60, true)⟩,
  ⟨some 62, (.load false 1), [.t 61], some (60, true)⟩,
  ⟨some 63, .pick, [.t 60, .t 62, .c (.bool false)], none⟩,
  ⟨some 64, .mov, [.t 63], none⟩,
  ⟨some 65, (.fad 3), [.t 5], some (64, true)⟩,
  ⟨some 66, (.fad 1), [.t 65], some (64, true)⟩,
  ⟨some 67, (.load false 1), [.t 66], some (64, true)⟩,
  ⟨some 68, (.bin .eql), [.t 67, .c (.int .i64 (-2))], some (64, true)⟩,
  ⟨some 69, .pick, [.t 64, .t 68, .c (.bool false)], none⟩,
  ⟨some 70, .mov, [.t 69], none⟩,
  ⟨some 71, (.fad 8), [.t 5], some (70, true)⟩,
  ⟨some 72, (.fad 1), [.t 71], some (70, true)⟩,
  ⟨some 73, (.load false 1), [.t 72], some (70, true)⟩,
  ⟨some 74, (.bin .eql), [.t 73, .c (.int .i64 5)], some (70, true)⟩,
  ⟨some 75, .pick, [.t 70, .t 74, .c (.bool false)], none⟩,
  ⟨some 76, .mov, [.t 75], none⟩,
  ⟨some 77, (.fad 13), [.t 5], some (76, true)⟩,
  ⟨some 78, (.load false 1), [.t 77], some (76, true)⟩,
  ⟨some 79, .pick, [.t 76, .t 78, .c (.bool false)], none⟩,
  ⟨some 80, .mov, [.t 79], none⟩,
  ⟨some 81, (.fad 14), [.t 5], some (80, true)⟩,
  ⟨some 82, (.load false 1), [.t 81], some (80, true)⟩,
  ⟨some 83, (.bin .eql), [.t 82, .c (.int .i64 3)], some (80, true)⟩,
  ⟨some 84, .pick, [.t 80, .t 83, .c (.bool false)], none⟩,
  ⟨some 85, .mov, [.t 84], none⟩,
  ⟨some 86, (.load true 15), [.t 6], some (85, true)⟩,
  ⟨some 87, (.load true 15), [.t 5], some (85, true)⟩,
  ⟨some 88, (.call Zdx), [.t 86, .t 87], some (85, true)⟩,
  ⟨some 89, .pick, [.t 85, .t 88, .c (.bool false)], none⟩,
  ⟨some 90, .mov, [.t 89], none⟩,
  ⟨some 91, .mov, [.t 4], some (90, true)⟩,
  ⟨some 92, (.iad 8), [.t 91, .c (.int .i64 1)], some (90, true)⟩,
  ⟨some 93, (.load true 8), [.t 92], some (90, true)⟩,
  ⟨some 94, (.call Zcx), [.t 93], some (90, true)⟩,
  ⟨some 95, (.fld false 13 1), [.t 94], some (90, true)⟩,
  ⟨some 96, .pick, [.t 90, .t 95, .c (.bool false)], none⟩,
  ⟨some 97, .mov, [.t 96], none⟩,
  ⟨some 98, .mov, [.t 4], some (97, true)⟩,
  ⟨some 99, (.iad 8), [.t 98, .c (.int .i64 0)], some (97, true)⟩,
  ⟨some 100, (.load true 8), [.t 99], some (97, true)⟩,
  ⟨some 101, (.call Zcx), [.t 100], some (97, true)⟩,
  ⟨some 102, (.fld false 13 1), [.t 101], some (97, true)⟩,
  ⟨some 103, .unot, [.t 102], some (97, true)⟩,
  ⟨some 104, .pick, [.t 97, .t 103, .c (.bool false)], none⟩,
  ⟨some 0, .mov, [.t 104], none⟩]
def Z18g : Z2y := ⟨105, (.seq (.region Z187 []) (.seq (.region Z188 [1]) (.seq (.region Z189 [1, 2]) (.seq (.region Z18a [2, 4]) (.seq (.seq (.region Z18b [2, 4, 35]) (.cond (.t 35) (.seq (.region Z18c [0]) .ret) .skip)) (.seq (.region Z18d [4, 5]) (.seq (.region Z18e [4, 5, 6]) (.seq (.region Z18f [0]) .ret)))))))), [.t 0]⟩
def Z18h : List Z2a := [
  ⟨some 3, (.box 6), [.t 0], none⟩,
  ⟨some 4, (.box 5), [.t 1], none⟩,
  ⟨some 5, (.box 15), [.t 2], none⟩,
  ⟨some 6, .mov, [.c (.bool false)], none⟩]
def Z18i : List Z2a := [
  ⟨some 16, (.fad 2), [.t 5], none⟩,
  ⟨some 17, (.load false 1), [.t 16], none⟩,
  ⟨some 18, .unot, [.t 17], none⟩]
def Z18j : List Z2a := [
  ⟨some 6, .mov, [.c (.bool true)], none⟩]
def Z18k : List Z2a := [
  ⟨some 7, .mov, [.c (.bool false)], none⟩]
def Z18l : List Z2a := [
  ⟨some 8, .mov, [.c (.bool false)], none⟩]
def Z18m : List Z2a := [
  ⟨some 19, (.fad 1), [.t 4], none⟩,
  ⟨some 20, (.load false 1), [.t 19], none⟩,
  ⟨some 21, .lens, [.t 20], none⟩,
  ⟨some 22, (.fad 3), [.t 4], none⟩,
  ⟨some 23, (.load false 1), [.t 22], none⟩,
  ⟨some 24, .lens, [.t 23], none⟩,
  ⟨some 25, (.bin .add), [.t 21, .t 24], none⟩,
  ⟨some 9, .mov, [.t 25], none⟩]
def Z18n : List Z2a := [
  ⟨some 10, .mov, [.c (.int .i64 0)], none⟩]
def Z18o : List Z2a := [
  ⟨some 26, .mov, [.t 10], none⟩,
  ⟨some 27, .mov, [.t 9], none⟩,
  ⟨some 28, (.bin .lss), [.t 26, .t 27], none⟩]
def Z18p : List Z2a := [
  ⟨some 31, (.bld [(.bool false), (.int .i64 0), (.int .i64 0), (.slc 0 [] true), (.slc 0 [] true)] []), [], none⟩,
  ⟨some 11, (.alloc (.agg [(.bool false), (.int .i64 0), (.int .i64 0), (.slc 0 [] true), (.slc 0 [] true)])), [], none⟩,
  ⟨none, (.store 5), [.t 11, .t 31], none⟩]
def Z18q : List Z2a := [
  ⟨some 32, (.fad 3), [.t 4], none⟩,
  ⟨some 33, (.load false 1), [.t 32], none⟩,
  ⟨some 34, .lens, [.t 33], none⟩,
  ⟨some 35, (.bin .gtr), [.t 34, .c (.int .i64 0)], none⟩]
def Z18r : List Z2a := [
  ⟨some 36, (.fad 3), [.t 4], none⟩,
  ⟨some 37, (.load false 1), [.t 36], none⟩,
  ⟨some 38, .mov, [.t 10], none⟩,
  ⟨some 39, (.iad 1), [.t 37, .t 38], none⟩,
  ⟨some 40, (.load false 1), [.t 39], none⟩,
  ⟨some 41, (.fad 3), [.t 11], none⟩,
  ⟨none, (.store 1), [.t 41, .t 40], none⟩]
def Z18s : List Z2a := [
  ⟨some 42, (.fad 1), [.t 4], none⟩,
  ⟨some 43, (.load false 1), [.t 42], none⟩,
  ⟨some 44, .mov, [.t 10], none⟩,
  ⟨some 45, (.iad 1), [.t 43, .t 44], none⟩,
  ⟨some 46, (.load false 1), [.t 45], none⟩,
  ⟨some 47, (.fad 1), [.t 11], none⟩,
  ⟨none, (.store 1), [.t 47, .t 46], none⟩]
def Z18t : List Z2a := [
  ⟨some 48, (.fad 2), [.t 4], none⟩,
  ⟨some 49, (.load false 1), [.t 48], none⟩,
  ⟨some 50, .lens, [.t 49], none⟩,
  ⟨some 51, (.bin .gtr), [.t 50, .c (.int .i64 0)], none⟩]
def Z18u : List Z2a := [
  ⟨some 52, (.fad 2), [.t 4], none⟩,
  ⟨some 53, (.load false 1), [.t 52], none⟩,
  ⟨some 54, .mov, [.t 10], none⟩,
  ⟨some 55, (.iad 1), [.t 53, .t 54], none⟩,
  ⟨some 56, (.load false 1), [.t 55], none⟩,
  ⟨some 57, (.fad 2), [.t 11], none⟩,
  ⟨none, (.store 1), [.t 57, .t 56], none⟩]
def Z18v : List Z2a := [
  ⟨some 59, (.load true 6), [.t 3], none⟩,
  ⟨some 60, (.load true 5), [.t 11], none⟩,
  ⟨some 61, (.fad 3), [.t 5], none⟩,
  ⟨some 62, (.load true 5), [.t 61], none⟩,
  ⟨some 63, (.call Zec), [.t 59, .t 60, .t 62], none⟩,
  ⟨some 58, .mov, [.t 63], none⟩,
  ⟨some 64, (.ext 0), [.t 58], none⟩,
  ⟨some 65, (.ext 1), [.t 58], none⟩,
  ⟨some 12, .mov, [.t 64], none⟩,
  ⟨some 13, .mov, [.t 65], none⟩]
def Z18w : List Z2a := [
  ⟨some 67, (.load true 6), [.t 3], none⟩,
  ⟨some 68, (.load true 5), [.t 11], none⟩,
  ⟨some 69, (.fad 8), [.t 5], none⟩,
  ⟨some 70, (.load true 5), [.t 69], none⟩,
  ⟨some 71, (.call Zec), [.t 67, .t 68, .t 70], none⟩,
  ⟨some 66, .mov, [.t 71], none⟩,
  ⟨some 72, (.ext 0), [.t 66], none⟩,
  ⟨some 73, (.ext 1), [.t 66], none⟩,
  ⟨some 14, .mov, [.t 72], none⟩,
  ⟨some 15, .mov, [.t 73], none⟩]
def Z18x : List Z2a := [
  ⟨some 74, .mov, [.t 12], none⟩,
  ⟨some 75, (.bin .lss), [.t 74, .c (.int .i64 0)], none⟩,
  ⟨some 76, .mov, [.t 75], none⟩,
  ⟨some 77, .mov, [.t 14], some (76, false)⟩,
  ⟨some 78, (.bin .gtr), [.t 77, .c (.int .i64 0)], some (76, false)⟩,
  ⟨some 79, .pick, [.t 76, .c (.bool true), .t 78], none⟩]
def Z18y : List Z2a := [
  ⟨some 6, .mov, [.c (.bool false)], none⟩]
def Z18z : List Z2a := [
  ⟨some 80, .mov, [.t 7], none⟩,
  ⟨some 81, .mov, [.t 80], none⟩,
  ⟨some 82, .mov, [.t 12], some (81, false)⟩,
  ⟨some 83, (.bin .eql), [.t 82, .c (.int .i64 0)], some (81, false)⟩,
  ⟨some 84, .pick, [.t 81, .c (.bool true), .t 83], none⟩,
  ⟨some 7, .mov, [.t 84], none⟩]
def Z190 : List Z2a := [
  ⟨some 85, .mov, [.t 8], none⟩,
  ⟨some 86, .mov, [.t 85], none⟩,
  ⟨some 87, .mov, [.t 14], some (86, false)⟩,
  ⟨some 88, (.bin .eql), [.t 87, .c (.int .i64 0)], some (86, false)⟩,
  ⟨some 89, .pick, [.t 86, .c (.bool true), .t 88], none⟩,
  ⟨some 8, .mov, [.t 89], none⟩]
def Z191 : List Z2a := [
  ⟨some 29, .mov, [.t 10], none⟩,
  ⟨some 30, (.bin .add), [.t 29, .c (.int .i64 1)], none⟩,
  ⟨some 10, .mov, [.t 30], none⟩]
def Z192 : Z2b := (.seq (.seq (.region Z18o [3, 4, 5, 7, 8, 9, 10, 28]) (.cond (.t 28) .skip (.exit 0))) (.seq (.block 1 (.seq (.region Z18p [3, 4, 5, 7, 8, 9, 10, 11]) (.seq (.seq (.region Z18q [3, 4, 5, 7, 8, 9, 10, 11, 35]) (.cond (.t 35) (.region Z18r [3, 4, 5, 7, 8, 9, 10, 11]) (.region Z18s [3, 4, 5, 7, 8, 9, 10, 11]))) (.seq (.seq (.region Z18t [3, 4, 5, 7, 8, 9, 10, 11, 51]) (.cond (.t 51) (.region Z18u [3, 4, 5, 7, 8, 9, 10, 11]) .skip)) (.seq (.region Z18v [3, 4, 5, 7, 8, 9, 10, 11, 12]) (.seq (.region Z18w [3, 4, 5, 7, 8, 9, 10, 12, 14]) (.seq (.seq (.region Z18x [3, 4, 5, 7, 8, 9, 10, 12, 14, 79]) (.cond (.t 79) (.seq (.region Z18y [6]) .ret) .skip)) (.seq (.region Z18z [3, 4, 5, 7, 8, 9, 10, 14]) (.region Z190 [3, 4, 5, 7, 8, 9, 10]))))))))) (.region Z191 [3, 4, 5, 7, 8, 9, 10])))
def Z193 : List Z2a := [
  ⟨some 90, .mov, [.t 7], none⟩,
  ⟨some 91, .mov, [.t 90], none⟩,
  ⟨some 92, .mov, [.t 8], some (91, true)⟩,
  ⟨some 93, .pick, [.t 91, .t 92, .c (.bool false)], none⟩,
  ⟨some 6, .mov, [.t 93], none⟩]
def Z194 : Z2y := ⟨94, (.seq (.region Z18h [3, 4, 5]) (.seq (.seq (.region Z18i [3, 4, 5, 18]) (.cond (.t 18) (.seq (.region Z18j [6]) .ret) .skip)) (.seq (.region Z18k [3, 4, 5, 7]) (.seq (.region Z18l [3, 4, 5, 7, 8]) (.seq (.region Z18m [3, 4, 5, 7, 8, 9]) (.seq (.seq (.region Z18n [3, 4, 5, 7, 8, 9, 10]) (.block 0 (.loop Z192))) (.seq (.region Z193 [6]) .ret))))))), [.t 6]⟩
def Z195 : List Z2a := [
  ⟨some 1, (.box 6), [.t 0], none⟩,
  ⟨some 2, .mov, [.c (.bool false)], none⟩]
def Z196 : List Z2a := [
  ⟨some 4, (.load true 6), [.t 1], none⟩,
  ⟨some 5, (.call Zf2), [.t 4, .c (.int .i64 1)], none⟩,
  ⟨some 3, .mov, [.t 5], none⟩]
def Z197 : List Z2a := [
  ⟨some 6, .mov, [.t 3], none⟩,
  ⟨some 7, (.bin .leq), [.t 6, .c (.int .i64 150)], none⟩,
  ⟨some 2, .mov, [.t 7], none⟩]
def Z198 : Z2y := ⟨8, (.seq (.region Z195 [1]) (.seq (.region Z196 [3]) (.seq (.region Z197 [2]) .ret))), [.t 2]⟩
def Z199 : List Z2a := [
  ⟨some 2, (.box 6), [.t 0], none⟩,
  ⟨some 4, .mov, [.c (.int .i64 0)], none⟩]
def Z19a : List Z2a := [
  ⟨some 8, .mov, [.t 1], none⟩,
  ⟨some 9, (.bin .gtr), [.t 8, .c (.int .i64 20)], none⟩,
  ⟨some 10, .mov, [.t 9], none⟩,
  ⟨some 11, (.fad 2), [.t 2], some (10, false)⟩,
  ⟨some 12, (.load false 1), [.t 11], some (10, false)⟩,
  ⟨some 13, .lens, [.t 12], some (10, false)⟩,
  ⟨some 14, (.bin .gtr), [.t 13, .c (.int .i64 300)], some (10, false)⟩,
  ⟨some 15, .pick, [.t 10, .c (.bool true), .t 14], none⟩,
  ⟨some 16, .mov, [.t 15], none⟩,
  ⟨some 17, (.fad 1), [.t 2], some (16, false)⟩,
  ⟨some 18, (.load false 1), [.t 17], some (16, false)⟩,
  ⟨some 19, .lens, [.t 18], some (16, false)⟩,
  ⟨some 20, (.bin .gtr), [.t 19, .c (.int .i64 300)], some (16, false)⟩,
  ⟨some 21, .pick, [.t 16, .c (.bool true), .t 20], none⟩]
def Z19b : List Z2a := [
  ⟨some 4, .mov, [.c (.int .i64 1000)], none⟩]
def Z19c : List Z2a := [
  ⟨some 5, .mov, [.c (.int .i64 1)], none⟩]
def Z19d : List Z2a := [
  ⟨some 6, .mov, [.c (.int .i64 0)], none⟩]
def Z19e : List Z2a := [
  ⟨some 22, .mov, [.t 6], none⟩,
  ⟨some 23, (.fad 1), [.t 2], none⟩,
  ⟨some 24, (.load false 1), [.t 23], none⟩,
  ⟨some 25, .lens, [.t 24], none⟩,
  ⟨some 26, (.bin .lss), [.t 22, .t 25], none⟩]
def Z19f : List Z2a := [
  ⟨some 29, (.fad 1), [.t 2], none⟩,
  ⟨some 30, (.load false 1), [.t 29], none⟩,
  ⟨some 31, .mov, [.t 6], none⟩,
  ⟨some 32, (.iad 1), [.t 30, .t 31], none⟩,
  ⟨some 33, (.load false 1), [.t 32], none⟩,
  ⟨some 34, .lent, [.t 33], none⟩,
  ⟨some 35, (.bin .gtr), [.t 34, .c (.int .i64 200)], none⟩]
def Z19g : List Z2a := [
  ⟨some 4, .mov, [.c (.int .i64 1000)], none⟩]
def Z19h : List Z2a := [
  ⟨some 27, .mov, [.t 6], none⟩,
  ⟨some 28, (.bin .add), [.t 27, .c (.int .i64 1)], none⟩,
  ⟨some 6, .mov, [.t 28], none⟩]
def Z19i : Z2b := (.seq (.seq (.region Z19e [1, 2, 5, 6, 26]) (.cond (.t 26) .skip (.exit 0))) (.seq (.block 1 (.seq (.region Z19f [1, 2, 5, 6, 35]) (.cond (.t 35) (.seq (.region Z19g [4]) .ret) .skip))) (.region Z19h [1, 2, 5, 6])))
def Z19j : List Z2a := [
  ⟨some 7, .mov, [.c (.int .i64 0)], none⟩]
def Z19k : List Z2a := [
  ⟨some 36, .mov, [.t 7], none⟩,
  ⟨some 37, (.fad 2), [.t 2], none⟩,
  ⟨some 38, (.load false 1), [.t 37], none⟩,
  ⟨some 39, .lens, [.t 38], none⟩,
  ⟨some 40, (.bin .lss), [.t 36, .t 39], none⟩]
def Z19l : List Z2a := [
  ⟨some 43, .mov, [.t 5], none⟩,
  ⟨some 44, (.fad 2), [.t 2], none⟩,
  ⟨some 45, (.load false 1), [.t 44], none⟩,
  ⟨some 46, .mov, [.t 7], none⟩,
  ⟨some 47, (.iad 6), [.t 45, .t 46], none⟩,
  ⟨some 48, (.load true 6), [.t 47], none⟩,
  ⟨some 49, .mov, [.t 1], none⟩,
  ⟨some 50, (.bin .add), [.t 49, .c (.int .i64 1)], none⟩,
  ⟨some 51, (.call Zf2), [.t 48, .t 50], none⟩,
  ⟨some 52, (.bin .add), [.t 43, .t 51], none⟩,
  ⟨some 5, .mov, [.t 52], none⟩]
def Z19m : List Z2a := [
  ⟨some 53, .mov, [.t 5], none⟩,
  ⟨some 54, (.bin .gtr), [.t 53, .c (.int .i64 1000)], none⟩]
def Z19n : List Z2a := [
  ⟨some 4, .mov, [.c (.int .i64 1000)], none⟩]
def Z19o : List Z2a := [
  ⟨some 41, .mov, [.t 7], none⟩,
  ⟨some 42, (.bin .add), [.t 41, .c (.int .i64 1)], none⟩,
  ⟨some 7, .mov, [.t 42], none⟩]
def Z19p : Z2b := (.seq (.seq (.region Z19k [1, 2, 5, 7, 40]) (.cond (.t 40) .skip (.exit 2))) (.seq (.block 3 (.seq (.region Z19l [1, 2, 5, 7]) (.seq (.region Z19m [1, 2, 5, 7, 54]) (.cond (.t 54) (.seq (.region Z19n [4]) .ret) .skip)))) (.region Z19o [1, 2, 5, 7])))
def Z19q : List Z2a := [
  ⟨some 55, .mov, [.t 5], none⟩,
  ⟨some 4, .mov, [.t 55], none⟩]
def Z19r : Z2y := ⟨56, (.seq (.region Z199 [1, 2]) (.seq (.seq (.region Z19a [1, 2, 21]) (.cond (.t 21) (.seq (.region Z19b [4]) .ret) .skip)) (.seq (.region Z19c [1, 2, 5]) (.seq (.seq (.region Z19d [1, 2, 5, 6]) (.block 0 (.loop Z19i))) (.seq (.seq (.region Z19j [1, 2, 5, 7]) (.block 2 (.loop Z19p))) (.seq (.region Z19q [4]) .ret)))))), [.t 4]⟩
def Z19s : List Z2a := [
  ⟨some 1, (.box 5), [.t 0], none⟩,
  ⟨some 2, .mov, [.c (.int .i64 0)], none⟩]
def Z19t : List Z2a := [
  ⟨some 3, (.load true 5), [.t 1], none⟩,
  ⟨some 4, (.call Zf7), [.t 3, .c (.int .i64 1)], none⟩,
  ⟨some 2, .mov, [.t 4], none⟩]
def Z19u : Z2y := ⟨5, (.seq (.region Z19s [1]) (.seq (.region Z19t [2]) .ret)), [.t 2]⟩
def Z19v : List Z2a := [
  ⟨some 1, (.box 5), [.t 0], none⟩,
  ⟨some 2, .mov, [.c (.bool false)], none⟩]
def Z19w : List Z2a := [
  ⟨some 3, (.load true 5), [.t 1], none⟩,
  ⟨some 4, (.call Zdy), [.t 3], none⟩,
  ⟨some 5, (.bin .leq), [.t 4, .c (.int .i64 400)], none⟩,
  ⟨some 2, .mov, [.t 5], none⟩]
def Z19x : Z2y := ⟨6, (.seq (.region Z19v [1]) (.seq (.region Z19w [2]) .ret)), [.t 2]⟩
def Z19y : List Z2a := [
  ⟨some 2, (.box 5), [.t 0], none⟩,
  ⟨some 4, .mov, [.c (.int .i64 0)], none⟩]
def Z19z : List Z2a := [
  ⟨some 7, .mov, [.t 1], none⟩,
  ⟨some 8, (.bin .gtr), [.t 7, .c (.int .i64 20)], none⟩,
  ⟨some 9, .mov, [.t 8], none⟩,
  ⟨some 10, (.fad 4), [.t 2], some (9, false)⟩,
  ⟨some 11, (.load false 1), [.t 10], some (9, false)⟩,
  ⟨some 12, .lens, [.t 11], some (9, false)⟩,
  ⟨some 13, (.bin .gtr), [.t 12, .c (.int .i64 400)], some (9, false)⟩,
  ⟨some 14, .pick, [.t 9, .c (.bool true), .t 13], none⟩,
  ⟨some 15, .mov, [.t 14], none⟩,
  ⟨some 16, (.fad 3), [.t 2], some (15, false)⟩,
  ⟨some 17, (.load false 1), [.t 16], some (15, false)⟩,
  ⟨some 18, .lens, [.t 17], some (15, false)⟩,
  ⟨some 19, (.bin .gtr), [.t 18, .c (.int .i64 5000)], some (15, false)⟩,
  ⟨some 20, .pick, [.t 15, .c (.bool true), .t 19], none⟩]
def Z1a0 : List Z2a := [
  ⟨some 4, .mov, [.c (.int .i64 1000)], none⟩]
def Z1a1 : List Z2a := [
  ⟨some 21, (.fad 3), [.t 2], none⟩,
  ⟨some 22, (.load false 1), [.t 21], none⟩,
  ⟨some 23, .lens, [.t 22], none⟩,
  ⟨some 24, (.bin .quo), [.t 23, .c (.int .i64 50)], none⟩,
  ⟨some 25, (.bin .add), [.c (.int .i64 1), .t 24], none⟩,
  ⟨some 5, .mov, [.t 25], none⟩]
def Z1a2 : List Z2a := [
  ⟨some 6, .mov, [.c (.int .i64 0)], none⟩]
def Z1a3 : List Z2a := [
  ⟨some 26, .mov, [.t 6], none⟩,
  ⟨some 27, (.fad 4), [.t 2], none⟩,
  ⟨some 28, (.load false 1), [.t 27], none⟩,
  ⟨some 29, .lens, [.t 28], none⟩,
  ⟨some 30, (.bin .lss), [.t 26, .t 29], none⟩]
def Z1a4 : List Z2a := [
  ⟨some 33, .mov, [.t 5], none⟩,
  ⟨some 34, (.fad 4), [.t 2], none⟩,
  ⟨some 35, (.load false 1), [.t 34], none⟩,
  ⟨some 36, .mov, [.t 6], none⟩,
  ⟨some 37, (.iad 5), [.t 35, .t 36], none⟩,
  ⟨some 38, (.load true 5), [.t 37], none⟩,
  ⟨some 39, .mov, [.t 1], none⟩,
  ⟨some 40, (.bin .add), [.t 39, .c (.int .i64 1)], none⟩,
  ⟨some 41, (.call Zf7), [.t 38, .t 40], none⟩,
  ⟨some 42, (.bin .add), [.t 33, .t 41], none⟩,
  ⟨some 5, .mov, [.t 42], none⟩]
def Z1a5 : List Z2a := [
  ⟨some 43, .mov, [.t 5], none⟩,
  ⟨some 44, (.bin .gtr), [.t 43, .c (.int .i64 1000)], none⟩]
def Z1a6 : List Z2a := [
  ⟨some 4, .mov, [.c (.int .i64 1000)], none⟩]
def Z1a7 : List Z2a := [
  ⟨some 31, .mov, [.t 6], none⟩,
  ⟨some 32, (.bin .add), [.t 31, .c (.int .i64 1)], none⟩,
  ⟨some 6, .mov, [.t 32], none⟩]
def Z1a8 : Z2b := (.seq (.seq (.region Z1a3 [1, 2, 5, 6, 30]) (.cond (.t 30) .skip (.exit 0))) (.seq (.block 1 (.seq (.region Z1a4 [1, 2, 5, 6]) (.seq (.region Z1a5 [1, 2, 5, 6, 44]) (.cond (.t 44) (.seq (.region Z1a6 [4]) .ret) .skip)))) (.region Z1a7 [1, 2, 5, 6])))
def Z1a9 : List Z2a := [
  ⟨some 45, .mov, [.t 5], none⟩,
  ⟨some 4, .mov, [.t 45], none⟩]
def Z1aa : Z2y := ⟨46, (.seq (.region Z19y [1, 2]) (.seq (.seq (.region Z19z [1, 2, 20]) (.cond (.t 20) (.seq (.region Z1a0 [4]) .ret) .skip)) (.seq (.region Z1a1 [1, 2, 5]) (.seq (.seq (.region Z1a2 [1, 2, 5, 6]) (.block 0 (.loop Z1a8))) (.seq (.region Z1a9 [4]) .ret))))), [.t 4]⟩
def Z1ab : List Z2a := [
  ⟨some 2, (.box 6), [.t 0], none⟩,
  ⟨some 3, (.box 5), [.t 1], none⟩,
  ⟨some 4, (.alloc (.agg [(.int .i64 0), (.bool false), (.bool false), (.bool false), (.int .i64 0), (.int .i64 0), (.slc 0 [] true), (.slc 0 [] true), (.bool false), (.int .i64 0), (.int .i64 0), (.slc 0 [] true), (.slc 0 [] true), (.bool false), (.int .i64 0)])), [], none⟩]
def Z1ac : List Z2a := [
  ⟨some 14, (.load true 5), [.t 3], none⟩,
  ⟨some 15, (.callp Zdl), [.t 14], none⟩,
  ⟨some 16, (.fad 0), [.t 2], none⟩,
  ⟨some 17, (.load false 1), [.t 16], none⟩,
  ⟨some 18, (.callp Ze8), [.t 17], none⟩,
  ⟨some 19, (.bld [(.int .i64 0), (.bool false), (.bool false), (.bool false), (.int .i64 0), (.int .i64 0), (.slc 0 [] true), (.slc 0 [] true), (.bool false), (.int .i64 0), (.int .i64 0), (.slc 0 [] true), (.slc 0 [] true), (.bool false), (.int .i64 0)] [(1, 1), (13, 1)]), [.t 15, .t 18], none⟩,
  ⟨some 5, (.alloc (.agg [(.int .i64 0), (.bool false), (.bool false), (.bool false), (.int .i64 0), (.int .i64 0), (.slc 0 [] true), (.slc 0 [] true), (.bool false), (.int .i64 0), (.int .i64 0), (.slc 0 [] true), (.slc 0 [] true), (.bool false), (.int .i64 0)])), [], none⟩,
  ⟨none, (.store 15), [.t 5, .t 19], none⟩]
def Z1ad : List Z2a := [
  ⟨some 6, .mov, [.c (.int .i64 0)], none⟩]
def Z1ae : List Z2a := [
  ⟨some 7, .mov, [.c (.int .i64 0)], none⟩]
def Z1af : List Z2a := [
  ⟨some 20, .mov, [.t 7], none⟩,
  ⟨some 21, (.fad 0), [.t 3], none⟩,
  ⟨some 22, (.load false 1), [.t 21], none⟩,
  ⟨some 23, .lens, [.t 22], none⟩,
  ⟨some 24, (.bin .lss), [.t 20, .t 23], none⟩]
def Z1ag : List Z2a := [
  ⟨some 27, (.fad 0), [.t 3], none⟩,
  ⟨some 28, (.load false 1), [.t 27], none⟩,
  ⟨some 29, .mov, [.t 7], none⟩,
  ⟨some 30, (.iad 1), [.t 28, .t 29], none⟩,
  ⟨some 31, (.load false 1), [.t 30], none⟩,
  ⟨some 32, .unot, [.t 31], none⟩]
def Z1ah : List Z2a := [
  ⟨some 33, (.bld [(.bool false), (.int .i64 0), (.int .i64 0), (.slc 0 [] true), (.slc 0 [] true)] []), [], none⟩,
  ⟨some 8, (.alloc (.agg [(.bool false), (.int .i64 0), (.int .i64 0), (.slc 0 [] true), (.slc 0 [] true)])), [], none⟩,
  ⟨none, (.store 5), [.t 8, .t 33], none⟩]
def Z1ai : List Z2a := [
  ⟨some 9, .mov, [.c (.int .i64 0)], none⟩]
def Z1aj : List Z2a := [
  ⟨some 35, (.fad 0), [.t 2], none⟩,
  ⟨some 36, (.load false 1), [.t 35], none⟩,
  ⟨some 37, (.call Ze9), [.t 36], none⟩,
  ⟨some 34, .mov, [.t 37], none⟩]
def Z1ak : List Z2a := [
  ⟨some 38, (.fad 3), [.t 3], none⟩,
  ⟨some 39, (.load false 1), [.t 38], none⟩,
  ⟨some 40, .mov, [.t 6], none⟩,
  ⟨some 41, (.iad 1), [.t 39, .t 40], none⟩,
  ⟨some 42, (.load false 1), [.t 41], none⟩,
  ⟨some 43, (.fad 3), [.t 8], none⟩,
  ⟨none, (.store 1), [.t 43, .t 42], none⟩]
def Z1al : List Z2a := [
  ⟨some 44, (.fad 3), [.t 8], none⟩,
  ⟨some 45, (.load false 1), [.t 44], none⟩,
  ⟨some 46, .lens, [.t 45], none⟩,
  ⟨some 9, .mov, [.t 46], none⟩]
def Z1am : List Z2a := [
  ⟨some 48, (.fad 0), [.t 2], none⟩,
  ⟨some 49, (.load false 1), [.t 48], none⟩,
  ⟨some 50, (.call Zea), [.t 49], none⟩,
  ⟨some 47, .mov, [.t 50], none⟩]
def Z1an : List Z2a := [
  ⟨some 51, (.fad 1), [.t 3], none⟩,
  ⟨some 52, (.load false 1), [.t 51], none⟩,
  ⟨some 53, .mov, [.t 6], none⟩,
  ⟨some 54, (.iad 1), [.t 52, .t 53], none⟩,
  ⟨some 55, (.load false 1), [.t 54], none⟩,
  ⟨some 56, (.fad 1), [.t 8], none⟩,
  ⟨none, (.store 1), [.t 56, .t 55], none⟩]
def Z1ao : List Z2a := [
  ⟨some 57, (.fad 1), [.t 8], none⟩,
  ⟨some 58, (.load false 1), [.t 57], none⟩,
  ⟨some 9, .mov, [.t 58], none⟩]
def Z1ap : List Z2a := [
  ⟨some 59, (.fad 0), [.t 2], none⟩,
  ⟨some 60, (.load false 1), [.t 59], none⟩,
  ⟨some 61, (.bin .eql), [.t 60, .c (.int .i64 9)], none⟩]
def Z1aq : List Z2a := [
  ⟨some 62, (.fad 2), [.t 3], none⟩,
  ⟨some 63, (.load false 1), [.t 62], none⟩,
  ⟨some 64, .mov, [.t 6], none⟩,
  ⟨some 65, (.iad 1), [.t 63, .t 64], none⟩,
  ⟨some 66, (.load false 1), [.t 65], none⟩,
  ⟨some 67, (.fad 2), [.t 8], none⟩,
  ⟨none, (.store 1), [.t 67, .t 66], none⟩]
def Z1ar : List Z2a := [
  ⟨some 68, .mov, [.t 6], none⟩,
  ⟨some 69, (.bin .add), [.t 68, .c (.int .i64 1)], none⟩,
  ⟨some 6, .mov, [.t 69], none⟩]
def Z1as : List Z2a := [
  ⟨some 70, (.fad 0), [.t 5], none⟩,
  ⟨some 71, (.load false 1), [.t 70], none⟩,
  ⟨some 72, (.bin .add), [.t 71, .c (.int .i64 1)], none⟩,
  ⟨some 73, (.fad 0), [.t 5], none⟩,
  ⟨none, (.store 1), [.t 73, .t 72], none⟩]
def Z1at : List Z2a := [
  ⟨some 74, (.fad 0), [.t 2], none⟩,
  ⟨some 75, (.load false 1), [.t 74], none⟩,
  ⟨some 76, (.call Zeb), [.t 75], none⟩]
def Z1au : List Z2a := [
  ⟨some 78, (.load true 6), [.t 2], none⟩,
  ⟨some 79, (.load true 5), [.t 8], none⟩,
  ⟨some 80, (.fad 3), [.t 5], none⟩,
  ⟨some 81, (.load true 5), [.t 80], none⟩,
  ⟨some 82, (.call Zec), [.t 78, .t 79, .t 81], none⟩,
  ⟨some 77, .mov, [.t 82], none⟩,
  ⟨some 83, (.ext 0), [.t 77], none⟩,
  ⟨some 84, (.ext 1), [.t 77], none⟩,
  ⟨some 10, .mov, [.t 83], none⟩,
  ⟨some 11, .mov, [.t 84], none⟩]
def Z1av : List Z2a := [
  ⟨some 86, (.load true 6), [.t 2], none⟩,
  ⟨some 87, (.load true 5), [.t 8], none⟩,
  ⟨some 88, (.fad 8), [.t 5], none⟩,
  ⟨some 89, (.load true 5), [.t 88], none⟩,
  ⟨some 90, (.call Zec), [.t 86, .t 87, .t 89], none⟩,
  ⟨some 85, .mov, [.t 90], none⟩,
  ⟨some 91, (.ext 0), [.t 85], none⟩,
  ⟨some 92, (.ext 1), [.t 85], none⟩,
  ⟨some 12, .mov, [.t 91], none⟩,
  ⟨some 13, .mov, [.t 92], none⟩]
def Z1aw : List Z2a := [
  ⟨some 93, (.fad 2), [.t 5], none⟩,
  ⟨some 94, (.load false 1), [.t 93], none⟩,
  ⟨some 95, .unot, [.t 94], none⟩,
  ⟨some 96, .mov, [.t 95], none⟩,
  ⟨some 97, .mov, [.t 10], some (96, false)⟩,
  ⟨some 98, (.bin .lss), [.t 97, .c (.int .i64 0)], some (96, false)⟩,
  ⟨some 99, .pick, [.t 96, .c (.bool true), .t 98], none⟩]
def Z1ax : List Z2a := [
  ⟨some 100, (.load true 5), [.t 8], none⟩,
  ⟨some 101, (.fad 3), [.t 5], none⟩,
  ⟨none, (.store 5), [.t 101, .t 100], none⟩]
def Z1ay : List Z2a := [
  ⟨some 102, (.fad 2), [.t 5], none⟩,
  ⟨some 103, (.load false 1), [.t 102], none⟩,
  ⟨some 104, .unot, [.t 103], none⟩,
  ⟨some 105, .mov, [.t 104], none⟩,
  ⟨some 106, .mov, [.t 12], some (105, false)⟩,
  ⟨some 107, (.bin .gtr), [.t 106, .c (.int .i64 0)], some (105, false)⟩,
  ⟨some 108, .pick, [.t 105, .c (.bool true), .t 107], none⟩]
def Z1az : List Z2a := [
  ⟨some 109, (.load true 5), [.t 8], none⟩,
  ⟨some 110, (.fad 8), [.t 5], none⟩,
  ⟨none, (.store 5), [.t 110, .t 109], none⟩]
def Z1b0 : List Z2a := [
  ⟨some 111, (.fad 2), [.t 5], none⟩,
  ⟨none, (.store 1), [.t 111, .c (.bool true)], none⟩]
def Z1b1 : List Z2a := [
  ⟨some 112, (.fad 13), [.t 5], none⟩,
  ⟨some 113, (.load false 1), [.t 112], none⟩]
def Z1b2 : List Z2a := [
  ⟨some 115, (.fad 14), [.t 5], none⟩,
  ⟨some 116, (.load false 1), [.t 115], none⟩,
  ⟨some 117, .mov, [.t 9], none⟩,
  ⟨some 118, (.call Zd3), [.t 116, .t 117], none⟩,
  ⟨some 114, .mov, [.t 118], none⟩,
  ⟨some 119, (.ext 0), [.t 114], none⟩,
  ⟨some 120, (.ext 1), [.t 114], none⟩,
  ⟨some 121, (.fad 14), [.t 5], none⟩,
  ⟨none, (.store 1), [.t 121, .t 119], none⟩,
  ⟨some 122, (.fad 13), [.t 5], none⟩,
  ⟨none, (.store 1), [.t 122, .t 120], none⟩]
def Z1b3 : List Z2a := [
  ⟨some 25, .mov, [.t 7], none⟩,
  ⟨some 26, (.bin .add), [.t 25, .c (.int .i64 1)], none⟩,
  ⟨some 7, .mov, [.t 26], none⟩]
def Z1b4 : Z2b := (.seq (.seq (.region Z1af [2, 3, 4, 5, 6, 7, 24]) (.cond (.t 24) .skip (.exit 0))) (.seq (.block 1 (.seq (.seq (.region Z1ag [2, 3, 4, 5, 6, 7, 32]) (.cond (.t 32) (.exit 1) .skip)) (.seq (.region Z1ah [2, 3, 4, 5, 6, 7, 8]) (.seq (.region Z1ai [2, 3, 4, 5, 6, 7, 8, 9]) (.seq (.block 2 (.seq (.region Z1aj [2, 3, 4, 5, 6, 7, 8, 9, 34]) (.cond (.t 34) (.seq (.region Z1ak [2, 3, 4, 5, 6, 7, 8]) (.region Z1al [2, 3, 4, 5, 6, 7, 8, 9])) (.seq (.region Z1am [2, 3, 4, 5, 6, 7, 8, 9, 47]) (.cond (.t 47) (.seq (.region Z1an [2, 3, 4, 5, 6, 7, 8]) (.seq (.region Z1ao [2, 3, 4, 5, 6, 7, 8, 9]) (.seq (.region Z1ap [2, 3, 4, 5, 6, 7, 8, 9, 61]) (.cond (.t 61) (.region Z1aq [2, 3, 4, 5, 6, 7, 8, 9]) .skip)))) .skip))))) (.seq (.region Z1ar [2, 3, 4, 5, 6, 7, 8, 9]) (.seq (.region Z1as [2, 3, 4, 5, 6, 7, 8, 9]) (.seq (.seq (.region Z1at [2, 3, 4, 5, 6, 7, 8, 9, 76]) (.cond (.t 76) (.seq (.region Z1au [2, 3, 4, 5, 6, 7, 8, 9, 10]) (.seq (.region Z1av [2, 3, 4, 5, 6, 7, 8, 9, 10, 12]) (.seq (.seq (.region Z1aw [2, 3, 4, 5, 6, 7, 8, 9, 12, 99]) (.cond (.t 99) (.region Z1ax [2, 3, 4, 5, 6, 7, 8, 9, 12]) .skip)) (.seq (.seq (.region Z1ay [2, 3, 4, 5, 6, 7, 8, 9, 108]) (.cond (.t 108) (.region Z1az [2, 3, 4, 5, 6, 7, 9]) .skip)) (.region Z1b0 [2, 3, 4, 5, 6, 7, 9]))))) .skip)) (.seq (.region Z1b1 [2, 3, 4, 5, 6, 7, 9, 113]) (.cond (.t 113) (.region Z1b2 [2, 3, 4, 5, 6, 7]) .skip)))))))))) (.region Z1b3 [2, 3, 4, 5, 6, 7])))
def Z1b5 : List Z2a := [
  ⟨some 123, (.load true 15), [.t 5], none⟩,
  ⟨none, (.store 15), [.t 4, .t 123], none⟩]
def Z1b6 : Z2y := ⟨124, (.seq (.region Z1ab [2, 3, 4]) (.seq (.region Z1ac [2, 3, 4, 5]) (.seq (.region Z1ad [2, 3, 4, 5, 6]) (.seq (.seq (.region Z1ae [2, 3, 4, 5, 6, 7]) (.block 0 (.loop Z1b4))) (.seq (.region Z1b5 [4]) .ret))))), [.cell 4 true 15]⟩
end Go.Abs
namespace Go.Abs
open Go Go.Proofs
theorem Z1b7 : Z2z Try.prog [] Zco = some Z16o.erase := by kernel_rfl
theorem Z1b8 : Z2z Try.prog [(16, 20), (16, 19), (16, 1), (15, 9), (15, 8)] Zc8 = some Z17b.erase := by kernel_rfl
theorem Z1b9 : Z2z Try.prog [(26, 4), (21, 10), (21, 8), (21, 1), (20, 9), (19, 6), (18, 9), (18, 8), (17, 9), (17, 8)] Zc9 = some Z186.erase := by kernel_rfl
theorem Z1ba : Z2z Try.prog [(7, 8), (7, 6), (6, 7), (6, 6)] Zcn = some Z18g.erase := by kernel_rfl
theorem Z1bb : Z2z Try.prog [] Zcy = some Z194.erase := by kernel_rfl
theorem Z1bc : Z2z Try.prog [] Zdq = some Z198.erase := by kernel_rfl
theorem Z1bd : Z2z Try.prog [] Zf2 = some Z19r.erase := by kernel_rfl
theorem Z1be : Z2z Try.prog [] Zdy = some Z19u.erase := by kernel_rfl
theorem Z1bf : Z2z Try.prog [] Zed = some Z19x.erase := by kernel_rfl
theorem Z1bg : Z2z Try.prog [] Zf7 = some Z1aa.erase := by kernel_rfl
theorem Z1bh : Z2z Try.prog [(1, 4), (1, 1)] Zcw = some Z1b6.erase := by kernel_rfl
end Go.Abs
namespace Go.Abs
open Go Go.Proofs
set_option linter.unusedVariables false
set_option linter.unusedSimpArgs false
set_option maxHeartbeats 4000000
attribute [local irreducible] AWp aops KP
def tA (k : Int) : Ty := .mk 12 [[97]] [.mk k [] [] 0 0 0] 0 0 0
def vA (i : Int) : Vl := .mk false 0 0 [] [.mk false i 0 [] []]
def vN : Vl := .mk false 0 0 [] [.mk true 0 0 [] []]
def Z1bi : List Vl := [vA 5, vN, vA (-2)]
theorem Z1bj : Zlw (tA 3) = 0 := by decide
theorem Z1bk : Zm3 (tA 3) = [⟨tA 3, [1], -1, 1⟩, ⟨.mk 3 [] [] 0 0 0, [], 0, 2⟩] := by rfl
theorem Z1bl : Zm3 (tA 4) = [⟨tA 4, [1], -1, 1⟩, ⟨.mk 4 [] [] 0 0 0, [], 0, 2⟩] := by rfl
theorem Z1bm : Z11u (tA 3) Z1bi = ([⟨[true, true, true], [], [], [], []⟩, ⟨[true, false, true], [5, -2], [], [], []⟩], 0) := by rfl
theorem Z1bn (k : Int) : (tA k).Fit := by
  refine .mk (by simp [tA, Ty.kids]) (by simp [tA, Ty.names]) (by simp [tA, Ty.names, maxLen]) fun u hu => ?_
  simp only [tA, Ty.kids, List.mem_singleton] at hu
  subst hu
  exact .mk (by simp [Ty.kids]) (by simp [Ty.names]) (by simp [Ty.names]) (by simp [Ty.kids])
theorem Z1bo (nu : Bool) (i : Int) (h : -9223372036854775808 ≤ i ∧ i ≤ 9223372036854775807) : (Vl.mk nu i 0 [] []).Fit := .mk h (by simp [Vl.b]) (by simp [Vl.kids]) (by simp [Vl.kids])
theorem Z1bp (v : Vl) (h : v.Fit) : (Vl.mk false 0 0 [] [v]).Fit := .mk (by simp [Vl.i]) (by simp [Vl.b]) (by simp [Vl.kids]) (by simpa [Vl.kids] using h)
theorem Z1bq : ∀ v ∈ Z1bi, v.Fit := by
  intro v hv
  simp only [Z1bi, List.mem_cons, List.not_mem_nil, or_false] at hv
  rcases hv with rfl | rfl | rfl
  · exact Z1bp _ (Z1bo _ _ (by omega))
  · exact Z1bp _ (Z1bo _ _ (by omega))
  · exact Z1bp _ (Z1bo _ _ (by omega))
def col16 : Col := ⟨[true, false, true], [5, -2], [], [], []⟩
def st16 : Stt := ⟨2, true, true, .mk false (-2) 0 [] [], .mk false 5 0 [] [], true, 3⟩
theorem of16 : ofF 3 col16 = st16 := by rfl
theorem Z1br : ofF 3 ⟨[], [], [], [], []⟩ = ⟨0, false, false, vl0, vl0, true, 0⟩ := by rfl
theorem Z1bs : ofF 12 ⟨[], [], [], [], []⟩ = ⟨0, false, false, vl0, vl0, false, 0⟩ := by rfl
theorem Z1bt : Zz9 3 ⟨0, false, false, vl0, vl0, true, 0⟩ st16 = st16 := by rfl
theorem vl_Cl (i : Int) : (Vl.mk false i 0 [] []).Cl := .mk (by simp [Vl.b]) (by simp [Vl.kids]) (by simp [Vl.kids])
theorem Z1bu (su : Bool) : (Stt.mk 0 false false vl0 vl0 su 0).Fit := ⟨vl_Cl 0, vl_Cl 0, by simp⟩
theorem Z1bv : st16.Fit := ⟨vl_Cl _, vl_Cl _, by simp [st16]⟩
theorem Z1bw (σ : Zc) : Z1q Try.prog Zcn [] σ fun r σ' => r = .bool true := by
  refine Z8t rfl Z1ba (Nat.le_of_ble_eq_true rfl) ?_
  (repeat (first | refine st_q rfl rfl rfl ?_ | refine Z8v rfl (st_q rfl rfl rfl ?_) | refine Z92 rfl Z8z rfl rfl ?_ | refine Z8v rfl (Z92 rfl Z8z rfl rfl ?_) | refine Zby rfl rfl ?_ | refine Z8v rfl (Zby rfl rfl ?_) | refine Z8w rfl ?_ | refine Z8x rfl ?_ | (refine Z8y ?_; (repeat (first | refine Z9v rfl ?_ | refine Z9w ?_)); refine Z9u ?_) | refine awp_seq ?_ | refine Zbm (fun _ _ => rfl) ?_ | refine Z8h ?_ | refine Zbn (fun _ _ => rfl) ?_ | refine Zbo (fun _ _ => rfl) ?_ | refine Z8f (t := true) rfl (fun _ => ?_) (fun e => by cases e) | refine Z8f (t := false) rfl (fun e => by cases e) (fun _ => ?_)))
  refine Z9k (by simp [Z0.cells, Z0.one]) fun b1 hb1 => ?_
  (first | refine Z9a rfl Z8z rfl (by decide) (Z0.fit_iff.1 rfl) (fun h => by cases h) Z9b ?_ | refine Z8v rfl (Z9a rfl Z8z rfl (by decide) (Z0.fit_iff.1 rfl) (fun h => by cases h) Z9b ?_))
  (refine Z8y ?_; (repeat (first | refine Z9v rfl ?_ | refine Z9w ?_)); refine Z9u ?_)
  refine Zbx (HShift.view (ys := [.agg (Zln (tA 3))]) rfl rfl (by (repeat (first | exact VRle.refl _ | exact Zc4 | refine Zc5 rfl rfl ?_ | refine Zc6 rfl ?_ | refine Zc3 ?_ ?_)))) ?_
  refine Zb3 (d := 1) (cs := Zln (tA 3)) rfl ?_
  have hS := Z11x (tA 3) (Z1bn 3) Z1bi Z1bq (by simp [Z1bi])
  rw [Z1bm, Zlo] at hS
  have hFl := Znj (tA 3) (Z1bn 3)
  rw [Z1bk, Zlo] at hFl
  (repeat (first | refine st_q rfl rfl rfl ?_ | refine Z8v rfl (st_q rfl rfl rfl ?_) | refine Z92 rfl Z8z rfl rfl ?_ | refine Z8v rfl (Z92 rfl Z8z rfl rfl ?_) | refine Zby rfl rfl ?_ | refine Z8v rfl (Zby rfl rfl ?_) | refine Z8w rfl ?_ | refine Z8x rfl ?_ | (refine Z8y ?_; (repeat (first | refine Z9v rfl ?_ | refine Z9w ?_)); refine Z9u ?_) | refine awp_seq ?_ | refine Zbm (fun _ _ => rfl) ?_ | refine Z8h ?_ | refine Zbn (fun _ _ => rfl) ?_ | refine Zbo (fun _ _ => rfl) ?_ | refine Z8f (t := true) rfl (fun _ => ?_) (fun e => by cases e) | refine Z8f (t := false) rfl (fun e => by cases e) (fun _ => ?_)))
  refine Z9t rfl (Z1q.args (by (repeat (first | exact VRle.refl _ | exact Zc4 | refine Zc5 rfl rfl ?_ | refine Zc6 rfl ?_ | refine Zc3 ?_ ?_))) (hS _)) ?_
  (repeat (first | refine st_q rfl rfl rfl ?_ | refine Z8v rfl (st_q rfl rfl rfl ?_) | refine Z92 rfl Z8z rfl rfl ?_ | refine Z8v rfl (Z92 rfl Z8z rfl rfl ?_) | refine Zby rfl rfl ?_ | refine Z8v rfl (Zby rfl rfl ?_) | refine Z8w rfl ?_ | refine Z8x rfl ?_ | (refine Z8y ?_; (repeat (first | refine Z9v rfl ?_ | refine Z9w ?_)); refine Z9u ?_) | refine awp_seq ?_ | refine Zbm (fun _ _ => rfl) ?_ | refine Z8h ?_ | refine Zbn (fun _ _ => rfl) ?_ | refine Zbo (fun _ _ => rfl) ?_ | refine Z8f (t := true) rfl (fun _ => ?_) (fun e => by cases e) | refine Z8f (t := false) rfl (fun e => by cases e) (fun _ => ?_)))
  (first | refine Z9t rfl (hFl _) ?_ | refine Z8v rfl (Z9t rfl (hFl _) ?_) | refine Zbw rfl hFl ?_ | refine Z8v rfl (Zbw rfl hFl ?_))
  (repeat (first | refine st_q rfl rfl rfl ?_ | refine Z8v rfl (st_q rfl rfl rfl ?_) | refine Z92 rfl Z8z rfl rfl ?_ | refine Z8v rfl (Z92 rfl Z8z rfl rfl ?_) | refine Zby rfl rfl ?_ | refine Z8v rfl (Zby rfl rfl ?_) | refine Z8w rfl ?_ | refine Z8x rfl ?_ | (refine Z8y ?_; (repeat (first | refine Z9v rfl ?_ | refine Z9w ?_)); refine Z9u ?_) | refine awp_seq ?_ | refine Zbm (fun _ _ => rfl) ?_ | refine Z8h ?_ | refine Zbn (fun _ _ => rfl) ?_ | refine Zbo (fun _ _ => rfl) ?_ | refine Z8f (t := true) rfl (fun _ => ?_) (fun e => by cases e) | refine Z8f (t := false) rfl (fun e => by cases e) (fun _ => ?_)))
  (first | refine Z9t rfl ((Zzh col16) _) ?_ | refine Z8v rfl (Z9t rfl ((Zzh col16) _) ?_) | refine Zbw rfl (Zzh col16) ?_ | refine Z8v rfl (Zbw rfl (Zzh col16) ?_))
  (first | refine Z9t rfl ((c_Of 3 (Zm1 ⟨.mk 3 [] [] 0 0 0, [], 0, 2⟩) rfl rfl (by simp [Zm1, Z0.one]) col16 ⟨by simp [col16], by simp [col16], by simp [col16], by simp [col16], by simp [col16], by simp [col16], by simp [col16]⟩) _) ?_ | refine Z8v rfl (Z9t rfl ((c_Of 3 (Zm1 ⟨.mk 3 [] [] 0 0 0, [], 0, 2⟩) rfl rfl (by simp [Zm1, Z0.one]) col16 ⟨by simp [col16], by simp [col16], by simp [col16], by simp [col16], by simp [col16], by simp [col16], by simp [col16]⟩) _) ?_) | refine Zbw rfl (c_Of 3 (Zm1 ⟨.mk 3 [] [] 0 0 0, [], 0, 2⟩) rfl rfl (by simp [Zm1, Z0.one]) col16 ⟨by simp [col16], by simp [col16], by simp [col16], by simp [col16], by simp [col16], by simp [col16], by simp [col16]⟩) ?_ | refine Z8v rfl (Zbw rfl (c_Of 3 (Zm1 ⟨.mk 3 [] [] 0 0 0, [], 0, 2⟩) rfl rfl (by simp [Zm1, Z0.one]) col16 ⟨by simp [col16], by simp [col16], by simp [col16], by simp [col16], by simp [col16], by simp [col16], by simp [col16]⟩) ?_))
  rw [of16]
  refine Z9k (by simp [Z0.cells, Z0.one]) fun b5 hb5 => ?_
  (first | refine Z9a rfl Z8z rfl (by decide) (Z0.fit_iff.1 rfl) (fun h => by cases h) Z9b ?_ | refine Z8v rfl (Z9a rfl Z8z rfl (by decide) (Z0.fit_iff.1 rfl) (fun h => by cases h) Z9b ?_))
  (refine Z8y ?_; (repeat (first | refine Z9v rfl ?_ | refine Z9w ?_)); refine Z9u ?_)
  refine Zb3 (d := 5) (cs := Zyn st16) rfl ?_
  have hE := Zz5 3 (Zm1 ⟨.mk 3 [] [] 0 0 0, [], 0, 2⟩) rfl rfl (by simp [Zm1, Z0.one])
  rw [Z1br] at hE
  have hE0 := Zz5 12 (Zm1 ⟨tA 3, [1], -1, 1⟩) rfl rfl (by simp [Zm1, Z0.one])
  rw [Z1bs] at hE0
  have hM := Zzb 3 (Zm1 ⟨.mk 3 [] [] 0 0 0, [], 0, 2⟩) rfl rfl (by simp [Zm1, Z0.one]) _ st16 (Z1bu true) Z1bv
  rw [Z1bt] at hM
  (repeat (first | refine st_q rfl rfl rfl ?_ | refine Z8v rfl (st_q rfl rfl rfl ?_) | refine Z92 rfl Z8z rfl rfl ?_ | refine Z8v rfl (Z92 rfl Z8z rfl rfl ?_) | refine Zby rfl rfl ?_ | refine Z8v rfl (Zby rfl rfl ?_) | refine Z8w rfl ?_ | refine Z8x rfl ?_ | (refine Z8y ?_; (repeat (first | refine Z9v rfl ?_ | refine Z9w ?_)); refine Z9u ?_) | refine awp_seq ?_ | refine Zbm (fun _ _ => rfl) ?_ | refine Z8h ?_ | refine Zbn (fun _ _ => rfl) ?_ | refine Zbo (fun _ _ => rfl) ?_ | refine Z8f (t := true) rfl (fun _ => ?_) (fun e => by cases e) | refine Z8f (t := false) rfl (fun e => by cases e) (fun _ => ?_)))
  (first | refine Z9t rfl (hE _) ?_ | refine Z8v rfl (Z9t rfl (hE _) ?_) | refine Zbw rfl hE ?_ | refine Z8v rfl (Zbw rfl hE ?_))
  (repeat (first | refine st_q rfl rfl rfl ?_ | refine Z8v rfl (st_q rfl rfl rfl ?_) | refine Z92 rfl Z8z rfl rfl ?_ | refine Z8v rfl (Z92 rfl Z8z rfl rfl ?_) | refine Zby rfl rfl ?_ | refine Z8v rfl (Zby rfl rfl ?_) | refine Z8w rfl ?_ | refine Z8x rfl ?_ | (refine Z8y ?_; (repeat (first | refine Z9v rfl ?_ | refine Z9w ?_)); refine Z9u ?_) | refine awp_seq ?_ | refine Zbm (fun _ _ => rfl) ?_ | refine Z8h ?_ | refine Zbn (fun _ _ => rfl) ?_ | refine Zbo (fun _ _ => rfl) ?_ | refine Z8f (t := true) rfl (fun _ => ?_) (fun e => by cases e) | refine Z8f (t := false) rfl (fun e => by cases e) (fun _ => ?_)))
  (first | refine Z9t rfl (hM _) ?_ | refine Z8v rfl (Z9t rfl (hM _) ?_) | refine Zbw rfl hM ?_ | refine Z8v rfl (Zbw rfl hM ?_))
  refine Z9k (by simp [Z0.cells, Z0.one]) fun b6 hb6 => ?_
  (first | refine Z9a rfl Z8z rfl (by decide) (Z0.fit_iff.1 rfl) (fun h => by cases h) Z9b ?_ | refine Z8v rfl (Z9a rfl Z8z rfl (by decide) (Z0.fit_iff.1 rfl) (fun h => by cases h) Z9b ?_))
  (refine Z8y ?_; (repeat (first | refine Z9v rfl ?_ | refine Z9w ?_)); refine Z9u ?_)
  refine Zb3 (d := 6) (cs := Zyn st16) rfl ?_
  (repeat (first | refine st_q rfl rfl rfl ?_ | refine Z8v rfl (st_q rfl rfl rfl ?_) | refine Z92 rfl Z8z rfl rfl ?_ | refine Z8v rfl (Z92 rfl Z8z rfl rfl ?_) | refine Zby rfl rfl ?_ | refine Z8v rfl (Zby rfl rfl ?_) | refine Z8w rfl ?_ | refine Z8x rfl ?_ | (refine Z8y ?_; (repeat (first | refine Z9v rfl ?_ | refine Z9w ?_)); refine Z9u ?_) | refine awp_seq ?_ | refine Zbm (fun _ _ => rfl) ?_ | refine Z8h ?_ | refine Zbn (fun _ _ => rfl) ?_ | refine Zbo (fun _ _ => rfl) ?_ | refine Z8f (t := true) rfl (fun _ => ?_) (fun e => by cases e) | refine Z8f (t := false) rfl (fun e => by cases e) (fun _ => ?_)))
  (first | refine Z9t rfl ((Zzg st16 st16 Z1bv Z1bv) _) ?_ | refine Z8v rfl (Z9t rfl ((Zzg st16 st16 Z1bv Z1bv) _) ?_) | refine Zbw rfl (Zzg st16 st16 Z1bv Z1bv) ?_ | refine Z8v rfl (Zbw rfl (Zzg st16 st16 Z1bv Z1bv) ?_))
  (repeat (first | refine st_q rfl rfl rfl ?_ | refine Z8v rfl (st_q rfl rfl rfl ?_) | refine Z92 rfl Z8z rfl rfl ?_ | refine Z8v rfl (Z92 rfl Z8z rfl rfl ?_) | refine Zby rfl rfl ?_ | refine Z8v rfl (Zby rfl rfl ?_) | refine Z8w rfl ?_ | refine Z8x rfl ?_ | (refine Z8y ?_; (repeat (first | refine Z9v rfl ?_ | refine Z9w ?_)); refine Z9u ?_) | refine awp_seq ?_ | refine Zbm (fun _ _ => rfl) ?_ | refine Z8h ?_ | refine Zbn (fun _ _ => rfl) ?_ | refine Zbo (fun _ _ => rfl) ?_ | refine Z8f (t := true) rfl (fun _ => ?_) (fun e => by cases e) | refine Z8f (t := false) rfl (fun e => by cases e) (fun _ => ?_)))
  (first | refine Z9t rfl (hE _) ?_ | refine Z8v rfl (Z9t rfl (hE _) ?_) | refine Zbw rfl hE ?_ | refine Z8v rfl (Zbw rfl hE ?_))
  (repeat (first | refine st_q rfl rfl rfl ?_ | refine Z8v rfl (st_q rfl rfl rfl ?_) | refine Z92 rfl Z8z rfl rfl ?_ | refine Z8v rfl (Z92 rfl Z8z rfl rfl ?_) | refine Zby rfl rfl ?_ | refine Z8v rfl (Zby rfl rfl ?_) | refine Z8w rfl ?_ | refine Z8x rfl ?_ | (refine Z8y ?_; (repeat (first | refine Z9v rfl ?_ | refine Z9w ?_)); refine Z9u ?_) | refine awp_seq ?_ | refine Zbm (fun _ _ => rfl) ?_ | refine Z8h ?_ | refine Zbn (fun _ _ => rfl) ?_ | refine Zbo (fun _ _ => rfl) ?_ | refine Z8f (t := true) rfl (fun _ => ?_) (fun e => by cases e) | refine Z8f (t := false) rfl (fun e => by cases e) (fun _ => ?_)))
  (first | refine Z9t rfl (hE0 _) ?_ | refine Z8v rfl (Z9t rfl (hE0 _) ?_) | refine Zbw rfl hE0 ?_ | refine Z8v rfl (Zbw rfl hE0 ?_))
  (repeat (first | refine st_q rfl rfl rfl ?_ | refine Z8v rfl (st_q rfl rfl rfl ?_) | refine Z92 rfl Z8z rfl rfl ?_ | refine Z8v rfl (Z92 rfl Z8z rfl rfl ?_) | refine Zby rfl rfl ?_ | refine Z8v rfl (Zby rfl rfl ?_) | refine Z8w rfl ?_ | refine Z8x rfl ?_ | (refine Z8y ?_; (repeat (first | refine Z9v rfl ?_ | refine Z9w ?_)); refine Z9u ?_) | refine awp_seq ?_ | refine Zbm (fun _ _ => rfl) ?_ | refine Z8h ?_ | refine Zbn (fun _ _ => rfl) ?_ | refine Zbo (fun _ _ => rfl) ?_ | refine Z8f (t := true) rfl (fun _ => ?_) (fun e => by cases e) | refine Z8f (t := false) rfl (fun e => by cases e) (fun _ => ?_)))
  refine Z8d ?_
  exact ares rfl (HSub.refl _) rfl
end Go.Abs
namespace Go.Abs
open Go Go.Proofs
set_option linter.unusedVariables false
set_option linter.unusedSimpArgs false
theorem Z1bx (a : Int) (p : Int × Bool) (h : -9223372036854775808 ≤ p.1 ∧ p.1 ≤ 9223372036854775807) : -9223372036854775808 ≤ (Z14u p a).1 ∧ (Z14u p a).1 ≤ 9223372036854775807 := by
  unfold Z14u addF
  split
  · split
    · assumption
    · simp
  · exact h
theorem Z1by {C : Col} (hC : C.Fit) (i : Nat) : (getV C i).Cl := by
  refine ⟨?_, by simp [getV, Vl.kids], by simp [getV, Vl.kids]⟩
  simp only [getV, Vl.b]
  by_cases h2 : i < C.texts.length
  · rw [List.getD_eq_getElem?_getD, List.getElem?_eq_getElem h2, Option.getD_some]
    exact hC.text _ (List.getElem_mem h2)
  · rw [List.getD_eq_getElem?_getD, List.getElem?_eq_none (by omega)]
    simp
theorem Z1bz {C : Col} {v : Vl} (h : v ∈ (valsC C).map (·.1)) : ∃ i, v = getV C i := by
  simp only [valsC, getsC, List.map_map, List.mem_map] at h
  obtain ⟨i, _, rfl⟩ := h
  exact ⟨i, rfl⟩
theorem Z1c0 {k : Int} {C : Col} : (∃ i, (spC k C).min = getV C i) ∨ (spC k C).min = vl0 := by
  have hb := Z151 k C
  cases hh : (spC k C).has with
  | false => right; rw [hb.zero hh]; rfl
  | true => left; exact Z1bz (hb.min hh)
theorem Z1c1 {k : Int} {C : Col} : (∃ i, (spC k C).max = getV C i) ∨ (spC k C).max = vl0 := by
  have hb := Z151 k C
  cases hh : (spC k C).has with
  | false => right; rw [hb.zero hh]; rfl
  | true => left; exact Z1bz (hb.max hh)
theorem Z1c2 : ∀ (l : List Int) (p : Int × Bool), (-9223372036854775808 ≤ p.1 ∧ p.1 ≤ 9223372036854775807) → -9223372036854775808 ≤ (l.foldl Z14u p).1 ∧ (l.foldl Z14u p).1 ≤ 9223372036854775807
  | [], p, h => h
  | a :: l, p, h => Z1c2 l _ (Z1bx a p h)
theorem Z1c3 {k : Int} {C : Col} (hC : C.Fit) : (ofF k C).Fit := by
  rw [Z14x]
  refine ⟨?_, ?_, Z1c2 _ _ (by simp)⟩
  · rcases Z1c0 (k := k) (C := C) with ⟨i, e⟩ | e <;> simp only [e]
    · exact Z1by hC i
    · exact vl_Cl 0
  · rcases Z1c1 (k := k) (C := C) with ⟨i, e⟩ | e <;> simp only [e]
    · exact Z1by hC i
    · exact vl_Cl 0
end Go.Abs
namespace Go.Abs
open Go Go.Proofs
set_option linter.unusedVariables false
set_option linter.unusedSimpArgs false
mutual
def fewT (deep : Nat) : Ty → Nat
  | .mk k ns ks l p s => if 20 < deep ∨ 300 < ks.length ∨ 300 < ns.length then 1000 else if ns.any (fun s => decide (200 < s.length)) = true then 1000 else fewTL (deep + 1) 1 ks
def fewTL (deep n : Nat) : List Ty → Nat
  | [] => n
  | t :: ts => if 1000 < n + fewT deep t then 1000 else fewTL deep (n + fewT deep t) ts
end
mutual
def fewV (deep : Nat) : Vl → Nat
  | .mk nu i n b ks => if 20 < deep ∨ 400 < ks.length ∨ 5000 < b.length then 1000 else fewVL (deep + 1) (1 + b.length / 50) ks
def fewVL (deep n : Nat) : List Vl → Nat
  | [] => n
  | t :: ts => if 1000 < n + fewV deep t then 1000 else fewVL deep (n + fewV deep t) ts
end
theorem Z1c4 : ∀ (ts : List Ty) (deep n : Nat), n ≤ 1000 → n ≤ fewTL deep n ts
  | [], deep, n, h => by rw [fewTL]; omega
  | t :: ts, deep, n, h => by
    rw [fewTL]
    split
    · exact h
    · have := Z1c4 ts deep (n + fewT deep t) (by omega)
      omega
theorem Z1c5 : ∀ (ts : List Ty) (deep n : Nat), n ≤ 1000 → fewTL deep n ts < 1000 → ∀ t ∈ ts, fewT deep t < 1000 ∧ n + fewT deep t ≤ fewTL deep n ts
  | [], _, _, _, _, t, ht => by cases ht
  | t :: ts, deep, n, h, hlt, u, hu => by
    rw [fewTL] at hlt ⊢
    split at hlt
    · omega
    · rename_i h1
      rw [if_neg h1]
      have hge := Z1c4 ts deep (n + fewT deep t) (by omega)
      rcases List.mem_cons.1 hu with rfl | hu
      · omega
      · have := Z1c5 ts deep (n + fewT deep t) (by omega) hlt u hu
        omega
theorem Z1c6 : ∀ (ts : List Vl) (deep n : Nat), n ≤ 1000 → n ≤ fewVL deep n ts
  | [], deep, n, h => by rw [fewVL]; omega
  | t :: ts, deep, n, h => by
    rw [fewVL]
    split
    · exact h
    · have := Z1c6 ts deep (n + fewV deep t) (by omega)
      omega
theorem Z1c7 : ∀ (ts : List Vl) (deep n : Nat), n ≤ 1000 → fewVL deep n ts < 1000 → ∀ t ∈ ts, fewV deep t < 1000
  | [], _, _, _, _, t, ht => by cases ht
  | t :: ts, deep, n, h, hlt, u, hu => by
    rw [fewVL] at hlt
    split at hlt
    · omega
    · rename_i h1
      have hge := Z1c6 ts deep (n + fewV deep t) (by omega)
      rcases List.mem_cons.1 hu with rfl | hu
      · omega
      · exact Z1c7 ts deep (n + fewV deep t) (by omega) hlt u hu
theorem Z1c8 : ∀ (t : Ty) (deep : Nat), fewT deep t ≤ 1000 := by
  refine Ty.ind fun k ns ks l p s ih deep => ?_
  have hL : ∀ (ts : List Ty) (deep n : Nat), n ≤ 1000 → fewTL deep n ts ≤ 1000 := by
    intro ts
    induction ts with
    | nil => intro deep n h; rw [fewTL]; exact h
    | cons t ts ih2 =>
      intro deep n h
      rw [fewTL]
      split
      · omega
      · exact ih2 deep _ (by omega)
  rw [fewT]
  split
  · omega
  · split
    · omega
    · exact hL ks _ 1 (by omega)
theorem Z1c9 : ∀ (t : Vl) (deep : Nat), fewV deep t ≤ 1000 := by
  refine Vl.ind fun nu i n b ks ih deep => ?_
  have hL : ∀ (ts : List Vl) (deep n : Nat), n ≤ 1000 → fewVL deep n ts ≤ 1000 := by
    intro ts
    induction ts with
    | nil => intro deep n h; rw [fewVL]; exact h
    | cons t ts ih2 =>
      intro deep n h
      rw [fewVL]
      split
      · omega
      · exact ih2 deep _ (by omega)
  rw [fewV]
  split
  · omega
  · exact hL ks _ _ (by omega)
inductive Ty.Few : Ty → Prop
  | mk {t : Ty} (h1 : t.kids.length ≤ 300) (h2 : t.names.length ≤ 300) (h4 : ∀ s ∈ t.names, s.length ≤ 200) (h : ∀ k ∈ t.kids, Ty.Few k) : Ty.Few t
theorem Z1ca : ∀ (t : Ty) (deep : Nat), fewT deep t < 1000 → t.Few := by
  refine Ty.ind fun k ns ks l p s ih deep h => ?_
  rw [fewT] at h
  split at h
  · omega
  · split at h
    · omega
    · rename_i h1 h2
      refine .mk (by show ks.length ≤ 300; omega) (by show ns.length ≤ 300; omega) (fun s hs => ?_) fun t ht => ih t ht (deep + 1) (Z1c5 ks (deep + 1) 1 (by omega) h t ht).1
      refine Nat.le_of_not_lt fun h3 => h2 ?_
      exact List.any_eq_true.2 ⟨s, hs, decide_eq_true h3⟩
theorem Ty.Few.fit : ∀ t : Ty, t.Few → t.Fit := by
  refine Ty.ind fun k ns ks l p s ih h => ?_
  cases h with
  | mk h1 h2 h4 h3 => exact .mk (by omega) (by omega) (fun s hs => Nat.le_trans (h4 s hs) (by unfold maxLen; omega)) fun t ht => ih t ht (h3 t ht)
inductive Vl.Few : Vl → Prop
  | mk {v : Vl} (h1 : v.b.length ≤ 5000) (h2 : v.kids.length ≤ 400) (h : ∀ k ∈ v.kids, Vl.Few k) : Vl.Few v
theorem Z1cb : ∀ (t : Vl) (deep : Nat), fewV deep t < 1000 → t.Few := by
  refine Vl.ind fun nu i n b ks ih deep h => ?_
  rw [fewV] at h
  split at h
  · omega
  · rename_i h1
    exact .mk (by show b.length ≤ 5000; omega) (by show ks.length ≤ 400; omega) fun t ht => ih t ht (deep + 1) (Z1c7 ks (deep + 1) _ (by omega) h t ht)
theorem Vl.Few.cl : ∀ v : Vl, v.Few → v.Cl := by
  refine Vl.ind fun nu i n b ks ih h => ?_
  cases h with
  | mk h1 h2 h3 => exact .mk (by omega) (by omega) fun t ht => ih t ht (h3 t ht)
def fewR (n : Nat) : List Vl → Bool
  | [] => true
  | v :: vs => if 1000 < n + fewV 1 v then false else fewR (n + fewV 1 v) vs
theorem Z1cc : ∀ (vs : List Vl) (n : Nat), fewR n vs = true → 1 ≤ n → ∀ v ∈ vs, fewV 1 v < 1000
  | [], _, _, _, v, hv => by cases hv
  | v :: vs, n, h, hn, u, hu => by
    rw [fewR] at h
    split at h
    · cases h
    · rcases List.mem_cons.1 hu with rfl | hu
      · omega
      · exact Z1cc vs _ h (by omega) u hu
end Go.Abs
namespace Go.Abs
open Go Go.Proofs
set_option linter.unusedVariables false
set_option linter.unusedSimpArgs false
set_option maxHeartbeats 4000000
attribute [local irreducible] AWp aops KP
theorem Z1cd : ∀ (t : Ty) (deep : Nat), deep ≤ 1000 → ∀ σ, Z1q Try.prog Zf2 [encT t, .int .i64 (deep : Int)] σ fun r σ' => r = .int .i64 (fewT deep t : Int) ∧ σ' = σ := by
  refine Ty.ind fun k ns ks l p s ih deep hd σ => ?_
  rw [Zlo]
  refine Z8t rfl Z1bd (Nat.le_of_ble_eq_true rfl) ?_
  refine Z9z ?_
  refine Z9j rfl (Z0.fit_iff.1 rfl) fun b2 hb2 => ?_
  (repeat (refine st_q rfl rfl rfl ?_))
  (refine Z8y ?_; (repeat (first | refine Z9v rfl ?_ | refine Z9w ?_)); refine Z9u ?_)
  refine Zb3 (d := 2) (cs := [.int .i64 k, .slc 1 (ns.map .str) false, .slc 6 (Zlm ks) false, .int .i64 l, .int .i64 p, .int .i64 s]) rfl ?_
  generalize hX : fewT deep (.mk k ns ks l p s) = X
  rw [fewT] at hX
  by_cases h1 : 20 < deep
  · (repeat (first | refine st_q rfl rfl rfl ?_ | refine Z8v rfl (st_q rfl rfl rfl ?_) | refine Z92 rfl Z8z rfl rfl ?_ | refine Z8v rfl (Z92 rfl Z8z rfl rfl ?_) | refine Zby rfl rfl ?_ | refine Z8v rfl (Zby rfl rfl ?_) | refine Z8w rfl ?_ | refine Z8x rfl ?_ | (refine Z8y ?_; (repeat (first | refine Z9v rfl ?_ | refine Z9w ?_)); refine Z9u ?_) | refine awp_seq ?_ | refine Zbm (fun _ _ => rfl) ?_ | refine Z8h ?_ | refine Zbn (fun _ _ => rfl) ?_ | refine Zbo (fun _ _ => rfl) ?_ | refine Z8f (t := true) rfl (fun _ => ?_) (fun e => by cases e) | refine Z8f (t := false) rfl (fun e => by cases e) (fun _ => ?_)))
    (rw [show decide ((20 : Int) < (deep : Int)) = true from decide_eq_true (by omega)])
    (repeat (first | refine st_q rfl rfl rfl ?_ | refine Z8v rfl (st_q rfl rfl rfl ?_) | refine Z92 rfl Z8z rfl rfl ?_ | refine Z8v rfl (Z92 rfl Z8z rfl rfl ?_) | refine Zby rfl rfl ?_ | refine Z8v rfl (Zby rfl rfl ?_) | refine Z8w rfl ?_ | refine Z8x rfl ?_ | (refine Z8y ?_; (repeat (first | refine Z9v rfl ?_ | refine Z9w ?_)); refine Z9u ?_) | refine awp_seq ?_ | refine Zbm (fun _ _ => rfl) ?_ | refine Z8h ?_ | refine Zbn (fun _ _ => rfl) ?_ | refine Zbo (fun _ _ => rfl) ?_ | refine Z8f (t := true) rfl (fun _ => ?_) (fun e => by cases e) | refine Z8f (t := false) rfl (fun e => by cases e) (fun _ => ?_)))
    (refine Z8d ?_; exact ares rfl (HSub.refl _) ⟨(by rw [← hX, if_pos (.inl h1)]; rfl), rfl⟩)
  (repeat (first | refine st_q rfl rfl rfl ?_ | refine Z8v rfl (st_q rfl rfl rfl ?_) | refine Z92 rfl Z8z rfl rfl ?_ | refine Z8v rfl (Z92 rfl Z8z rfl rfl ?_) | refine Zby rfl rfl ?_ | refine Z8v rfl (Zby rfl rfl ?_) | refine Z8w rfl ?_ | refine Z8x rfl ?_ | (refine Z8y ?_; (repeat (first | refine Z9v rfl ?_ | refine Z9w ?_)); refine Z9u ?_) | refine awp_seq ?_ | refine Zbm (fun _ _ => rfl) ?_ | refine Z8h ?_ | refine Zbn (fun _ _ => rfl) ?_ | refine Zbo (fun _ _ => rfl) ?_ | refine Z8f (t := true) rfl (fun _ => ?_) (fun e => by cases e) | refine Z8f (t := false) rfl (fun e => by cases e) (fun _ => ?_)))
  (rw [show decide ((20 : Int) < (deep : Int)) = false from decide_eq_false (by omega)])
  (repeat (first | refine st_q rfl rfl rfl ?_ | refine Z8v rfl (st_q rfl rfl rfl ?_) | refine Z92 rfl Z8z rfl rfl ?_ | refine Z8v rfl (Z92 rfl Z8z rfl rfl ?_) | refine Zby rfl rfl ?_ | refine Z8v rfl (Zby rfl rfl ?_) | refine Z8w rfl ?_ | refine Z8x rfl ?_ | (refine Z8y ?_; (repeat (first | refine Z9v rfl ?_ | refine Z9w ?_)); refine Z9u ?_) | refine awp_seq ?_ | refine Zbm (fun _ _ => rfl) ?_ | refine Z8h ?_ | refine Zbn (fun _ _ => rfl) ?_ | refine Zbo (fun _ _ => rfl) ?_ | refine Z8f (t := true) rfl (fun _ => ?_) (fun e => by cases e) | refine Z8f (t := false) rfl (fun e => by cases e) (fun _ => ?_)))
  rw [Zlq]
  by_cases h2 : 300 < ks.length
  · (rw [show decide ((300 : Int) < (ks.length : Int)) = true from decide_eq_true (by omega)])
    (repeat (first | refine st_q rfl rfl rfl ?_ | refine Z8v rfl (st_q rfl rfl rfl ?_) | refine Z92 rfl Z8z rfl rfl ?_ | refine Z8v rfl (Z92 rfl Z8z rfl rfl ?_) | refine Zby rfl rfl ?_ | refine Z8v rfl (Zby rfl rfl ?_) | refine Z8w rfl ?_ | refine Z8x rfl ?_ | (refine Z8y ?_; (repeat (first | refine Z9v rfl ?_ | refine Z9w ?_)); refine Z9u ?_) | refine awp_seq ?_ | refine Zbm (fun _ _ => rfl) ?_ | refine Z8h ?_ | refine Zbn (fun _ _ => rfl) ?_ | refine Zbo (fun _ _ => rfl) ?_ | refine Z8f (t := true) rfl (fun _ => ?_) (fun e => by cases e) | refine Z8f (t := false) rfl (fun e => by cases e) (fun _ => ?_)))
    (refine Z8d ?_; exact ares rfl (HSub.refl _) ⟨(by rw [← hX, if_pos (.inr (.inl h2))]; rfl), rfl⟩)
  (rw [show decide ((300 : Int) < (ks.length : Int)) = false from decide_eq_false (by omega)])
  (repeat (first | refine st_q rfl rfl rfl ?_ | refine Z8v rfl (st_q rfl rfl rfl ?_) | refine Z92 rfl Z8z rfl rfl ?_ | refine Z8v rfl (Z92 rfl Z8z rfl rfl ?_) | refine Zby rfl rfl ?_ | refine Z8v rfl (Zby rfl rfl ?_) | refine Z8w rfl ?_ | refine Z8x rfl ?_ | (refine Z8y ?_; (repeat (first | refine Z9v rfl ?_ | refine Z9w ?_)); refine Z9u ?_) | refine awp_seq ?_ | refine Zbm (fun _ _ => rfl) ?_ | refine Z8h ?_ | refine Zbn (fun _ _ => rfl) ?_ | refine Zbo (fun _ _ => rfl) ?_ | refine Z8f (t := true) rfl (fun _ => ?_) (fun e => by cases e) | refine Z8f (t := false) rfl (fun e => by cases e) (fun _ => ?_)))
  rw [List.length_map]
  by_cases h3 : 300 < ns.length
  · (rw [show decide ((300 : Int) < (ns.length : Int)) = true from decide_eq_true (by omega)])
    (repeat (first | refine st_q rfl rfl rfl ?_ | refine Z8v rfl (st_q rfl rfl rfl ?_) | refine Z92 rfl Z8z rfl rfl ?_ | refine Z8v rfl (Z92 rfl Z8z rfl rfl ?_) | refine Zby rfl rfl ?_ | refine Z8v rfl (Zby rfl rfl ?_) | refine Z8w rfl ?_ | refine Z8x rfl ?_ | (refine Z8y ?_; (repeat (first | refine Z9v rfl ?_ | refine Z9w ?_)); refine Z9u ?_) | refine awp_seq ?_ | refine Zbm (fun _ _ => rfl) ?_ | refine Z8h ?_ | refine Zbn (fun _ _ => rfl) ?_ | refine Zbo (fun _ _ => rfl) ?_ | refine Z8f (t := true) rfl (fun _ => ?_) (fun e => by cases e) | refine Z8f (t := false) rfl (fun e => by cases e) (fun _ => ?_)))
    (refine Z8d ?_; exact ares rfl (HSub.refl _) ⟨(by rw [← hX, if_pos (.inr (.inr h3))]; rfl), rfl⟩)
  (rw [show decide ((300 : Int) < (ns.length : Int)) = false from decide_eq_false (by omega)])
  (repeat (first | refine st_q rfl rfl rfl ?_ | refine Z8v rfl (st_q rfl rfl rfl ?_) | refine Z92 rfl Z8z rfl rfl ?_ | refine Z8v rfl (Z92 rfl Z8z rfl rfl ?_) | refine Zby rfl rfl ?_ | refine Z8v rfl (Zby rfl rfl ?_) | refine Z8w rfl ?_ | refine Z8x rfl ?_ | (refine Z8y ?_; (repeat (first | refine Z9v rfl ?_ | refine Z9w ?_)); refine Z9u ?_) | refine awp_seq ?_ | refine Zbm (fun _ _ => rfl) ?_ | refine Z8h ?_ | refine Zbn (fun _ _ => rfl) ?_ | refine Zbo (fun _ _ => rfl) ?_ | refine Z8f (t := true) rfl (fun _ => ?_) (fun e => by cases e) | refine Z8f (t := false) rfl (fun e => by cases e) (fun _ => ?_)))
  rw [if_neg (by omega)] at hX
  refine Zaa (fun m F σ' => ∃ (j : Nat), F = fset 1 (some (.int .i64 (deep : Int))) (fset 2 (some (.iptr [.int .i64 k, .slc 1 (ns.map .str) false, .slc 6 (Zlm ks) false, .int .i64 l, .int .i64 p, .int .i64 s])) (fset 5 (some (.int .i64 1)) (fset 6 (some (.int .i64 (j : Int))) Z27))) ∧
    σ = σ' ∧ j ≤ ns.length ∧ (ns.take j).any (fun s => decide (200 < s.length)) = false ∧ m = ns.length - j) (n := ns.length) ⟨0, rfl, rfl, by omega, by simp, rfl⟩ ?_
  rintro m F σ' ⟨j, rfl, rfl, hj, hno, rfl⟩
  (repeat (first | refine st_q rfl rfl rfl ?_ | refine Z8v rfl (st_q rfl rfl rfl ?_) | refine Z92 rfl Z8z rfl rfl ?_ | refine Z8v rfl (Z92 rfl Z8z rfl rfl ?_) | refine Zby rfl rfl ?_ | refine Z8v rfl (Zby rfl rfl ?_) | refine Z8w rfl ?_ | refine Z8x rfl ?_ | (refine Z8y ?_; (repeat (first | refine Z9v rfl ?_ | refine Z9w ?_)); refine Z9u ?_) | refine awp_seq ?_ | refine Zbm (fun _ _ => rfl) ?_ | refine Z8h ?_ | refine Zbn (fun _ _ => rfl) ?_ | refine Zbo (fun _ _ => rfl) ?_ | refine Z8f (t := true) rfl (fun _ => ?_) (fun e => by cases e) | refine Z8f (t := false) rfl (fun e => by cases e) (fun _ => ?_)))
  rw [List.length_map]
  refine Za3 (p := (j : Int) < (ns.length : Int)) rfl (fun h5 => ?_) (fun h5 => ?_)
  · have hjl : j < ns.length := by omega
    (repeat (first | refine st_q rfl rfl rfl ?_ | refine Z8v rfl (st_q rfl rfl rfl ?_) | refine Z92 rfl Z8z rfl rfl ?_ | refine Z8v rfl (Z92 rfl Z8z rfl rfl ?_) | refine Zby rfl rfl ?_ | refine Z8v rfl (Zby rfl rfl ?_) | refine Z8w rfl ?_ | refine Z8x rfl ?_ | (refine Z8y ?_; (repeat (first | refine Z9v rfl ?_ | refine Z9w ?_)); refine Z9u ?_) | refine awp_seq ?_ | refine Zbm (fun _ _ => rfl) ?_ | refine Z8h ?_ | refine Zbn (fun _ _ => rfl) ?_ | refine Zbo (fun _ _ => rfl) ?_ | refine Z8f (t := true) rfl (fun _ => ?_) (fun e => by cases e) | refine Z8f (t := false) rfl (fun e => by cases e) (fun _ => ?_)))
    refine Z93 rfl (by omega) (Zyu hjl) ?_
    (repeat (first | refine st_q rfl rfl rfl ?_ | refine Z8v rfl (st_q rfl rfl rfl ?_) | refine Z92 rfl Z8z rfl rfl ?_ | refine Z8v rfl (Z92 rfl Z8z rfl rfl ?_) | refine Zby rfl rfl ?_ | refine Z8v rfl (Zby rfl rfl ?_) | refine Z8w rfl ?_ | refine Z8x rfl ?_ | (refine Z8y ?_; (repeat (first | refine Z9v rfl ?_ | refine Z9w ?_)); refine Z9u ?_) | refine awp_seq ?_ | refine Zbm (fun _ _ => rfl) ?_ | refine Z8h ?_ | refine Zbn (fun _ _ => rfl) ?_ | refine Zbo (fun _ _ => rfl) ?_ | refine Z8f (t := true) rfl (fun _ => ?_) (fun e => by cases e) | refine Z8f (t := false) rfl (fun e => by cases e) (fun _ => ?_)))
    by_cases h6 : 200 < (ns[j]).length
    · (rw [show decide ((200 : Int) < ((ns[j]).length : Int)) = true from decide_eq_true (by omega)])
      (repeat (first | refine st_q rfl rfl rfl ?_ | refine Z8v rfl (st_q rfl rfl rfl ?_) | refine Z92 rfl Z8z rfl rfl ?_ | refine Z8v rfl (Z92 rfl Z8z rfl rfl ?_) | refine Zby rfl rfl ?_ | refine Z8v rfl (Zby rfl rfl ?_) | refine Z8w rfl ?_ | refine Z8x rfl ?_ | (refine Z8y ?_; (repeat (first | refine Z9v rfl ?_ | refine Z9w ?_)); refine Z9u ?_) | refine awp_seq ?_ | refine Zbm (fun _ _ => rfl) ?_ | refine Z8h ?_ | refine Zbn (fun _ _ => rfl) ?_ | refine Zbo (fun _ _ => rfl) ?_ | refine Z8f (t := true) rfl (fun _ => ?_) (fun e => by cases e) | refine Z8f (t := false) rfl (fun e => by cases e) (fun _ => ?_)))
      refine Z8d ?_
      refine ares rfl (HSub.refl _) ⟨?_, rfl⟩
      have : ns.any (fun s => decide (200 < s.length)) = true := List.any_eq_true.2 ⟨ns[j], List.getElem_mem hjl, decide_eq_true h6⟩
      rw [← hX, if_pos this]; rfl
    · (rw [show decide ((200 : Int) < ((ns[j]).length : Int)) = false from decide_eq_false (by omega)])
      (repeat (first | refine st_q rfl rfl rfl ?_ | refine Z8v rfl (st_q rfl rfl rfl ?_) | refine Z92 rfl Z8z rfl rfl ?_ | refine Z8v rfl (Z92 rfl Z8z rfl rfl ?_) | refine Zby rfl rfl ?_ | refine Z8v rfl (Zby rfl rfl ?_) | refine Z8w rfl ?_ | refine Z8x rfl ?_ | (refine Z8y ?_; (repeat (first | refine Z9v rfl ?_ | refine Z9w ?_)); refine Z9u ?_) | refine awp_seq ?_ | refine Zbm (fun _ _ => rfl) ?_ | refine Z8h ?_ | refine Zbn (fun _ _ => rfl) ?_ | refine Zbo (fun _ _ => rfl) ?_ | refine Z8f (t := true) rfl (fun _ => ?_) (fun e => by cases e) | refine Z8f (t := false) rfl (fun e => by cases e) (fun _ => ?_)))
      refine Zbp ?_
      (repeat (refine st_q rfl rfl rfl ?_))
      rw [show IntKind.wrap .i64 ((j : Int) + 1) = ((j + 1 : Nat) : Int) by rw [w64 _ (by omega) (by omega)]; omega]
      (refine Z8y ?_; (repeat (first | refine Z9v rfl ?_ | refine Z9w ?_)); refine Z9u ?_)
      refine ⟨_, ns.length - (j + 1), HSub.refl _, ⟨j + 1, rfl, rfl, by omega, ?_, rfl⟩, by omega⟩
      rw [← List.take_append_getElem hjl, List.any_append, hno]
      simp; omega
  · rw [show ns.take j = ns from List.take_of_length_le (by omega)] at hno
    rw [if_neg (by rw [hno]; simp)] at hX
    (repeat (first | refine st_q rfl rfl rfl ?_ | refine Z8v rfl (st_q rfl rfl rfl ?_) | refine Z92 rfl Z8z rfl rfl ?_ | refine Z8v rfl (Z92 rfl Z8z rfl rfl ?_) | refine Zby rfl rfl ?_ | refine Z8v rfl (Zby rfl rfl ?_) | refine Z8w rfl ?_ | refine Z8x rfl ?_ | (refine Z8y ?_; (repeat (first | refine Z9v rfl ?_ | refine Z9w ?_)); refine Z9u ?_) | refine awp_seq ?_ | refine Zbm (fun _ _ => rfl) ?_ | refine Z8h ?_ | refine Zbn (fun _ _ => rfl) ?_ | refine Zbo (fun _ _ => rfl) ?_ | refine Z8f (t := true) rfl (fun _ => ?_) (fun e => by cases e) | refine Z8f (t := false) rfl (fun e => by cases e) (fun _ => ?_)))
    refine Zaa (fun m F σ' => ∃ (j n : Nat), F = fset 1 (some (.int .i64 (deep : Int))) (fset 2 (some (.iptr [.int .i64 k, .slc 1 (ns.map .str) false, .slc 6 (Zlm ks) false, .int .i64 l, .int .i64 p, .int .i64 s])) (fset 5 (some (.int .i64 (n : Int))) (fset 7 (some (.int .i64 (j : Int))) Z27))) ∧
      σ = σ' ∧ j ≤ ks.length ∧ n ≤ 1000 ∧ fewTL (deep + 1) n (ks.drop j) = X ∧ m = ks.length - j) (n := ks.length) ⟨0, 1, rfl, rfl, by omega, by omega, hX, rfl⟩ ?_
    rintro m F σ' ⟨j, n, rfl, rfl, hj, hn, hXj, rfl⟩
    (repeat (first | refine st_q rfl rfl rfl ?_ | refine Z8v rfl (st_q rfl rfl rfl ?_) | refine Z92 rfl Z8z rfl rfl ?_ | refine Z8v rfl (Z92 rfl Z8z rfl rfl ?_) | refine Zby rfl rfl ?_ | refine Z8v rfl (Zby rfl rfl ?_) | refine Z8w rfl ?_ | refine Z8x rfl ?_ | (refine Z8y ?_; (repeat (first | refine Z9v rfl ?_ | refine Z9w ?_)); refine Z9u ?_) | refine awp_seq ?_ | refine Zbm (fun _ _ => rfl) ?_ | refine Z8h ?_ | refine Zbn (fun _ _ => rfl) ?_ | refine Zbo (fun _ _ => rfl) ?_ | refine Z8f (t := true) rfl (fun _ => ?_) (fun e => by cases e) | refine Z8f (t := false) rfl (fun e => by cases e) (fun _ => ?_)))
    rw [Zlq]
    refine Za3 (p := (j : Int) < (ks.length : Int)) rfl (fun h5 => ?_) (fun h5 => ?_)
    · have hjl : j < ks.length := by omega
      have h1 : (Zlm ks)[((j : Nat) : Int).toNat]? = some (.agg (Zln ks[j])) := by rw [← Zlo]; exact Zlr (by rw [Int.toNat_natCast, List.getElem?_eq_getElem hjl])
      have hc := ih ks[j] (List.getElem_mem hjl) (deep + 1) (by omega)
      rw [Zlo] at hc
      have hle := Z1c8 ks[j] (deep + 1)
      rw [List.drop_eq_getElem_cons hjl, fewTL] at hXj
      generalize fewT (deep + 1) ks[j] = q at hc hle hXj
      (repeat (first | refine st_q rfl rfl rfl ?_ | refine Z8v rfl (st_q rfl rfl rfl ?_) | refine Z92 rfl Z8z rfl rfl ?_ | refine Z8v rfl (Z92 rfl Z8z rfl rfl ?_) | refine Zby rfl rfl ?_ | refine Z8v rfl (Zby rfl rfl ?_) | refine Z8w rfl ?_ | refine Z8x rfl ?_ | (refine Z8y ?_; (repeat (first | refine Z9v rfl ?_ | refine Z9w ?_)); refine Z9u ?_) | refine awp_seq ?_ | refine Zbm (fun _ _ => rfl) ?_ | refine Z8h ?_ | refine Zbn (fun _ _ => rfl) ?_ | refine Zbo (fun _ _ => rfl) ?_ | refine Z8f (t := true) rfl (fun _ => ?_) (fun e => by cases e) | refine Z8f (t := false) rfl (fun e => by cases e) (fun _ => ?_)))
      refine Z93 rfl (by omega) h1 ?_
      (repeat (first | refine st_q rfl rfl rfl ?_ | refine Z8v rfl (st_q rfl rfl rfl ?_) | refine Z92 rfl Z8z rfl rfl ?_ | refine Z8v rfl (Z92 rfl Z8z rfl rfl ?_) | refine Zby rfl rfl ?_ | refine Z8v rfl (Zby rfl rfl ?_) | refine Z8w rfl ?_ | refine Z8x rfl ?_ | (refine Z8y ?_; (repeat (first | refine Z9v rfl ?_ | refine Z9w ?_)); refine Z9u ?_) | refine awp_seq ?_ | refine Zbm (fun _ _ => rfl) ?_ | refine Z8h ?_ | refine Zbn (fun _ _ => rfl) ?_ | refine Zbo (fun _ _ => rfl) ?_ | refine Z8f (t := true) rfl (fun _ => ?_) (fun e => by cases e) | refine Z8f (t := false) rfl (fun e => by cases e) (fun _ => ?_)))
      rw [show IntKind.wrap .i64 ((deep : Int) + 1) = ((deep + 1 : Nat) : Int) by rw [w64 _ (by omega) (by omega)]; omega]
      (first | refine Z9t rfl (hc _) ?_ | refine Z8v rfl (Z9t rfl (hc _) ?_) | refine Zbw rfl hc ?_ | refine Z8v rfl (Zbw rfl hc ?_))
      (repeat (first | refine st_q rfl rfl rfl ?_ | refine Z8v rfl (st_q rfl rfl rfl ?_) | refine Z92 rfl Z8z rfl rfl ?_ | refine Z8v rfl (Z92 rfl Z8z rfl rfl ?_) | refine Zby rfl rfl ?_ | refine Z8v rfl (Zby rfl rfl ?_) | refine Z8w rfl ?_ | refine Z8x rfl ?_ | (refine Z8y ?_; (repeat (first | refine Z9v rfl ?_ | refine Z9w ?_)); refine Z9u ?_) | refine awp_seq ?_ | refine Zbm (fun _ _ => rfl) ?_ | refine Z8h ?_ | refine Zbn (fun _ _ => rfl) ?_ | refine Zbo (fun _ _ => rfl) ?_ | refine Z8f (t := true) rfl (fun _ => ?_) (fun e => by cases e) | refine Z8f (t := false) rfl (fun e => by cases e) (fun _ => ?_)))
      rw [show IntKind.wrap .i64 ((n : Int) + (q : Int)) = ((n + q : Nat) : Int) by rw [w64 _ (by omega) (by omega)]; omega]
      by_cases h7 : 1000 < n + q
      · (rw [show decide ((1000 : Int) < ((n + q : Nat) : Int)) = true from decide_eq_true (by omega)])
        (repeat (first | refine st_q rfl rfl rfl ?_ | refine Z8v rfl (st_q rfl rfl rfl ?_) | refine Z92 rfl Z8z rfl rfl ?_ | refine Z8v rfl (Z92 rfl Z8z rfl rfl ?_) | refine Zby rfl rfl ?_ | refine Z8v rfl (Zby rfl rfl ?_) | refine Z8w rfl ?_ | refine Z8x rfl ?_ | (refine Z8y ?_; (repeat (first | refine Z9v rfl ?_ | refine Z9w ?_)); refine Z9u ?_) | refine awp_seq ?_ | refine Zbm (fun _ _ => rfl) ?_ | refine Z8h ?_ | refine Zbn (fun _ _ => rfl) ?_ | refine Zbo (fun _ _ => rfl) ?_ | refine Z8f (t := true) rfl (fun _ => ?_) (fun e => by cases e) | refine Z8f (t := false) rfl (fun e => by cases e) (fun _ => ?_)))
        (refine Z8d ?_; exact ares rfl (HSub.refl _) ⟨(by rw [← hXj, if_pos h7]; rfl), rfl⟩)
      · (rw [show decide ((1000 : Int) < ((n + q : Nat) : Int)) = false from decide_eq_false (by omega)])
        rw [if_neg h7] at hXj
        (repeat (first | refine st_q rfl rfl rfl ?_ | refine Z8v rfl (st_q rfl rfl rfl ?_) | refine Z92 rfl Z8z rfl rfl ?_ | refine Z8v rfl (Z92 rfl Z8z rfl rfl ?_) | refine Zby rfl rfl ?_ | refine Z8v rfl (Zby rfl rfl ?_) | refine Z8w rfl ?_ | refine Z8x rfl ?_ | (refine Z8y ?_; (repeat (first | refine Z9v rfl ?_ | refine Z9w ?_)); refine Z9u ?_) | refine awp_seq ?_ | refine Zbm (fun _ _ => rfl) ?_ | refine Z8h ?_ | refine Zbn (fun _ _ => rfl) ?_ | refine Zbo (fun _ _ => rfl) ?_ | refine Z8f (t := true) rfl (fun _ => ?_) (fun e => by cases e) | refine Z8f (t := false) rfl (fun e => by cases e) (fun _ => ?_)))
        refine Zbp ?_
        (repeat (refine st_q rfl rfl rfl ?_))
        rw [show IntKind.wrap .i64 ((j : Int) + 1) = ((j + 1 : Nat) : Int) by rw [w64 _ (by omega) (by omega)]; omega]
        (refine Z8y ?_; (repeat (first | refine Z9v rfl ?_ | refine Z9w ?_)); refine Z9u ?_)
        exact ⟨_, ks.length - (j + 1), HSub.refl _, ⟨j + 1, n + q, rfl, rfl, by omega, by omega, hXj, rfl⟩, by omega⟩
    · rw [List.drop_of_length_le (by omega), fewTL] at hXj
      subst hXj
      (repeat (first | refine st_q rfl rfl rfl ?_ | refine Z8v rfl (st_q rfl rfl rfl ?_) | refine Z92 rfl Z8z rfl rfl ?_ | refine Z8v rfl (Z92 rfl Z8z rfl rfl ?_) | refine Zby rfl rfl ?_ | refine Z8v rfl (Zby rfl rfl ?_) | refine Z8w rfl ?_ | refine Z8x rfl ?_ | (refine Z8y ?_; (repeat (first | refine Z9v rfl ?_ | refine Z9w ?_)); refine Z9u ?_) | refine awp_seq ?_ | refine Zbm (fun _ _ => rfl) ?_ | refine Z8h ?_ | refine Zbn (fun _ _ => rfl) ?_ | refine Zbo (fun _ _ => rfl) ?_ | refine Z8f (t := true) rfl (fun _ => ?_) (fun e => by cases e) | refine Z8f (t := false) rfl (fun e => by cases e) (fun _ => ?_)))
      (refine Z8d ?_; exact ares rfl (HSub.refl _) ⟨rfl, rfl⟩)
theorem Z1ce (t : Ty) (σ : Zc) : Z1q Try.prog Zdq [encT t] σ fun r σ' => r = .bool (decide (fewT 1 t ≤ 150)) ∧ σ' = σ := by
  have hc := Z1cd t 1 (by omega)
  rw [Zlo] at hc ⊢
  refine Z8t rfl Z1bc (Nat.le_of_ble_eq_true rfl) ?_
  refine Z9z ?_
  refine Z9j rfl (Z0.fit_iff.1 rfl) fun b2 hb2 => ?_
  (repeat (refine st_q rfl rfl rfl ?_))
  (refine Z8y ?_; (repeat (first | refine Z9v rfl ?_ | refine Z9w ?_)); refine Z9u ?_)
  refine Zb3 (d := 1) (cs := Zln t) rfl ?_
  (repeat (first | refine st_q rfl rfl rfl ?_ | refine Z8v rfl (st_q rfl rfl rfl ?_) | refine Z92 rfl Z8z rfl rfl ?_ | refine Z8v rfl (Z92 rfl Z8z rfl rfl ?_) | refine Zby rfl rfl ?_ | refine Z8v rfl (Zby rfl rfl ?_) | refine Z8w rfl ?_ | refine Z8x rfl ?_ | (refine Z8y ?_; (repeat (first | refine Z9v rfl ?_ | refine Z9w ?_)); refine Z9u ?_) | refine awp_seq ?_ | refine Zbm (fun _ _ => rfl) ?_ | refine Z8h ?_ | refine Zbn (fun _ _ => rfl) ?_ | refine Zbo (fun _ _ => rfl) ?_ | refine Z8f (t := true) rfl (fun _ => ?_) (fun e => by cases e) | refine Z8f (t := false) rfl (fun e => by cases e) (fun _ => ?_)))
  (first | refine Z9t rfl (hc _) ?_ | refine Z8v rfl (Z9t rfl (hc _) ?_) | refine Zbw rfl hc ?_ | refine Z8v rfl (Zbw rfl hc ?_))
  (repeat (first | refine st_q rfl rfl rfl ?_ | refine Z8v rfl (st_q rfl rfl rfl ?_) | refine Z92 rfl Z8z rfl rfl ?_ | refine Z8v rfl (Z92 rfl Z8z rfl rfl ?_) | refine Zby rfl rfl ?_ | refine Z8v rfl (Zby rfl rfl ?_) | refine Z8w rfl ?_ | refine Z8x rfl ?_ | (refine Z8y ?_; (repeat (first | refine Z9v rfl ?_ | refine Z9w ?_)); refine Z9u ?_) | refine awp_seq ?_ | refine Zbm (fun _ _ => rfl) ?_ | refine Z8h ?_ | refine Zbn (fun _ _ => rfl) ?_ | refine Zbo (fun _ _ => rfl) ?_ | refine Z8f (t := true) rfl (fun _ => ?_) (fun e => by cases e) | refine Z8f (t := false) rfl (fun e => by cases e) (fun _ => ?_)))
  refine Z8d ?_
  refine ares rfl (HSub.refl _) ⟨?_, rfl⟩
  simp only [Z8m, Z0.bool.injEq, decide_eq_decide]
  omega
theorem Z1cf : ∀ (t : Vl) (deep : Nat), deep ≤ 1000 → ∀ σ, Z1q Try.prog Zf7 [encV t, .int .i64 (deep : Int)] σ fun r σ' => r = .int .i64 (fewV deep t : Int) ∧ σ' = σ := by
  refine Vl.ind fun nu i n b ks ih deep hd σ => ?_
  rw [Zm6]
  refine Z8t rfl Z1bg (Nat.le_of_ble_eq_true rfl) ?_
  refine Z9z ?_
  refine Z9j rfl (Z0.fit_iff.1 rfl) fun b2 hb2 => ?_
  (repeat (refine st_q rfl rfl rfl ?_))
  (refine Z8y ?_; (repeat (first | refine Z9v rfl ?_ | refine Z9w ?_)); refine Z9u ?_)
  refine Zb3 (d := 2) (cs := [.bool nu, .int .i64 i, .int .i64 n, .slc 1 (bytes b) false, .slc 5 (Zm4 ks) false]) rfl ?_
  generalize hX : fewV deep (.mk nu i n b ks) = X
  rw [fewV] at hX
  by_cases h1 : 20 < deep
  · (repeat (first | refine st_q rfl rfl rfl ?_ | refine Z8v rfl (st_q rfl rfl rfl ?_) | refine Z92 rfl Z8z rfl rfl ?_ | refine Z8v rfl (Z92 rfl Z8z rfl rfl ?_) | refine Zby rfl rfl ?_ | refine Z8v rfl (Zby rfl rfl ?_) | refine Z8w rfl ?_ | refine Z8x rfl ?_ | (refine Z8y ?_; (repeat (first | refine Z9v rfl ?_ | refine Z9w ?_)); refine Z9u ?_) | refine awp_seq ?_ | refine Zbm (fun _ _ => rfl) ?_ | refine Z8h ?_ | refine Zbn (fun _ _ => rfl) ?_ | refine Zbo (fun _ _ => rfl) ?_ | refine Z8f (t := true) rfl (fun _ => ?_) (fun e => by cases e) | refine Z8f (t := false) rfl (fun e => by cases e) (fun _ => ?_)))
    (rw [show decide ((20 : Int) < (deep : Int)) = true from decide_eq_true (by omega)])
    (repeat (first | refine st_q rfl rfl rfl ?_ | refine Z8v rfl (st_q rfl rfl rfl ?_) | refine Z92 rfl Z8z rfl rfl ?_ | refine Z8v rfl (Z92 rfl Z8z rfl rfl ?_) | refine Zby rfl rfl ?_ | refine Z8v rfl (Zby rfl rfl ?_) | refine Z8w rfl ?_ | refine Z8x rfl ?_ | (refine Z8y ?_; (repeat (first | refine Z9v rfl ?_ | refine Z9w ?_)); refine Z9u ?_) | refine awp_seq ?_ | refine Zbm (fun _ _ => rfl) ?_ | refine Z8h ?_ | refine Zbn (fun _ _ => rfl) ?_ | refine Zbo (fun _ _ => rfl) ?_ | refine Z8f (t := true) rfl (fun _ => ?_) (fun e => by cases e) | refine Z8f (t := false) rfl (fun e => by cases e) (fun _ => ?_)))
    (refine Z8d ?_; exact ares rfl (HSub.refl _) ⟨(by rw [← hX, if_pos (.inl h1)]; rfl), rfl⟩)
  (repeat (first | refine st_q rfl rfl rfl ?_ | refine Z8v rfl (st_q rfl rfl rfl ?_) | refine Z92 rfl Z8z rfl rfl ?_ | refine Z8v rfl (Z92 rfl Z8z rfl rfl ?_) | refine Zby rfl rfl ?_ | refine Z8v rfl (Zby rfl rfl ?_) | refine Z8w rfl ?_ | refine Z8x rfl ?_ | (refine Z8y ?_; (repeat (first | refine Z9v rfl ?_ | refine Z9w ?_)); refine Z9u ?_) | refine awp_seq ?_ | refine Zbm (fun _ _ => rfl) ?_ | refine Z8h ?_ | refine Zbn (fun _ _ => rfl) ?_ | refine Zbo (fun _ _ => rfl) ?_ | refine Z8f (t := true) rfl (fun _ => ?_) (fun e => by cases e) | refine Z8f (t := false) rfl (fun e => by cases e) (fun _ => ?_)))
  (rw [show decide ((20 : Int) < (deep : Int)) = false from decide_eq_false (by omega)])
  (repeat (first | refine st_q rfl rfl rfl ?_ | refine Z8v rfl (st_q rfl rfl rfl ?_) | refine Z92 rfl Z8z rfl rfl ?_ | refine Z8v rfl (Z92 rfl Z8z rfl rfl ?_) | refine Zby rfl rfl ?_ | refine Z8v rfl (Zby rfl rfl ?_) | refine Z8w rfl ?_ | refine Z8x rfl ?_ | (refine Z8y ?_; (repeat (first | refine Z9v rfl ?_ | refine Z9w ?_)); refine Z9u ?_) | refine awp_seq ?_ | refine Zbm (fun _ _ => rfl) ?_ | refine Z8h ?_ | refine Zbn (fun _ _ => rfl) ?_ | refine Zbo (fun _ _ => rfl) ?_ | refine Z8f (t := true) rfl (fun _ => ?_) (fun e => by cases e) | refine Z8f (t := false) rfl (fun e => by cases e) (fun _ => ?_)))
  rw [Zm8]
  by_cases h2 : 400 < ks.length
  · (rw [show decide ((400 : Int) < (ks.length : Int)) = true from decide_eq_true (by omega)])
    (repeat (first | refine st_q rfl rfl rfl ?_ | refine Z8v rfl (st_q rfl rfl rfl ?_) | refine Z92 rfl Z8z rfl rfl ?_ | refine Z8v rfl (Z92 rfl Z8z rfl rfl ?_) | refine Zby rfl rfl ?_ | refine Z8v rfl (Zby rfl rfl ?_) | refine Z8w rfl ?_ | refine Z8x rfl ?_ | (refine Z8y ?_; (repeat (first | refine Z9v rfl ?_ | refine Z9w ?_)); refine Z9u ?_) | refine awp_seq ?_ | refine Zbm (fun _ _ => rfl) ?_ | refine Z8h ?_ | refine Zbn (fun _ _ => rfl) ?_ | refine Zbo (fun _ _ => rfl) ?_ | refine Z8f (t := true) rfl (fun _ => ?_) (fun e => by cases e) | refine Z8f (t := false) rfl (fun e => by cases e) (fun _ => ?_)))
    (refine Z8d ?_; exact ares rfl (HSub.refl _) ⟨(by rw [← hX, if_pos (.inr (.inl h2))]; rfl), rfl⟩)
  (rw [show decide ((400 : Int) < (ks.length : Int)) = false from decide_eq_false (by omega)])
  (repeat (first | refine st_q rfl rfl rfl ?_ | refine Z8v rfl (st_q rfl rfl rfl ?_) | refine Z92 rfl Z8z rfl rfl ?_ | refine Z8v rfl (Z92 rfl Z8z rfl rfl ?_) | refine Zby rfl rfl ?_ | refine Z8v rfl (Zby rfl rfl ?_) | refine Z8w rfl ?_ | refine Z8x rfl ?_ | (refine Z8y ?_; (repeat (first | refine Z9v rfl ?_ | refine Z9w ?_)); refine Z9u ?_) | refine awp_seq ?_ | refine Zbm (fun _ _ => rfl) ?_ | refine Z8h ?_ | refine Zbn (fun _ _ => rfl) ?_ | refine Zbo (fun _ _ => rfl) ?_ | refine Z8f (t := true) rfl (fun _ => ?_) (fun e => by cases e) | refine Z8f (t := false) rfl (fun e => by cases e) (fun _ => ?_)))
  rw [Zam]
  by_cases h3 : 5000 < b.length
  · (rw [show decide ((5000 : Int) < (b.length : Int)) = true from decide_eq_true (by omega)])
    (repeat (first | refine st_q rfl rfl rfl ?_ | refine Z8v rfl (st_q rfl rfl rfl ?_) | refine Z92 rfl Z8z rfl rfl ?_ | refine Z8v rfl (Z92 rfl Z8z rfl rfl ?_) | refine Zby rfl rfl ?_ | refine Z8v rfl (Zby rfl rfl ?_) | refine Z8w rfl ?_ | refine Z8x rfl ?_ | (refine Z8y ?_; (repeat (first | refine Z9v rfl ?_ | refine Z9w ?_)); refine Z9u ?_) | refine awp_seq ?_ | refine Zbm (fun _ _ => rfl) ?_ | refine Z8h ?_ | refine Zbn (fun _ _ => rfl) ?_ | refine Zbo (fun _ _ => rfl) ?_ | refine Z8f (t := true) rfl (fun _ => ?_) (fun e => by cases e) | refine Z8f (t := false) rfl (fun e => by cases e) (fun _ => ?_)))
    (refine Z8d ?_; exact ares rfl (HSub.refl _) ⟨(by rw [← hX, if_pos (.inr (.inr h3))]; rfl), rfl⟩)
  (rw [show decide ((5000 : Int) < (b.length : Int)) = false from decide_eq_false (by omega)])
  rw [if_neg (by omega)] at hX
  (repeat (first | refine st_q rfl rfl rfl ?_ | refine Z8v rfl (st_q rfl rfl rfl ?_) | refine Z92 rfl Z8z rfl rfl ?_ | refine Z8v rfl (Z92 rfl Z8z rfl rfl ?_) | refine Zby rfl rfl ?_ | refine Z8v rfl (Zby rfl rfl ?_) | refine Z8w rfl ?_ | refine Z8x rfl ?_ | (refine Z8y ?_; (repeat (first | refine Z9v rfl ?_ | refine Z9w ?_)); refine Z9u ?_) | refine awp_seq ?_ | refine Zbm (fun _ _ => rfl) ?_ | refine Z8h ?_ | refine Zbn (fun _ _ => rfl) ?_ | refine Zbo (fun _ _ => rfl) ?_ | refine Z8f (t := true) rfl (fun _ => ?_) (fun e => by cases e) | refine Z8f (t := false) rfl (fun e => by cases e) (fun _ => ?_)))
  rw [Zam]
  rw [show IntKind.wrap .i64 (1 + IntKind.wrap .i64 ((b.length : Int).tdiv 50)) = ((1 + b.length / 50 : Nat) : Int) by
    rw [Int.tdiv_eq_ediv_of_nonneg (by omega), w64 ((b.length : Int) / 50) (by omega) (by omega), w64 _ (by omega) (by omega)]; omega]
  (repeat (first | refine st_q rfl rfl rfl ?_ | refine Z8v rfl (st_q rfl rfl rfl ?_) | refine Z92 rfl Z8z rfl rfl ?_ | refine Z8v rfl (Z92 rfl Z8z rfl rfl ?_) | refine Zby rfl rfl ?_ | refine Z8v rfl (Zby rfl rfl ?_) | refine Z8w rfl ?_ | refine Z8x rfl ?_ | (refine Z8y ?_; (repeat (first | refine Z9v rfl ?_ | refine Z9w ?_)); refine Z9u ?_) | refine awp_seq ?_ | refine Zbm (fun _ _ => rfl) ?_ | refine Z8h ?_ | refine Zbn (fun _ _ => rfl) ?_ | refine Zbo (fun _ _ => rfl) ?_ | refine Z8f (t := true) rfl (fun _ => ?_) (fun e => by cases e) | refine Z8f (t := false) rfl (fun e => by cases e) (fun _ => ?_)))
  refine Zaa (fun m F σ' => ∃ (j n' : Nat), F = fset 1 (some (.int .i64 (deep : Int))) (fset 2 (some (.iptr [.bool nu, .int .i64 i, .int .i64 n, .slc 1 (bytes b) false, .slc 5 (Zm4 ks) false])) (fset 5 (some (.int .i64 (n' : Int))) (fset 6 (some (.int .i64 (j : Int))) Z27))) ∧
    σ = σ' ∧ j ≤ ks.length ∧ n' ≤ 1000 ∧ fewVL (deep + 1) n' (ks.drop j) = X ∧ m = ks.length - j) (n := ks.length) ⟨0, 1 + b.length / 50, rfl, rfl, by omega, by omega, hX, rfl⟩ ?_
  rintro m F σ' ⟨j, n', rfl, rfl, hj, hn, hXj, rfl⟩
  (repeat (first | refine st_q rfl rfl rfl ?_ | refine Z8v rfl (st_q rfl rfl rfl ?_) | refine Z92 rfl Z8z rfl rfl ?_ | refine Z8v rfl (Z92 rfl Z8z rfl rfl ?_) | refine Zby rfl rfl ?_ | refine Z8v rfl (Zby rfl rfl ?_) | refine Z8w rfl ?_ | refine Z8x rfl ?_ | (refine Z8y ?_; (repeat (first | refine Z9v rfl ?_ | refine Z9w ?_)); refine Z9u ?_) | refine awp_seq ?_ | refine Zbm (fun _ _ => rfl) ?_ | refine Z8h ?_ | refine Zbn (fun _ _ => rfl) ?_ | refine Zbo (fun _ _ => rfl) ?_ | refine Z8f (t := true) rfl (fun _ => ?_) (fun e => by cases e) | refine Z8f (t := false) rfl (fun e => by cases e) (fun _ => ?_)))
  rw [Zm8]
  refine Za3 (p := (j : Int) < (ks.length : Int)) rfl (fun h5 => ?_) (fun h5 => ?_)
  · have hjl : j < ks.length := by omega
    have h1 : (Zm4 ks)[((j : Nat) : Int).toNat]? = some (.agg (Zm5 ks[j])) := by rw [← Zm6]; exact Zm9 (by rw [Int.toNat_natCast, List.getElem?_eq_getElem hjl])
    have hc := ih ks[j] (List.getElem_mem hjl) (deep + 1) (by omega)
    rw [Zm6] at hc
    have hle := Z1c9 ks[j] (deep + 1)
    rw [List.drop_eq_getElem_cons hjl, fewVL] at hXj
    generalize fewV (deep + 1) ks[j] = q at hc hle hXj
    (repeat (first | refine st_q rfl rfl rfl ?_ | refine Z8v rfl (st_q rfl rfl rfl ?_) | refine Z92 rfl Z8z rfl rfl ?_ | refine Z8v rfl (Z92 rfl Z8z rfl rfl ?_) | refine Zby rfl rfl ?_ | refine Z8v rfl (Zby rfl rfl ?_) | refine Z8w rfl ?_ | refine Z8x rfl ?_ | (refine Z8y ?_; (repeat (first | refine Z9v rfl ?_ | refine Z9w ?_)); refine Z9u ?_) | refine awp_seq ?_ | refine Zbm (fun _ _ => rfl) ?_ | refine Z8h ?_ | refine Zbn (fun _ _ => rfl) ?_ | refine Zbo (fun _ _ => rfl) ?_ | refine Z8f (t := true) rfl (fun _ => ?_) (fun e => by cases e) | refine Z8f (t := false) rfl (fun e => by cases e) (fun _ => ?_)))
    refine Z93 rfl (by omega) h1 ?_
    (repeat (first | refine st_q rfl rfl rfl ?_ | refine Z8v rfl (st_q rfl rfl rfl ?_) | refine Z92 rfl Z8z rfl rfl ?_ | refine Z8v rfl (Z92 rfl Z8z rfl rfl ?_) | refine Zby rfl rfl ?_ | refine Z8v rfl (Zby rfl rfl ?_) | refine Z8w rfl ?_ | refine Z8x rfl ?_ | (refine Z8y ?_; (repeat (first | refine Z9v rfl ?_ | refine Z9w ?_)); refine Z9u ?_) | refine awp_seq ?_ | refine Zbm (fun _ _ => rfl) ?_ | refine Z8h ?_ | refine Zbn (fun _ _ => rfl) ?_ | refine Zbo (fun _ _ => rfl) ?_ | refine Z8f (t := true) rfl (fun _ => ?_) (fun e => by cases e) | refine Z8f (t := false) rfl (fun e => by cases e) (fun _ => ?_)))
    rw [show IntKind.wrap .i64 ((deep : Int) + 1) = ((deep + 1 : Nat) : Int) by rw [w64 _ (by omega) (by omega)]; omega]
    (first | refine Z9t rfl (hc _) ?_ | refine Z8v rfl (Z9t rfl (hc _) ?_) | refine Zbw rfl hc ?_ | refine Z8v rfl (Zbw rfl hc ?_))
    (repeat (first | refine st_q rfl rfl rfl ?_ | refine Z8v rfl (st_q rfl rfl rfl ?_) | refine Z92 rfl Z8z rfl rfl ?_ | refine Z8v rfl (Z92 rfl Z8z rfl rfl ?_) | refine Zby rfl rfl ?_ | refine Z8v rfl (Zby rfl rfl ?_) | refine Z8w rfl ?_ | refine Z8x rfl ?_ | (refine Z8y ?_; (repeat (first | refine Z9v rfl ?_ | refine Z9w ?_)); refine Z9u ?_) | refine awp_seq ?_ | refine Zbm (fun _ _ => rfl) ?_ | refine Z8h ?_ | refine Zbn (fun _ _ => rfl) ?_ | refine Zbo (fun _ _ => rfl) ?_ | refine Z8f (t := true) rfl (fun _ => ?_) (fun e => by cases e) | refine Z8f (t := false) rfl (fun e => by cases e) (fun _ => ?_)))
    rw [show IntKind.wrap .i64 ((n' : Int) + (q : Int)) = ((n' + q : Nat) : Int) by rw [w64 _ (by omega) (by omega)]; omega]
    by_cases h7 : 1000 < n' + q
    · (rw [show decide ((1000 : Int) < ((n' + q : Nat) : Int)) = true from decide_eq_true (by omega)])
      (repeat (first | refine st_q rfl rfl rfl ?_ | refine Z8v rfl (st_q rfl rfl rfl ?_) | refine Z92 rfl Z8z rfl rfl ?_ | refine Z8v rfl (Z92 rfl Z8z rfl rfl ?_) | refine Zby rfl rfl ?_ | refine Z8v rfl (Zby rfl rfl ?_) | refine Z8w rfl ?_ | refine Z8x rfl ?_ | (refine Z8y ?_; (repeat (first | refine Z9v rfl ?_ | refine Z9w ?_)); refine Z9u ?_) | refine awp_seq ?_ | refine Zbm (fun _ _ => rfl) ?_ | refine Z8h ?_ | refine Zbn (fun _ _ => rfl) ?_ | refine Zbo (fun _ _ => rfl) ?_ | refine Z8f (t := true) rfl (fun _ => ?_) (fun e => by cases e) | refine Z8f (t := false) rfl (fun e => by cases e) (fun _ => ?_)))
      (refine Z8d ?_; exact ares rfl (HSub.refl _) ⟨(by rw [← hXj, if_pos h7]; rfl), rfl⟩)
    · (rw [show decide ((1000 : Int) < ((n' + q : Nat) : Int)) = false from decide_eq_false (by omega)])
      rw [if_neg h7] at hXj
      (repeat (first | refine st_q rfl rfl rfl ?_ | refine Z8v rfl (st_q rfl rfl rfl ?_) | refine Z92 rfl Z8z rfl rfl ?_ | refine Z8v rfl (Z92 rfl Z8z rfl rfl ?_) | refine Zby rfl rfl ?_ | refine Z8v rfl (Zby rfl rfl ?_) | refine Z8w rfl ?_ | refine Z8x rfl ?_ | (refine Z8y ?_; (repeat (first | refine Z9v rfl ?_ | refine Z9w ?_)); refine Z9u ?_) | refine awp_seq ?_ | refine Zbm (fun _ _ => rfl) ?_ | refine Z8h ?_ | refine Zbn (fun _ _ => rfl) ?_ | refine Zbo (fun _ _ => rfl) ?_ | refine Z8f (t := true) rfl (fun _ => ?_) (fun e => by cases e) | refine Z8f (t := false) rfl (fun e => by cases e) (fun _ => ?_)))
      refine Zbp ?_
      (repeat (refine st_q rfl rfl rfl ?_))
      rw [show IntKind.wrap .i64 ((j : Int) + 1) = ((j + 1 : Nat) : Int) by rw [w64 _ (by omega) (by omega)]; omega]
      (refine Z8y ?_; (repeat (first | refine Z9v rfl ?_ | refine Z9w ?_)); refine Z9u ?_)
      exact ⟨_, ks.length - (j + 1), HSub.refl _, ⟨j + 1, n' + q, rfl, rfl, by omega, by omega, hXj, rfl⟩, by omega⟩
  · rw [List.drop_of_length_le (by omega), fewVL] at hXj
    subst hXj
    (repeat (first | refine st_q rfl rfl rfl ?_ | refine Z8v rfl (st_q rfl rfl rfl ?_) | refine Z92 rfl Z8z rfl rfl ?_ | refine Z8v rfl (Z92 rfl Z8z rfl rfl ?_) | refine Zby rfl rfl ?_ | refine Z8v rfl (Zby rfl rfl ?_) | refine Z8w rfl ?_ | refine Z8x rfl ?_ | (refine Z8y ?_; (repeat (first | refine Z9v rfl ?_ | refine Z9w ?_)); refine Z9u ?_) | refine awp_seq ?_ | refine Zbm (fun _ _ => rfl) ?_ | refine Z8h ?_ | refine Zbn (fun _ _ => rfl) ?_ | refine Zbo (fun _ _ => rfl) ?_ | refine Z8f (t := true) rfl (fun _ => ?_) (fun e => by cases e) | refine Z8f (t := false) rfl (fun e => by cases e) (fun _ => ?_)))
    (refine Z8d ?_; exact ares rfl (HSub.refl _) ⟨rfl, rfl⟩)
theorem Z1cg (t : Vl) (σ : Zc) : Z1q Try.prog Zdy [encV t] σ fun r σ' => r = .int .i64 (fewV 1 t : Int) ∧ σ' = σ := by
  have hc := Z1cf t 1 (by omega)
  rw [Zm6] at hc ⊢
  refine Z8t rfl Z1be (Nat.le_of_ble_eq_true rfl) ?_
  refine Z9z ?_
  refine Z9j rfl (Z0.fit_iff.1 rfl) fun b2 hb2 => ?_
  (repeat (refine st_q rfl rfl rfl ?_))
  (refine Z8y ?_; (repeat (first | refine Z9v rfl ?_ | refine Z9w ?_)); refine Z9u ?_)
  refine Zb3 (d := 1) (cs := Zm5 t) rfl ?_
  (repeat (first | refine st_q rfl rfl rfl ?_ | refine Z8v rfl (st_q rfl rfl rfl ?_) | refine Z92 rfl Z8z rfl rfl ?_ | refine Z8v rfl (Z92 rfl Z8z rfl rfl ?_) | refine Zby rfl rfl ?_ | refine Z8v rfl (Zby rfl rfl ?_) | refine Z8w rfl ?_ | refine Z8x rfl ?_ | (refine Z8y ?_; (repeat (first | refine Z9v rfl ?_ | refine Z9w ?_)); refine Z9u ?_) | refine awp_seq ?_ | refine Zbm (fun _ _ => rfl) ?_ | refine Z8h ?_ | refine Zbn (fun _ _ => rfl) ?_ | refine Zbo (fun _ _ => rfl) ?_ | refine Z8f (t := true) rfl (fun _ => ?_) (fun e => by cases e) | refine Z8f (t := false) rfl (fun e => by cases e) (fun _ => ?_)))
  (first | refine Z9t rfl (hc _) ?_ | refine Z8v rfl (Z9t rfl (hc _) ?_) | refine Zbw rfl hc ?_ | refine Z8v rfl (Zbw rfl hc ?_))
  (repeat (first | refine st_q rfl rfl rfl ?_ | refine Z8v rfl (st_q rfl rfl rfl ?_) | refine Z92 rfl Z8z rfl rfl ?_ | refine Z8v rfl (Z92 rfl Z8z rfl rfl ?_) | refine Zby rfl rfl ?_ | refine Z8v rfl (Zby rfl rfl ?_) | refine Z8w rfl ?_ | refine Z8x rfl ?_ | (refine Z8y ?_; (repeat (first | refine Z9v rfl ?_ | refine Z9w ?_)); refine Z9u ?_) | refine awp_seq ?_ | refine Zbm (fun _ _ => rfl) ?_ | refine Z8h ?_ | refine Zbn (fun _ _ => rfl) ?_ | refine Zbo (fun _ _ => rfl) ?_ | refine Z8f (t := true) rfl (fun _ => ?_) (fun e => by cases e) | refine Z8f (t := false) rfl (fun e => by cases e) (fun _ => ?_)))
  (refine Z8d ?_; exact ares rfl (HSub.refl _) ⟨rfl, rfl⟩)
theorem Z1ch (t : Vl) (σ : Zc) : Z1q Try.prog Zed [encV t] σ fun r σ' => r = .bool (decide (fewV 1 t ≤ 400)) ∧ σ' = σ := by
  have hc := Z1cg t
  rw [Zm6] at hc ⊢
  refine Z8t rfl Z1bf (Nat.le_of_ble_eq_true rfl) ?_
  refine Z9z ?_
  refine Z9j rfl (Z0.fit_iff.1 rfl) fun b2 hb2 => ?_
  (repeat (refine st_q rfl rfl rfl ?_))
  (refine Z8y ?_; (repeat (first | refine Z9v rfl ?_ | refine Z9w ?_)); refine Z9u ?_)
  refine Zb3 (d := 1) (cs := Zm5 t) rfl ?_
  (repeat (first | refine st_q rfl rfl rfl ?_ | refine Z8v rfl (st_q rfl rfl rfl ?_) | refine Z92 rfl Z8z rfl rfl ?_ | refine Z8v rfl (Z92 rfl Z8z rfl rfl ?_) | refine Zby rfl rfl ?_ | refine Z8v rfl (Zby rfl rfl ?_) | refine Z8w rfl ?_ | refine Z8x rfl ?_ | (refine Z8y ?_; (repeat (first | refine Z9v rfl ?_ | refine Z9w ?_)); refine Z9u ?_) | refine awp_seq ?_ | refine Zbm (fun _ _ => rfl) ?_ | refine Z8h ?_ | refine Zbn (fun _ _ => rfl) ?_ | refine Zbo (fun _ _ => rfl) ?_ | refine Z8f (t := true) rfl (fun _ => ?_) (fun e => by cases e) | refine Z8f (t := false) rfl (fun e => by cases e) (fun _ => ?_)))
  (first | refine Z9t rfl (hc _) ?_ | refine Z8v rfl (Z9t rfl (hc _) ?_) | refine Zbw rfl hc ?_ | refine Z8v rfl (Zbw rfl hc ?_))
  (repeat (first | refine st_q rfl rfl rfl ?_ | refine Z8v rfl (st_q rfl rfl rfl ?_) | refine Z92 rfl Z8z rfl rfl ?_ | refine Z8v rfl (Z92 rfl Z8z rfl rfl ?_) | refine Zby rfl rfl ?_ | refine Z8v rfl (Zby rfl rfl ?_) | refine Z8w rfl ?_ | refine Z8x rfl ?_ | (refine Z8y ?_; (repeat (first | refine Z9v rfl ?_ | refine Z9w ?_)); refine Z9u ?_) | refine awp_seq ?_ | refine Zbm (fun _ _ => rfl) ?_ | refine Z8h ?_ | refine Zbn (fun _ _ => rfl) ?_ | refine Zbo (fun _ _ => rfl) ?_ | refine Z8f (t := true) rfl (fun _ => ?_) (fun e => by cases e) | refine Z8f (t := false) rfl (fun e => by cases e) (fun _ => ?_)))
  refine Z8d ?_
  refine ares rfl (HSub.refl _) ⟨?_, rfl⟩
  simp only [Z8m, Z0.bool.injEq, decide_eq_decide]
  omega
def few15 (t : Ty) (rows : List Vl) : Bool := decide (fewT 1 t ≤ 150) && (decide (rows.length ≤ 200) && fewR 0 rows)
theorem Z1ci (t : Ty) (rows : List Vl) (f : Bool) (σ : Zc) : Z1q Try.prog Zco [encT t, .slc 5 (Zm4 rows) f] σ fun r σ' => r = .bool (few15 t rows) ∧ σ' = σ := by
  have hc := Z1ce t
  rw [Zlo] at hc ⊢
  refine Z8t rfl Z1b7 (Nat.le_of_ble_eq_true rfl) ?_
  refine Z9z ?_
  refine Z9j rfl (Z0.fit_iff.1 rfl) fun b2 hb2 => ?_
  (repeat (refine st_q rfl rfl rfl ?_))
  (refine Z8y ?_; (repeat (first | refine Z9v rfl ?_ | refine Z9w ?_)); refine Z9u ?_)
  refine Zb3 (d := 2) (cs := Zln t) rfl ?_
  (repeat (first | refine st_q rfl rfl rfl ?_ | refine Z8v rfl (st_q rfl rfl rfl ?_) | refine Z92 rfl Z8z rfl rfl ?_ | refine Z8v rfl (Z92 rfl Z8z rfl rfl ?_) | refine Zby rfl rfl ?_ | refine Z8v rfl (Zby rfl rfl ?_) | refine Z8w rfl ?_ | refine Z8x rfl ?_ | (refine Z8y ?_; (repeat (first | refine Z9v rfl ?_ | refine Z9w ?_)); refine Z9u ?_) | refine awp_seq ?_ | refine Zbm (fun _ _ => rfl) ?_ | refine Z8h ?_ | refine Zbn (fun _ _ => rfl) ?_ | refine Zbo (fun _ _ => rfl) ?_ | refine Z8f (t := true) rfl (fun _ => ?_) (fun e => by cases e) | refine Z8f (t := false) rfl (fun e => by cases e) (fun _ => ?_)))
  (first | refine Z9t rfl (hc _) ?_ | refine Z8v rfl (Z9t rfl (hc _) ?_) | refine Zbw rfl hc ?_ | refine Z8v rfl (Zbw rfl hc ?_))
  unfold few15
  generalize decide (fewT 1 t ≤ 150) = q
  cases q with
  | false =>
    (repeat (first | refine st_q rfl rfl rfl ?_ | refine Z8v rfl (st_q rfl rfl rfl ?_) | refine Z92 rfl Z8z rfl rfl ?_ | refine Z8v rfl (Z92 rfl Z8z rfl rfl ?_) | refine Zby rfl rfl ?_ | refine Z8v rfl (Zby rfl rfl ?_) | refine Z8w rfl ?_ | refine Z8x rfl ?_ | (refine Z8y ?_; (repeat (first | refine Z9v rfl ?_ | refine Z9w ?_)); refine Z9u ?_) | refine awp_seq ?_ | refine Zbm (fun _ _ => rfl) ?_ | refine Z8h ?_ | refine Zbn (fun _ _ => rfl) ?_ | refine Zbo (fun _ _ => rfl) ?_ | refine Z8f (t := true) rfl (fun _ => ?_) (fun e => by cases e) | refine Z8f (t := false) rfl (fun e => by cases e) (fun _ => ?_)))
    (refine Z8d ?_; exact ares rfl (HSub.refl _) ⟨rfl, rfl⟩)
  | true =>
  (repeat (first | refine st_q rfl rfl rfl ?_ | refine Z8v rfl (st_q rfl rfl rfl ?_) | refine Z92 rfl Z8z rfl rfl ?_ | refine Z8v rfl (Z92 rfl Z8z rfl rfl ?_) | refine Zby rfl rfl ?_ | refine Z8v rfl (Zby rfl rfl ?_) | refine Z8w rfl ?_ | refine Z8x rfl ?_ | (refine Z8y ?_; (repeat (first | refine Z9v rfl ?_ | refine Z9w ?_)); refine Z9u ?_) | refine awp_seq ?_ | refine Zbm (fun _ _ => rfl) ?_ | refine Z8h ?_ | refine Zbn (fun _ _ => rfl) ?_ | refine Zbo (fun _ _ => rfl) ?_ | refine Z8f (t := true) rfl (fun _ => ?_) (fun e => by cases e) | refine Z8f (t := false) rfl (fun e => by cases e) (fun _ => ?_)))
  rw [Zm8]
  by_cases h1 : 200 < rows.length
  · (rw [show decide ((200 : Int) < (rows.length : Int)) = true from decide_eq_true (by omega)])
    (repeat (first | refine st_q rfl rfl rfl ?_ | refine Z8v rfl (st_q rfl rfl rfl ?_) | refine Z92 rfl Z8z rfl rfl ?_ | refine Z8v rfl (Z92 rfl Z8z rfl rfl ?_) | refine Zby rfl rfl ?_ | refine Z8v rfl (Zby rfl rfl ?_) | refine Z8w rfl ?_ | refine Z8x rfl ?_ | (refine Z8y ?_; (repeat (first | refine Z9v rfl ?_ | refine Z9w ?_)); refine Z9u ?_) | refine awp_seq ?_ | refine Zbm (fun _ _ => rfl) ?_ | refine Z8h ?_ | refine Zbn (fun _ _ => rfl) ?_ | refine Zbo (fun _ _ => rfl) ?_ | refine Z8f (t := true) rfl (fun _ => ?_) (fun e => by cases e) | refine Z8f (t := false) rfl (fun e => by cases e) (fun _ => ?_)))
    (refine Z8d ?_; exact ares rfl (HSub.refl _) ⟨(by rw [show decide (rows.length ≤ 200) = false from decide_eq_false (by omega)]; rfl), rfl⟩)
  (rw [show decide ((200 : Int) < (rows.length : Int)) = false from decide_eq_false (by omega)])
  rw [show decide (rows.length ≤ 200) = true from decide_eq_true (by omega), Bool.true_and, Bool.true_and]
  generalize hX : fewR 0 rows = X
  (repeat (first | refine st_q rfl rfl rfl ?_ | refine Z8v rfl (st_q rfl rfl rfl ?_) | refine Z92 rfl Z8z rfl rfl ?_ | refine Z8v rfl (Z92 rfl Z8z rfl rfl ?_) | refine Zby rfl rfl ?_ | refine Z8v rfl (Zby rfl rfl ?_) | refine Z8w rfl ?_ | refine Z8x rfl ?_ | (refine Z8y ?_; (repeat (first | refine Z9v rfl ?_ | refine Z9w ?_)); refine Z9u ?_) | refine awp_seq ?_ | refine Zbm (fun _ _ => rfl) ?_ | refine Z8h ?_ | refine Zbn (fun _ _ => rfl) ?_ | refine Zbo (fun _ _ => rfl) ?_ | refine Z8f (t := true) rfl (fun _ => ?_) (fun e => by cases e) | refine Z8f (t := false) rfl (fun e => by cases e) (fun _ => ?_)))
  refine Zaa (fun m F σ' => ∃ (j n' : Nat), F = fset 1 (some (.slc 5 (Zm4 rows) f)) (fset 5 (some (.int .i64 (n' : Int))) (fset 6 (some (.int .i64 (j : Int))) Z27)) ∧
    σ = σ' ∧ j ≤ rows.length ∧ n' ≤ 1000 ∧ fewR n' (rows.drop j) = X ∧ m = rows.length - j) (n := rows.length) ⟨0, 0, rfl, rfl, by omega, by omega, hX, rfl⟩ ?_
  rintro m F σ' ⟨j, n', rfl, rfl, hj, hn, hXj, rfl⟩
  (repeat (first | refine st_q rfl rfl rfl ?_ | refine Z8v rfl (st_q rfl rfl rfl ?_) | refine Z92 rfl Z8z rfl rfl ?_ | refine Z8v rfl (Z92 rfl Z8z rfl rfl ?_) | refine Zby rfl rfl ?_ | refine Z8v rfl (Zby rfl rfl ?_) | refine Z8w rfl ?_ | refine Z8x rfl ?_ | (refine Z8y ?_; (repeat (first | refine Z9v rfl ?_ | refine Z9w ?_)); refine Z9u ?_) | refine awp_seq ?_ | refine Zbm (fun _ _ => rfl) ?_ | refine Z8h ?_ | refine Zbn (fun _ _ => rfl) ?_ | refine Zbo (fun _ _ => rfl) ?_ | refine Z8f (t := true) rfl (fun _ => ?_) (fun e => by cases e) | refine Z8f (t := false) rfl (fun e => by cases e) (fun _ => ?_)))
  rw [Zm8]
  refine Za3 (p := (j : Int) < (rows.length : Int)) rfl (fun h5 => ?_) (fun h5 => ?_)
  · have hjl : j < rows.length := by omega
    have h1 : (Zm4 rows)[((j : Nat) : Int).toNat]? = some (.agg (Zm5 rows[j])) := by rw [← Zm6]; exact Zm9 (by rw [Int.toNat_natCast, List.getElem?_eq_getElem hjl])
    have hc := Z1cg rows[j]
    rw [Zm6] at hc
    have hle := Z1c9 rows[j] 1
    rw [List.drop_eq_getElem_cons hjl, fewR] at hXj
    generalize fewV 1 rows[j] = q at hc hle hXj
    (repeat (first | refine st_q rfl rfl rfl ?_ | refine Z8v rfl (st_q rfl rfl rfl ?_) | refine Z92 rfl Z8z rfl rfl ?_ | refine Z8v rfl (Z92 rfl Z8z rfl rfl ?_) | refine Zby rfl rfl ?_ | refine Z8v rfl (Zby rfl rfl ?_) | refine Z8w rfl ?_ | refine Z8x rfl ?_ | (refine Z8y ?_; (repeat (first | refine Z9v rfl ?_ | refine Z9w ?_)); refine Z9u ?_) | refine awp_seq ?_ | refine Zbm (fun _ _ => rfl) ?_ | refine Z8h ?_ | refine Zbn (fun _ _ => rfl) ?_ | refine Zbo (fun _ _ => rfl) ?_ | refine Z8f (t := true) rfl (fun _ => ?_) (fun e => by cases e) | refine Z8f (t := false) rfl (fun e => by cases e) (fun _ => ?_)))
    refine Z93 rfl (by omega) h1 ?_
    (repeat (first | refine st_q rfl rfl rfl ?_ | refine Z8v rfl (st_q rfl rfl rfl ?_) | refine Z92 rfl Z8z rfl rfl ?_ | refine Z8v rfl (Z92 rfl Z8z rfl rfl ?_) | refine Zby rfl rfl ?_ | refine Z8v rfl (Zby rfl rfl ?_) | refine Z8w rfl ?_ | refine Z8x rfl ?_ | (refine Z8y ?_; (repeat (first | refine Z9v rfl ?_ | refine Z9w ?_)); refine Z9u ?_) | refine awp_seq ?_ | refine Zbm (fun _ _ => rfl) ?_ | refine Z8h ?_ | refine Zbn (fun _ _ => rfl) ?_ | refine Zbo (fun _ _ => rfl) ?_ | refine Z8f (t := true) rfl (fun _ => ?_) (fun e => by cases e) | refine Z8f (t := false) rfl (fun e => by cases e) (fun _ => ?_)))
    (first | refine Z9t rfl (hc _) ?_ | refine Z8v rfl (Z9t rfl (hc _) ?_) | refine Zbw rfl hc ?_ | refine Z8v rfl (Zbw rfl hc ?_))
    (repeat (first | refine st_q rfl rfl rfl ?_ | refine Z8v rfl (st_q rfl rfl rfl ?_) | refine Z92 rfl Z8z rfl rfl ?_ | refine Z8v rfl (Z92 rfl Z8z rfl rfl ?_) | refine Zby rfl rfl ?_ | refine Z8v rfl (Zby rfl rfl ?_) | refine Z8w rfl ?_ | refine Z8x rfl ?_ | (refine Z8y ?_; (repeat (first | refine Z9v rfl ?_ | refine Z9w ?_)); refine Z9u ?_) | refine awp_seq ?_ | refine Zbm (fun _ _ => rfl) ?_ | refine Z8h ?_ | refine Zbn (fun _ _ => rfl) ?_ | refine Zbo (fun _ _ => rfl) ?_ | refine Z8f (t := true) rfl (fun _ => ?_) (fun e => by cases e) | refine Z8f (t := false) rfl (fun e => by cases e) (fun _ => ?_)))
    rw [show IntKind.wrap .i64 ((n' : Int) + (q : Int)) = ((n' + q : Nat) : Int) by rw [w64 _ (by omega) (by omega)]; omega]
    by_cases h7 : 1000 < n' + q
    · (rw [show decide ((1000 : Int) < ((n' + q : Nat) : Int)) = true from decide_eq_true (by omega)])
      (repeat (first | refine st_q rfl rfl rfl ?_ | refine Z8v rfl (st_q rfl rfl rfl ?_) | refine Z92 rfl Z8z rfl rfl ?_ | refine Z8v rfl (Z92 rfl Z8z rfl rfl ?_) | refine Zby rfl rfl ?_ | refine Z8v rfl (Zby rfl rfl ?_) | refine Z8w rfl ?_ | refine Z8x rfl ?_ | (refine Z8y ?_; (repeat (first | refine Z9v rfl ?_ | refine Z9w ?_)); refine Z9u ?_) | refine awp_seq ?_ | refine Zbm (fun _ _ => rfl) ?_ | refine Z8h ?_ | refine Zbn (fun _ _ => rfl) ?_ | refine Zbo (fun _ _ => rfl) ?_ | refine Z8f (t := true) rfl (fun _ => ?_) (fun e => by cases e) | refine Z8f (t := false) rfl (fun e => by cases e) (fun _ => ?_)))
      (refine Z8d ?_; exact ares rfl (HSub.refl _) ⟨(by rw [← hXj, if_pos h7]; rfl), rfl⟩)
    · (rw [show decide ((1000 : Int) < ((n' + q : Nat) : Int)) = false from decide_eq_false (by omega)])
      rw [if_neg h7] at hXj
      (repeat (first | refine st_q rfl rfl rfl ?_ | refine Z8v rfl (st_q rfl rfl rfl ?_) | refine Z92 rfl Z8z rfl rfl ?_ | refine Z8v rfl (Z92 rfl Z8z rfl rfl ?_) | refine Zby rfl rfl ?_ | refine Z8v rfl (Zby rfl rfl ?_) | refine Z8w rfl ?_ | refine Z8x rfl ?_ | (refine Z8y ?_; (repeat (first | refine Z9v rfl ?_ | refine Z9w ?_)); refine Z9u ?_) | refine awp_seq ?_ | refine Zbm (fun _ _ => rfl) ?_ | refine Z8h ?_ | refine Zbn (fun _ _ => rfl) ?_ | refine Zbo (fun _ _ => rfl) ?_ | refine Z8f (t := true) rfl (fun _ => ?_) (fun e => by cases e) | refine Z8f (t := false) rfl (fun e => by cases e) (fun _ => ?_)))
      refine Zbp ?_
      (repeat (refine st_q rfl rfl rfl ?_))
      rw [show IntKind.wrap .i64 ((j : Int) + 1) = ((j + 1 : Nat) : Int) by rw [w64 _ (by omega) (by omega)]; omega]
      (refine Z8y ?_; (repeat (first | refine Z9v rfl ?_ | refine Z9w ?_)); refine Z9u ?_)
      exact ⟨_, rows.length - (j + 1), HSub.refl _, ⟨j + 1, n' + q, rfl, rfl, by omega, by omega, hXj, rfl⟩, by omega⟩
  · rw [List.drop_of_length_le (by omega), fewR] at hXj
    subst hXj
    (repeat (first | refine st_q rfl rfl rfl ?_ | refine Z8v rfl (st_q rfl rfl rfl ?_) | refine Z92 rfl Z8z rfl rfl ?_ | refine Z8v rfl (Z92 rfl Z8z rfl rfl ?_) | refine Zby rfl rfl ?_ | refine Z8v rfl (Zby rfl rfl ?_) | refine Z8w rfl ?_ | refine Z8x rfl ?_ | (refine Z8y ?_; (repeat (first | refine Z9v rfl ?_ | refine Z9w ?_)); refine Z9u ?_) | refine awp_seq ?_ | refine Zbm (fun _ _ => rfl) ?_ | refine Z8h ?_ | refine Zbn (fun _ _ => rfl) ?_ | refine Zbo (fun _ _ => rfl) ?_ | refine Z8f (t := true) rfl (fun _ => ?_) (fun e => by cases e) | refine Z8f (t := false) rfl (fun e => by cases e) (fun _ => ?_)))
    (refine Z8d ?_; exact ares rfl (HSub.refl _) ⟨rfl, rfl⟩)
end Go.Abs
namespace Go.Abs
open Go Go.Proofs
set_option linter.unusedVariables false
set_option linter.unusedSimpArgs false
set_option maxHeartbeats 4000000
attribute [local irreducible] AWp aops KP
theorem HSub.of_eq {σ τ : Zc} (h : σ = τ) : HSub τ σ := h ▸ HSub.refl _
theorem Z1cj (s : Stt) (A : Int) (hs : -9223372036854775808 ≤ s.sum ∧ s.sum ≤ 9223372036854775807) : -9223372036854775808 ≤ (Zyo s A).sum ∧ (Zyo s A).sum ≤ 9223372036854775807 := by
  unfold Zyo addF
  split
  · simp only
    split
    · assumption
    · simp
  · exact hs
theorem Z1ck {c : Z2b} {R R' : Z87} (hR : ∀ F σ, R .normal F σ = AWp Try.prog Z1b6.n c R' F σ) (s : Stt) (A : Int) (hs : -9223372036854775808 ≤ s.sum ∧ s.sum ≤ 9223372036854775807) (hA : -9223372036854775808 ≤ A ∧ A ≤ 9223372036854775807)
    (T C : Z0) (j i b4 b5 : Nat) (z : Zb) (σ : Zc)
    (h : AWp Try.prog Z1b6.n c R' (fset 2 (some T) (fset 3 (some C) (fset 4 (some (.ptr b4 0 0)) (fset 5 (some (.ptr b5 0 0)) (fset 6 (some (.int .i64 (j : Int))) (fset 7 (some (.int .i64 (i : Int))) Z27)))))) ((b5, .cells 15 [encS (Zyo s A)]) :: (b4, z) :: σ)) :
    AWp Try.prog Z1b6.n (((Z1b4.snd 1).fst.body).snd 7) R (fset 2 (some T) (fset 3 (some C) (fset 4 (some (.ptr b4 0 0)) (fset 5 (some (.ptr b5 0 0)) (fset 6 (some (.int .i64 (j : Int))) (fset 7 (some (.int .i64 (i : Int))) (fset 9 (some (.int .i64 A)) Z27))))))) ((b5, .cells 15 [encS s]) :: (b4, z) :: σ) := by
  obtain ⟨cnt, nul, has, mi, ma, su, sm⟩ := s
  refine awp_seq ?_
  refine Zbm (fun _ _ => rfl) ?_
  (repeat (refine st_q rfl rfl rfl ?_))
  refine Z92 rfl Z8z rfl rfl ?_
  (refine Z8y ?_; (repeat (first | refine Z9v rfl ?_ | refine Z9w ?_)); refine Z9u ?_)
  cases su with
  | false =>
    refine Z8f (t := false) rfl (fun e => by cases e) (fun _ => ?_)
    refine Zbn hR ?_
    (refine Z9y (keep := [2, 3, 4, 5, 6, 7]) ?_; ((repeat (first | refine Z9v rfl ?_ | refine Z9w ?_)); refine Z9u ?_))
    exact h
  | true =>
    refine Z8f (t := true) rfl (fun _ => ?_) (fun e => by cases e)
    refine Zbm hR ?_
    (repeat (refine st_q rfl rfl rfl ?_))
    refine Z92 rfl Z8z rfl rfl ?_
    (repeat (refine st_q rfl rfl rfl ?_))
    (first | refine Z9t rfl ((Zym sm A hs hA) _) ?_ | refine Z8v rfl (Z9t rfl ((Zym sm A hs hA) _) ?_) | refine Zbw rfl (Zym sm A hs hA) ?_ | refine Z8v rfl (Zbw rfl (Zym sm A hs hA) ?_))
    (repeat (refine st_q rfl rfl rfl ?_))
    (first | refine Z9a rfl Z8z rfl (by decide) (Z0.fit_iff.1 rfl) (fun h => by cases h) Z9b ?_ | refine Z8v rfl (Z9a rfl Z8z rfl (by decide) (Z0.fit_iff.1 rfl) (fun h => by cases h) Z9b ?_))
    (repeat (refine st_q rfl rfl rfl ?_))
    (first | refine Z9a rfl Z8z rfl (by decide) (Z0.fit_iff.1 rfl) (fun h => by cases h) Z9b ?_ | refine Z8v rfl (Z9a rfl Z8z rfl (by decide) (Z0.fit_iff.1 rfl) (fun h => by cases h) Z9b ?_))
    (refine Z8y ?_; (repeat (first | refine Z9v rfl ?_ | refine Z9w ?_)); refine Z9u ?_)
    exact h
theorem Z1cl {c : Z2b} {R R' : Z87} (hR : ∀ F σ, R .normal F σ = AWp Try.prog Z1b6.n c R' F σ) (s : Stt) (V : Vl) (A k : Int) (t1 t2 t3 t4 t5 : Z0) (ht1 : ∀ c ∈ [Z0.int .i64 k, t1, t2, t3, t4, t5], c.one = true)
    (hs : -9223372036854775808 ≤ s.sum ∧ s.sum ≤ 9223372036854775807) (hA : -9223372036854775808 ≤ A ∧ A ≤ 9223372036854775807) (hcnt : 0 ≤ s.count ∧ s.count ≤ 4000000000000000000) (C : Z0) (j i b4 b5 : Nat) (hj : j ≤ 4000000000000000000) (z : Zb) (σ : Zc)
    (h : AWp Try.prog Z1b6.n c R' (fset 2 (some (.iptr [.int .i64 k, t1, t2, t3, t4, t5])) (fset 3 (some C) (fset 4 (some (.ptr b4 0 0)) (fset 5 (some (.ptr b5 0 0)) (fset 6 (some (.int .i64 ((j + 1 : Nat) : Int))) (fset 7 (some (.int .i64 (i : Int))) Z27)))))) ((b5, .cells 15 [encS (stepR k V A s)]) :: (b4, z) :: σ)) :
    AWp Try.prog Z1b6.n (((Z1b4.snd 1).fst.body).snd 4) R (fset 2 (some (.iptr [.int .i64 k, t1, t2, t3, t4, t5])) (fset 3 (some C) (fset 4 (some (.ptr b4 0 0)) (fset 5 (some (.ptr b5 0 0)) (fset 6 (some (.int .i64 (j : Int))) (fset 7 (some (.int .i64 (i : Int))) (fset 8 (some (.iptr (Zm5 V))) (fset 9 (some (.int .i64 A)) Z27)))))))) ((b5, .cells 15 [encS s]) :: (b4, z) :: σ) := by
  obtain ⟨cnt, nul, has, mi, ma, su, sm⟩ := s
  have hcnt' : 0 ≤ cnt ∧ cnt ≤ 4000000000000000000 := hcnt
  have hs' : -9223372036854775808 ≤ sm ∧ sm ≤ 9223372036854775807 := hs
  have hc1 := Z165 [.int .i64 k, t1, t2, t3, t4, t5] k rfl rfl ht1 V mi
  have hc2 := Z165 [.int .i64 k, t1, t2, t3, t4, t5] k rfl rfl ht1 V ma
  simp only [Zm6] at hc1 hc2
  refine awp_seq ?_
  refine Zbm (fun _ _ => rfl) ?_
  (repeat (refine st_q rfl rfl rfl ?_))
  rw [show IntKind.wrap .i64 ((j : Int) + 1) = ((j + 1 : Nat) : Int) by rw [w64 _ (by omega) (by omega)]; omega]
  (refine Z8y ?_; (repeat (first | refine Z9v rfl ?_ | refine Z9w ?_)); refine Z9u ?_)
  refine awp_seq ?_
  refine Zbm (fun _ _ => rfl) ?_
  (repeat (refine st_q rfl rfl rfl ?_))
  refine Z92 rfl Z8z rfl rfl ?_
  (repeat (refine st_q rfl rfl rfl ?_))
  (first | refine Z9a rfl Z8z rfl (by decide) (Z0.fit_iff.1 rfl) (fun h => by cases h) Z9b ?_ | refine Z8v rfl (Z9a rfl Z8z rfl (by decide) (Z0.fit_iff.1 rfl) (fun h => by cases h) Z9b ?_))
  (refine Z8y ?_; (repeat (first | refine Z9v rfl ?_ | refine Z9w ?_)); refine Z9u ?_)
  refine Z8a (FSub.refl _) (τ := (b5, .cells 15 [encS ⟨cnt + 1, nul, has, mi, ma, su, sm⟩]) :: (b4, z) :: σ) (HSub.of_eq (by
    show (b5, Zb.cells 15 [encS ⟨IntKind.wrap .i64 (cnt + 1), nul, has, mi, ma, su, sm⟩]) :: (b4, z) :: σ = _
    rw [w64 _ (by omega) (by omega)])) ?_
  refine awp_seq ?_
  refine awp_seq ?_
  refine Zbm (fun _ _ => rfl) ?_
  (repeat (refine st_q rfl rfl rfl ?_))
  refine Z9t rfl (Z167 k _) ?_
  (refine Z8y ?_; (repeat (first | refine Z9v rfl ?_ | refine Z9w ?_)); refine Z9u ?_)
  cases hr : Zyi k with
  | false =>
    have e : stepR k V A ⟨cnt, nul, has, mi, ma, su, sm⟩ = Zyo ⟨cnt + 1, nul, has, mi, ma, su, sm⟩ A := by simp [stepR, Zyz, hr]
    rw [e] at h
    refine Z8f (t := false) rfl (fun e => by cases e) (fun _ => ?_)
    refine Zbn (fun _ _ => rfl) ?_
    (refine Z9y (keep := [2, 3, 4, 5, 6, 7, 9]) ?_; ((repeat (first | refine Z9v rfl ?_ | refine Z9w ?_)); refine Z9u ?_))
    exact Z1ck hR ⟨cnt + 1, nul, has, mi, ma, su, sm⟩ A hs' hA _ _ _ _ _ _ _ _ h
  | true =>
    refine Z8f (t := true) rfl (fun _ => ?_) (fun e => by cases e)
    refine awp_seq ?_
    refine Zbm (fun _ _ => rfl) ?_
    (repeat (refine st_q rfl rfl rfl ?_))
    refine Z92 rfl Z8z rfl rfl ?_
    (first | refine Z9t rfl (hc1 _) ?_ | refine Z8v rfl (Z9t rfl (hc1 _) ?_) | refine Zbw rfl hc1 ?_ | refine Z8v rfl (Zbw rfl hc1 ?_))
    (repeat (refine st_q rfl rfl rfl ?_))
    (refine Z8y ?_; (repeat (first | refine Z9v rfl ?_ | refine Z9w ?_)); refine Z9u ?_)
    refine awp_seq ?_
    refine Zbm (fun _ _ => rfl) ?_
    (repeat (refine st_q rfl rfl rfl ?_))
    refine Z92 rfl Z8z rfl rfl ?_
    (first | refine Z9t rfl (hc2 _) ?_ | refine Z8v rfl (Z9t rfl (hc2 _) ?_) | refine Zbw rfl hc2 ?_ | refine Z8v rfl (Zbw rfl hc2 ?_))
    (repeat (refine st_q rfl rfl rfl ?_))
    (refine Z8y ?_; (repeat (first | refine Z9v rfl ?_ | refine Z9w ?_)); refine Z9u ?_)
    have fin : ∀ (mi' ma' : Vl), stepR k V A ⟨cnt, nul, has, mi, ma, su, sm⟩ = Zyo ⟨cnt + 1, nul, true, mi', ma', su, sm⟩ A → AWp Try.prog Z1b6.n (.region Z1b0 [2, 3, 4, 5, 6, 7, 9]) (Z8e Try.prog Z1b6.n (((Z1b4.snd 1).fst.body).snd 7) R)
        (fset 2 (some (.iptr [.int .i64 k, t1, t2, t3, t4, t5])) (fset 3 (some C) (fset 4 (some (.ptr b4 0 0)) (fset 5 (some (.ptr b5 0 0)) (fset 6 (some (.int .i64 ((j + 1 : Nat) : Int))) (fset 7 (some (.int .i64 (i : Int))) (fset 9 (some (.int .i64 A)) Z27))))))) ((b5, .cells 15 [encS ⟨cnt + 1, nul, has, mi', ma', su, sm⟩]) :: (b4, z) :: σ) := by
      intro mi' ma' e
      rw [e] at h
      refine Zbm (fun _ _ => rfl) ?_
      (repeat (refine st_q rfl rfl rfl ?_))
      (first | refine Z9a rfl Z8z rfl (by decide) (Z0.fit_iff.1 rfl) (fun h => by cases h) Z9b ?_ | refine Z8v rfl (Z9a rfl Z8z rfl (by decide) (Z0.fit_iff.1 rfl) (fun h => by cases h) Z9b ?_))
      (refine Z8y ?_; (repeat (first | refine Z9v rfl ?_ | refine Z9w ?_)); refine Z9u ?_)
      exact Z1ck hR ⟨cnt + 1, nul, true, mi', ma', su, sm⟩ A hs' hA _ _ _ _ _ _ _ _ h
    have second : ∀ (mi' : Vl), (∀ ma', (ma' = if has = false ∨ 0 < (cmpV k V ma).1 then V else ma) → stepR k V A ⟨cnt, nul, has, mi, ma, su, sm⟩ = Zyo ⟨cnt + 1, nul, true, mi', ma', su, sm⟩ A) →
        AWp Try.prog Z1b6.n (.seq (.seq (.region Z1ay [2, 3, 4, 5, 6, 7, 8, 9, 108]) (.cond (.t 108) (.region Z1az [2, 3, 4, 5, 6, 7, 9]) .skip)) (.region Z1b0 [2, 3, 4, 5, 6, 7, 9])) (Z8e Try.prog Z1b6.n (((Z1b4.snd 1).fst.body).snd 7) R)
        (fset 2 (some (.iptr [.int .i64 k, t1, t2, t3, t4, t5])) (fset 3 (some C) (fset 4 (some (.ptr b4 0 0)) (fset 5 (some (.ptr b5 0 0)) (fset 6 (some (.int .i64 ((j + 1 : Nat) : Int))) (fset 7 (some (.int .i64 (i : Int))) (fset 8 (some (.iptr (Zm5 V))) (fset 9 (some (.int .i64 A)) (fset 12 (some (.int .i64 (cmpV k V ma).1)) Z27))))))))) ((b5, .cells 15 [encS ⟨cnt + 1, nul, has, mi', ma, su, sm⟩]) :: (b4, z) :: σ) := by
      intro mi' hm
      refine awp_seq ?_
      refine awp_seq ?_
      refine Zbm (fun _ _ => rfl) ?_
      (repeat (refine st_q rfl rfl rfl ?_))
      refine Z92 rfl Z8z rfl rfl ?_
      cases has with
      | false =>
        (repeat (first | refine st_q rfl rfl rfl ?_ | refine Z8v rfl (st_q rfl rfl rfl ?_) | refine Z8w rfl ?_ | refine Z8x rfl ?_))
        (refine Z8y ?_; (repeat (first | refine Z9v rfl ?_ | refine Z9w ?_)); refine Z9u ?_)
        refine Z8f (t := true) rfl (fun _ => ?_) (fun e => by cases e)
        refine Zbm (fun _ _ => rfl) ?_
        (repeat (refine st_q rfl rfl rfl ?_))
        (first | refine Z9a rfl Z8z rfl (by decide) (Z0.fit_iff.1 rfl) (fun h => by cases h) Z9b ?_ | refine Z8v rfl (Z9a rfl Z8z rfl (by decide) (Z0.fit_iff.1 rfl) (fun h => by cases h) Z9b ?_))
        (refine Z8y ?_; (repeat (first | refine Z9v rfl ?_ | refine Z9w ?_)); refine Z9u ?_)
        exact fin mi' V (hm _ (by simp))
      | true =>
        (repeat (first | refine st_q rfl rfl rfl ?_ | refine Z8v rfl (st_q rfl rfl rfl ?_) | refine Z8w rfl ?_ | refine Z8x rfl ?_))
        (refine Z8y ?_; (repeat (first | refine Z9v rfl ?_ | refine Z9w ?_)); refine Z9u ?_)
        refine Za3 (p := 0 < (cmpV k V ma).1) rfl (fun h1 => ?_) (fun h1 => ?_)
        · refine Zbm (fun _ _ => rfl) ?_
          (repeat (refine st_q rfl rfl rfl ?_))
          (first | refine Z9a rfl Z8z rfl (by decide) (Z0.fit_iff.1 rfl) (fun h => by cases h) Z9b ?_ | refine Z8v rfl (Z9a rfl Z8z rfl (by decide) (Z0.fit_iff.1 rfl) (fun h => by cases h) Z9b ?_))
          (refine Z8y ?_; (repeat (first | refine Z9v rfl ?_ | refine Z9w ?_)); refine Z9u ?_)
          exact fin mi' V (hm _ (by simp [h1]))
        · refine Zbn (fun _ _ => rfl) ?_
          (refine Z9y (keep := [2, 3, 4, 5, 6, 7, 9]) ?_; ((repeat (first | refine Z9v rfl ?_ | refine Z9w ?_)); refine Z9u ?_))
          exact fin mi' ma (hm _ (by simp [h1]))
    refine awp_seq ?_
    refine awp_seq ?_
    refine Zbm (fun _ _ => rfl) ?_
    (repeat (refine st_q rfl rfl rfl ?_))
    refine Z92 rfl Z8z rfl rfl ?_
    cases has with
    | false =>
      (repeat (first | refine st_q rfl rfl rfl ?_ | refine Z8v rfl (st_q rfl rfl rfl ?_) | refine Z8w rfl ?_ | refine Z8x rfl ?_))
      (refine Z8y ?_; (repeat (first | refine Z9v rfl ?_ | refine Z9w ?_)); refine Z9u ?_)
      refine Z8f (t := true) rfl (fun _ => ?_) (fun e => by cases e)
      refine Zbm (fun _ _ => rfl) ?_
      (repeat (refine st_q rfl rfl rfl ?_))
      (first | refine Z9a rfl Z8z rfl (by decide) (Z0.fit_iff.1 rfl) (fun h => by cases h) Z9b ?_ | refine Z8v rfl (Z9a rfl Z8z rfl (by decide) (Z0.fit_iff.1 rfl) (fun h => by cases h) Z9b ?_))
      (refine Z8y ?_; (repeat (first | refine Z9v rfl ?_ | refine Z9w ?_)); refine Z9u ?_)
      exact second V (fun ma' e => by rw [e]; simp [stepR, Zyz, hr, Zyp])
    | true =>
      (repeat (first | refine st_q rfl rfl rfl ?_ | refine Z8v rfl (st_q rfl rfl rfl ?_) | refine Z8w rfl ?_ | refine Z8x rfl ?_))
      (refine Z8y ?_; (repeat (first | refine Z9v rfl ?_ | refine Z9w ?_)); refine Z9u ?_)
      refine Za3 (p := (cmpV k V mi).1 < 0) rfl (fun h1 => ?_) (fun h1 => ?_)
      · refine Zbm (fun _ _ => rfl) ?_
        (repeat (refine st_q rfl rfl rfl ?_))
        (first | refine Z9a rfl Z8z rfl (by decide) (Z0.fit_iff.1 rfl) (fun h => by cases h) Z9b ?_ | refine Z8v rfl (Z9a rfl Z8z rfl (by decide) (Z0.fit_iff.1 rfl) (fun h => by cases h) Z9b ?_))
        (refine Z8y ?_; (repeat (first | refine Z9v rfl ?_ | refine Z9w ?_)); refine Z9u ?_)
        exact second V (fun ma' e => by rw [e]; simp [stepR, Zyz, hr, Zyp, h1])
      · refine Zbn (fun _ _ => rfl) ?_
        (refine Z9y (keep := [2, 3, 4, 5, 6, 7, 8, 9, 12]) ?_; ((repeat (first | refine Z9v rfl ?_ | refine Z9w ?_)); refine Z9u ?_))
        exact second mi (fun ma' e => by rw [e]; simp [stepR, Zyz, hr, Zyp, h1])
theorem Z1cm (k : Int) (c : Col) (bs : List Bool) (i j : Nat) (s : Stt) (hi : i < bs.length) : Z147 k c (bs.drop i) j s = if bs[i] = true then Z147 k c (bs.drop (i + 1)) (j + 1) (stepR k (getR k c j) (getRA k c j) s) else Z147 k c (bs.drop (i + 1)) j s := by
  rw [List.drop_eq_getElem_cons hi]
  cases bs[i] <;> rfl
theorem Z1cn (k : Int) (V : Vl) (A : Int) (s : Stt) (hs : -9223372036854775808 ≤ s.sum ∧ s.sum ≤ 9223372036854775807) : -9223372036854775808 ≤ (stepR k V A s).sum ∧ (stepR k V A s).sum ≤ 9223372036854775807 := Zz1 k V A { s with count := s.count + 1 } hs
theorem Z1co (k : Int) (V : Vl) (A : Int) (s : Stt) : (stepR k V A s).count = s.count + 1 := Z149 k V A { s with count := s.count + 1 }
theorem Z1cp (t : List Z0) (k : Int) (ht : t.length = 6) (hk : t[0]? = some (.int .i64 k)) (ht1 : ∀ c ∈ t, c.one = true) (C : Col) (hC : C.Fit) (hG : C.Good k) (σ : Zc) :
    Z1q Try.prog Zcw [.agg t, encC C] σ fun r σ' => r = encS (refOf k C) ∧ σ' = σ := by
  match t, ht with
  | [t0, t1, t2, t3, t4, t5], _ =>
  simp only [List.getElem?_cons_zero, Option.some.injEq] at hk
  subst hk
  obtain ⟨hhere, hints, hns, htexts, hlens, hint, htext⟩ := hC
  obtain ⟨g1, g2, g3, g4⟩ := hG
  have hcl : C.here.count true ≤ C.here.length := List.count_le_length
  refine Z8t rfl Z1bh (Nat.le_of_ble_eq_true rfl) ?_
  refine Z9z ?_
  refine Z9j rfl ⟨rfl, ht1⟩ fun b2 hb2 => ?_
  refine Z9j rfl (Z0.fit_iff.1 rfl) fun b3 hb3 => ?_
  refine Z9k (by simp [Z0.cells, Z0.one]) fun b4 hb4 => ?_
  (refine Z8y ?_; (repeat (first | refine Z9v rfl ?_ | refine Z9w ?_)); refine Z9u ?_)
  refine Z8a (FSub.refl _) (HSub.swap _ _ _) ?_
  refine Zb3 (d := 3) (cs := Zys C) rfl ?_
  refine Z8a (FSub.refl _) (HSub.swap _ _ _) ?_
  refine Zb3 (d := 2) (cs := [.int .i64 k, t1, t2, t3, t4, t5]) rfl ?_
  have main : ∀ z : Zb, z = .cells 15 [.agg [.int .i64 0, .bool false, .bool false, .bool false, .int .i64 0, .int .i64 0, .slc 0 [] true, .slc 0 [] true, .bool false, .int .i64 0, .int .i64 0, .slc 0 [] true, .slc 0 [] true, .bool false, .int .i64 0]] →
      AWp Try.prog Z1b6.n (Z1b6.code.snd 1) (ARet Z1b6.res fun r σ' => r = encS (refOf k C) ∧ σ' = σ)
        (fset 2 (some (.iptr [.int .i64 k, t1, t2, t3, t4, t5])) (fset 3 (some (.iptr (Zys C))) (fset 4 (some (.ptr b4 0 0)) Z27))) ((b4, z) :: σ) := by
    intro z hz
    have hHas := Zyy C (by omega)
    refine Z9z ?_
    (repeat (refine st_q rfl rfl rfl ?_))
    (first | refine Z9t rfl (hHas _) ?_ | refine Z8v rfl (Z9t rfl (hHas _) ?_) | refine Zbw rfl hHas ?_ | refine Z8v rfl (Zbw rfl hHas ?_))
    (repeat (refine st_q rfl rfl rfl ?_))
    (first | refine Z9t rfl ((Z166 k) _) ?_ | refine Z8v rfl (Z9t rfl ((Z166 k) _) ?_) | refine Zbw rfl (Z166 k) ?_ | refine Z8v rfl (Zbw rfl (Z166 k) ?_))
    (repeat (refine st_q rfl rfl rfl ?_))
    refine Z9k (by simp [Z0.cells, Z0.one]) fun b5 hb5 => ?_
    (first | refine Z9a rfl Z8z rfl (by decide) (Z0.fit_iff.1 rfl) (fun h => by cases h) Z9b ?_ | refine Z8v rfl (Z9a rfl Z8z rfl (by decide) (Z0.fit_iff.1 rfl) (fun h => by cases h) Z9b ?_))
    (refine Z8y ?_; (repeat (first | refine Z9v rfl ?_ | refine Z9w ?_)); refine Z9u ?_)
    refine Zbx (HShift.view (ys := [encS (of0 k C 0)]) rfl rfl (by (repeat (first | exact VRle.refl _ | exact Zc4 | refine Zc5 rfl rfl ?_ | refine Zc6 rfl ?_ | refine Zc3 ?_ ?_)))) ?_
    generalize hX : refOf k C = X
    unfold refOf at hX
    (repeat (first | refine st_q rfl rfl rfl ?_ | refine Z8v rfl (st_q rfl rfl rfl ?_) | refine Z92 rfl Z8z rfl rfl ?_ | refine Z8v rfl (Z92 rfl Z8z rfl rfl ?_) | refine Zby rfl rfl ?_ | refine Z8v rfl (Zby rfl rfl ?_) | refine Z8w rfl ?_ | refine Z8x rfl ?_ | (refine Z8y ?_; (repeat (first | refine Z9v rfl ?_ | refine Z9w ?_)); refine Z9u ?_) | refine awp_seq ?_ | refine Zbm (fun _ _ => rfl) ?_ | refine Z8h ?_ | refine Zbn (fun _ _ => rfl) ?_ | refine Zbo (fun _ _ => rfl) ?_ | refine Z8f (t := true) rfl (fun _ => ?_) (fun e => by cases e) | refine Z8f (t := false) rfl (fun e => by cases e) (fun _ => ?_)))
    refine Zaa (fun m F σ' => ∃ (i j : Nat) (s : Stt), F = fset 2 (some (.iptr [.int .i64 k, t1, t2, t3, t4, t5])) (fset 3 (some (.iptr (Zys C))) (fset 4 (some (.ptr b4 0 0)) (fset 5 (some (.ptr b5 0 0)) (fset 6 (some (.int .i64 (j : Int))) (fset 7 (some (.int .i64 (i : Int))) Z27))))) ∧
      (b5, Zb.cells 15 [encS s]) :: (b4, z) :: σ = σ' ∧ i ≤ C.here.length ∧ j + (C.here.drop i).count true = C.here.count true ∧ s.count = j ∧ (-9223372036854775808 ≤ s.sum ∧ s.sum ≤ 9223372036854775807) ∧ Z147 k C (C.here.drop i) j s = X ∧ m = C.here.length - i) (n := C.here.length)
      ⟨0, 0, of0 k C 0, rfl, rfl, by omega, by simp, rfl, by simp [of0], by simpa using hX, rfl⟩ ?_
    rintro m F σ' ⟨i, j, s, rfl, rfl, hi, hj, hc, hs, hXi, rfl⟩
    (repeat (first | refine st_q rfl rfl rfl ?_ | refine Z8v rfl (st_q rfl rfl rfl ?_) | refine Z92 rfl Z8z rfl rfl ?_ | refine Z8v rfl (Z92 rfl Z8z rfl rfl ?_) | refine Zby rfl rfl ?_ | refine Z8v rfl (Zby rfl rfl ?_) | refine Z8w rfl ?_ | refine Z8x rfl ?_ | (refine Z8y ?_; (repeat (first | refine Z9v rfl ?_ | refine Z9w ?_)); refine Z9u ?_) | refine awp_seq ?_ | refine Zbm (fun _ _ => rfl) ?_ | refine Z8h ?_ | refine Zbn (fun _ _ => rfl) ?_ | refine Zbo (fun _ _ => rfl) ?_ | refine Z8f (t := true) rfl (fun _ => ?_) (fun e => by cases e) | refine Z8f (t := false) rfl (fun e => by cases e) (fun _ => ?_)))
    rw [List.length_map]
    refine Za3 (p := (i : Int) < (C.here.length : Int)) rfl (fun h5 => ?_) (fun h5 => ?_)
    · have hil : i < C.here.length := by omega
      rw [Z1cm k C _ i j s hil] at hXi
      have hj' := hj
      rw [List.drop_eq_getElem_cons hil, List.count_cons] at hj'
      have hg := Zyu (f := Z0.bool) hil
      generalize C.here[i] = b at hXi hg hj'
      have round : ∀ (j' : Nat) (s' : Stt), j' + (C.here.drop (i + 1)).count true = C.here.count true → s'.count = j' → (-9223372036854775808 ≤ s'.sum ∧ s'.sum ≤ 9223372036854775807) → Z147 k C (C.here.drop (i + 1)) j' s' = X →
          AWp Try.prog Z1b6.n (.region Z1b3 [2, 3, 4, 5, 6, 7]) (Za9 (fun m F σ' => ∃ (i j : Nat) (s : Stt), F = fset 2 (some (.iptr [.int .i64 k, t1, t2, t3, t4, t5])) (fset 3 (some (.iptr (Zys C))) (fset 4 (some (.ptr b4 0 0)) (fset 5 (some (.ptr b5 0 0)) (fset 6 (some (.int .i64 (j : Int))) (fset 7 (some (.int .i64 (i : Int))) Z27))))) ∧
            (b5, Zb.cells 15 [encS s]) :: (b4, z) :: σ = σ' ∧ i ≤ C.here.length ∧ j + (C.here.drop i).count true = C.here.count true ∧ s.count = j ∧ (-9223372036854775808 ≤ s.sum ∧ s.sum ≤ 9223372036854775807) ∧ Z147 k C (C.here.drop i) j s = X ∧ m = C.here.length - i) (C.here.length - i)
            (Z8g 0 (Z8e Try.prog Z1b6.n (Z1b6.code.snd 4) (ARet Z1b6.res fun r σ' => r = encS X ∧ σ' = σ))))
          (fset 2 (some (.iptr [.int .i64 k, t1, t2, t3, t4, t5])) (fset 3 (some (.iptr (Zys C))) (fset 4 (some (.ptr b4 0 0)) (fset 5 (some (.ptr b5 0 0)) (fset 6 (some (.int .i64 (j' : Int))) (fset 7 (some (.int .i64 (i : Int))) Z27)))))) ((b5, .cells 15 [encS s']) :: (b4, z) :: σ) := by
        intro j' s' e1 e2 e3 e4
        refine Zbp ?_
        (repeat (refine st_q rfl rfl rfl ?_))
        rw [show IntKind.wrap .i64 ((i : Int) + 1) = ((i + 1 : Nat) : Int) by rw [w64 _ (by omega) (by omega)]; omega]
        (refine Z8y ?_; (repeat (first | refine Z9v rfl ?_ | refine Z9w ?_)); refine Z9u ?_)
        exact ⟨_, C.here.length - (i + 1), HSub.refl _, ⟨i + 1, j', s', rfl, rfl, by omega, e1, e2, e3, e4, rfl⟩, by omega⟩
      (repeat (first | refine st_q rfl rfl rfl ?_ | refine Z8v rfl (st_q rfl rfl rfl ?_) | refine Z92 rfl Z8z rfl rfl ?_ | refine Z8v rfl (Z92 rfl Z8z rfl rfl ?_) | refine Zby rfl rfl ?_ | refine Z8v rfl (Zby rfl rfl ?_) | refine Z8w rfl ?_ | refine Z8x rfl ?_ | (refine Z8y ?_; (repeat (first | refine Z9v rfl ?_ | refine Z9w ?_)); refine Z9u ?_) | refine awp_seq ?_ | refine Zbm (fun _ _ => rfl) ?_ | refine Z8h ?_ | refine Zbn (fun _ _ => rfl) ?_ | refine Zbo (fun _ _ => rfl) ?_ | refine Z8f (t := true) rfl (fun _ => ?_) (fun e => by cases e) | refine Z8f (t := false) rfl (fun e => by cases e) (fun _ => ?_)))
      refine Z93 rfl (by omega) hg ?_
      cases b with
      | false =>
        (repeat (first | refine st_q rfl rfl rfl ?_ | refine Z8v rfl (st_q rfl rfl rfl ?_) | refine Z92 rfl Z8z rfl rfl ?_ | refine Z8v rfl (Z92 rfl Z8z rfl rfl ?_) | refine Zby rfl rfl ?_ | refine Z8v rfl (Zby rfl rfl ?_) | refine Z8w rfl ?_ | refine Z8x rfl ?_ | (refine Z8y ?_; (repeat (first | refine Z9v rfl ?_ | refine Z9w ?_)); refine Z9u ?_) | refine awp_seq ?_ | refine Zbm (fun _ _ => rfl) ?_ | refine Z8h ?_ | refine Zbn (fun _ _ => rfl) ?_ | refine Zbo (fun _ _ => rfl) ?_ | refine Z8f (t := true) rfl (fun _ => ?_) (fun e => by cases e) | refine Z8f (t := false) rfl (fun e => by cases e) (fun _ => ?_)))
        (refine Z9y (keep := [2, 3, 4, 5, 6, 7]) ?_; ((repeat (first | refine Z9v rfl ?_ | refine Z9w ?_)); refine Z9u ?_))
        exact round j s (by simpa using hj') hc hs (by simpa using hXi)
      | true =>
        simp only [beq_self_eq_true, if_true] at hj' hXi
        (repeat (first | refine st_q rfl rfl rfl ?_ | refine Z8v rfl (st_q rfl rfl rfl ?_) | refine Z92 rfl Z8z rfl rfl ?_ | refine Z8v rfl (Z92 rfl Z8z rfl rfl ?_) | refine Zby rfl rfl ?_ | refine Z8v rfl (Zby rfl rfl ?_) | refine Z8w rfl ?_ | refine Z8x rfl ?_ | (refine Z8y ?_; (repeat (first | refine Z9v rfl ?_ | refine Z9w ?_)); refine Z9u ?_) | refine awp_seq ?_ | refine Zbm (fun _ _ => rfl) ?_ | refine Z8h ?_ | refine Zbn (fun _ _ => rfl) ?_ | refine Zbo (fun _ _ => rfl) ?_ | refine Z8f (t := true) rfl (fun _ => ?_) (fun e => by cases e) | refine Z8f (t := false) rfl (fun e => by cases e) (fun _ => ?_)))
        refine Z9k (by simp [Z0.cells, Z0.one]) fun b8 hb8 => ?_
        (first | refine Z9a rfl Z8z rfl (by decide) (Z0.fit_iff.1 rfl) (fun h => by cases h) Z9b ?_ | refine Z8v rfl (Z9a rfl Z8z rfl (by decide) (Z0.fit_iff.1 rfl) (fun h => by cases h) Z9b ?_))
        (refine Z8y ?_; (repeat (first | refine Z9v rfl ?_ | refine Z9w ?_)); refine Z9u ?_)
        have r := fun (V : Vl) (A : Int) (e1 : getR k C j = V) (e2 : getRA k C j = A) => round (j + 1) (stepR k V A s) (by omega) (by rw [Z1co, hc]; omega) (Z1cn k V A s hs) (by rw [← e1, ← e2]; exact hXi)
        have hjc : j < C.here.count true := by omega
        cases htx : Zma k with
        | true =>
          rw [if_pos htx] at g1
          have hjt : j < C.texts.length := by omega
          have htl := htext _ (List.getElem_mem hjt)
          have hgt := Zyu (f := fun b => Z0.slc 1 (bytes b) false) hjt
          have e1 : getR k C j = .mk false 0 0 C.texts[j] [] := by rw [getR, if_pos htx, List.getD_eq_getElem?_getD, List.getElem?_eq_getElem hjt]; rfl
          have e2 : getRA k C j = (C.texts[j].length : Int) := by rw [getRA, if_pos htx, List.getD_eq_getElem?_getD, List.getElem?_eq_getElem hjt]; rfl
          generalize C.texts[j] = tx at hgt htl e1 e2
          (repeat (first | refine st_q rfl rfl rfl ?_ | refine Z8v rfl (st_q rfl rfl rfl ?_) | refine Z92 rfl Z8z rfl rfl ?_ | refine Z8v rfl (Z92 rfl Z8z rfl rfl ?_) | refine Zby rfl rfl ?_ | refine Z8v rfl (Zby rfl rfl ?_) | refine Z8w rfl ?_ | refine Z8x rfl ?_ | (refine Z8y ?_; (repeat (first | refine Z9v rfl ?_ | refine Z9w ?_)); refine Z9u ?_) | refine awp_seq ?_ | refine Zbm (fun _ _ => rfl) ?_ | refine Z8h ?_ | refine Zbn (fun _ _ => rfl) ?_ | refine Zbo (fun _ _ => rfl) ?_ | refine Z8f (t := true) rfl (fun _ => ?_) (fun e => by cases e) | refine Z8f (t := false) rfl (fun e => by cases e) (fun _ => ?_)))
          (first | refine Z9t rfl ((Ztk k) _) ?_ | refine Z8v rfl (Z9t rfl ((Ztk k) _) ?_) | refine Zbw rfl (Ztk k) ?_ | refine Z8v rfl (Zbw rfl (Ztk k) ?_))
          rw [htx]
          (repeat (first | refine st_q rfl rfl rfl ?_ | refine Z8v rfl (st_q rfl rfl rfl ?_) | refine Z92 rfl Z8z rfl rfl ?_ | refine Z8v rfl (Z92 rfl Z8z rfl rfl ?_) | refine Zby rfl rfl ?_ | refine Z8v rfl (Zby rfl rfl ?_) | refine Z8w rfl ?_ | refine Z8x rfl ?_ | (refine Z8y ?_; (repeat (first | refine Z9v rfl ?_ | refine Z9w ?_)); refine Z9u ?_) | refine awp_seq ?_ | refine Zbm (fun _ _ => rfl) ?_ | refine Z8h ?_ | refine Zbn (fun _ _ => rfl) ?_ | refine Zbo (fun _ _ => rfl) ?_ | refine Z8f (t := true) rfl (fun _ => ?_) (fun e => by cases e) | refine Z8f (t := false) rfl (fun e => by cases e) (fun _ => ?_)))
          refine Z93 rfl (by omega) hgt ?_
          (repeat (first | refine st_q rfl rfl rfl ?_ | refine Z8v rfl (st_q rfl rfl rfl ?_) | refine Z92 rfl Z8z rfl rfl ?_ | refine Z8v rfl (Z92 rfl Z8z rfl rfl ?_) | refine Zby rfl rfl ?_ | refine Z8v rfl (Zby rfl rfl ?_) | refine Z8w rfl ?_ | refine Z8x rfl ?_ | (refine Z8y ?_; (repeat (first | refine Z9v rfl ?_ | refine Z9w ?_)); refine Z9u ?_) | refine awp_seq ?_ | refine Zbm (fun _ _ => rfl) ?_ | refine Z8h ?_ | refine Zbn (fun _ _ => rfl) ?_ | refine Zbo (fun _ _ => rfl) ?_ | refine Z8f (t := true) rfl (fun _ => ?_) (fun e => by cases e) | refine Z8f (t := false) rfl (fun e => by cases e) (fun _ => ?_)))
          (first | refine Z9a rfl Z8z rfl (by decide) (Z0.fit_iff.1 rfl) (fun h => by cases h) Z9b ?_ | refine Z8v rfl (Z9a rfl Z8z rfl (by decide) (Z0.fit_iff.1 rfl) (fun h => by cases h) Z9b ?_))
          (refine Z8y ?_; (repeat (first | refine Z9v rfl ?_ | refine Z9w ?_)); refine Z9u ?_)
          refine Zbm (fun _ _ => rfl) ?_
          (repeat (refine st_q rfl rfl rfl ?_))
          refine Z92 rfl Z8z rfl rfl ?_
          (repeat (refine st_q rfl rfl rfl ?_))
          rw [Zam]
          (refine Z8y ?_; (repeat (first | refine Z9v rfl ?_ | refine Z9w ?_)); refine Z9u ?_)
          refine Zbx (HShift.view (ys := [.agg (Zm5 (.mk false 0 0 tx []))]) rfl rfl (by (repeat (first | exact VRle.refl _ | exact Zc4 | refine Zc5 rfl rfl ?_ | refine Zc6 rfl ?_ | refine Zc3 ?_ ?_)))) ?_
          refine Zb3 (d := 8) (cs := Zm5 (.mk false 0 0 tx [])) rfl ?_
          (refine Z9y (keep := [2, 3, 4, 5, 6, 7, 8, 9]) ?_; ((repeat (first | refine Z9v rfl ?_ | refine Z9w ?_)); refine Z9u ?_))
          exact Z1cl (by intro _ _; rfl) s (.mk false 0 0 tx []) (tx.length : Int) k t1 t2 t3 t4 t5 ht1 hs (by omega) (by omega) _ j i b4 b5 (by omega) z σ (r _ _ e1 e2)
        | false =>
          have hf : ¬ Zma k = true := by simp [htx]
          cases hl : Zls k with
          | false =>
            have e1 : getR k C j = vl0 := by rw [getR, if_neg hf, if_neg (by simp [hl])]
            have e2 : getRA k C j = 0 := by rw [getRA, if_neg hf, if_neg (by simp [hl])]
            (repeat (first | refine st_q rfl rfl rfl ?_ | refine Z8v rfl (st_q rfl rfl rfl ?_) | refine Z92 rfl Z8z rfl rfl ?_ | refine Z8v rfl (Z92 rfl Z8z rfl rfl ?_) | refine Zby rfl rfl ?_ | refine Z8v rfl (Zby rfl rfl ?_) | refine Z8w rfl ?_ | refine Z8x rfl ?_ | (refine Z8y ?_; (repeat (first | refine Z9v rfl ?_ | refine Z9w ?_)); refine Z9u ?_) | refine awp_seq ?_ | refine Zbm (fun _ _ => rfl) ?_ | refine Z8h ?_ | refine Zbn (fun _ _ => rfl) ?_ | refine Zbo (fun _ _ => rfl) ?_ | refine Z8f (t := true) rfl (fun _ => ?_) (fun e => by cases e) | refine Z8f (t := false) rfl (fun e => by cases e) (fun _ => ?_)))
            (first | refine Z9t rfl ((Ztk k) _) ?_ | refine Z8v rfl (Z9t rfl ((Ztk k) _) ?_) | refine Zbw rfl (Ztk k) ?_ | refine Z8v rfl (Zbw rfl (Ztk k) ?_))
            rw [htx]
            (repeat (first | refine st_q rfl rfl rfl ?_ | refine Z8v rfl (st_q rfl rfl rfl ?_) | refine Z92 rfl Z8z rfl rfl ?_ | refine Z8v rfl (Z92 rfl Z8z rfl rfl ?_) | refine Zby rfl rfl ?_ | refine Z8v rfl (Zby rfl rfl ?_) | refine Z8w rfl ?_ | refine Z8x rfl ?_ | (refine Z8y ?_; (repeat (first | refine Z9v rfl ?_ | refine Z9w ?_)); refine Z9u ?_) | refine awp_seq ?_ | refine Zbm (fun _ _ => rfl) ?_ | refine Z8h ?_ | refine Zbn (fun _ _ => rfl) ?_ | refine Zbo (fun _ _ => rfl) ?_ | refine Z8f (t := true) rfl (fun _ => ?_) (fun e => by cases e) | refine Z8f (t := false) rfl (fun e => by cases e) (fun _ => ?_)))
            (first | refine Z9t rfl ((Ztl k) _) ?_ | refine Z8v rfl (Z9t rfl ((Ztl k) _) ?_) | refine Zbw rfl (Ztl k) ?_ | refine Z8v rfl (Zbw rfl (Ztl k) ?_))
            rw [hl]
            (repeat (refine st_q rfl rfl rfl ?_))
            (refine Z8y ?_; (repeat (first | refine Z9v rfl ?_ | refine Z9w ?_)); refine Z9u ?_)
            refine Z8f (t := false) rfl (fun e => by cases e) (fun _ => ?_)
            refine Zbn (fun _ _ => rfl) ?_
            (refine Z9y (keep := [2, 3, 4, 5, 6, 7, 8, 9]) ?_; ((repeat (first | refine Z9v rfl ?_ | refine Z9w ?_)); refine Z9u ?_))
            refine Zbx (HShift.view (ys := [.agg (Zm5 vl0)]) rfl rfl (by (repeat (first | exact VRle.refl _ | exact Zc4 | refine Zc5 rfl rfl ?_ | refine Zc6 rfl ?_ | refine Zc3 ?_ ?_)))) ?_
            refine Zb3 (d := 8) (cs := Zm5 vl0) rfl ?_
            (refine Z9y (keep := [2, 3, 4, 5, 6, 7, 8, 9]) ?_; ((repeat (first | refine Z9v rfl ?_ | refine Z9w ?_)); refine Z9u ?_))
            exact Z1cl (by intro _ _; rfl) s vl0 0 k t1 t2 t3 t4 t5 ht1 hs (by omega) (by omega) _ j i b4 b5 (by omega) z σ (r _ _ e1 e2)
          | true =>
            have hk3 : k ≠ 10 ∧ k ≠ 11 ∧ k ≠ 12 := by
              refine ⟨?_, ?_, ?_⟩ <;> (intro e; subst e; simp [Zls] at hl)
            rw [if_neg (by rw [htx]; simp; omega)] at g2
            have hji : j < C.ints.length := by omega
            have hir := hint _ (List.getElem_mem hji)
            have hgi := Zyu (f := Z0.int .i64) hji
            have e1 : getR k C j = .mk false C.ints[j] (if k = 9 then C.ns.getD j 0 else 0) [] [] := by rw [getR, if_neg hf, if_pos hl, List.getD_eq_getElem?_getD, List.getElem?_eq_getElem hji]; rfl
            have e2 : getRA k C j = C.ints[j] := by rw [getRA, if_neg hf, if_pos hl, List.getD_eq_getElem?_getD, List.getElem?_eq_getElem hji]; rfl
            generalize C.ints[j] = x at hgi hir e1 e2
            (repeat (first | refine st_q rfl rfl rfl ?_ | refine Z8v rfl (st_q rfl rfl rfl ?_) | refine Z92 rfl Z8z rfl rfl ?_ | refine Z8v rfl (Z92 rfl Z8z rfl rfl ?_) | refine Zby rfl rfl ?_ | refine Z8v rfl (Zby rfl rfl ?_) | refine Z8w rfl ?_ | refine Z8x rfl ?_ | (refine Z8y ?_; (repeat (first | refine Z9v rfl ?_ | refine Z9w ?_)); refine Z9u ?_) | refine awp_seq ?_ | refine Zbm (fun _ _ => rfl) ?_ | refine Z8h ?_ | refine Zbn (fun _ _ => rfl) ?_ | refine Zbo (fun _ _ => rfl) ?_ | refine Z8f (t := true) rfl (fun _ => ?_) (fun e => by cases e) | refine Z8f (t := false) rfl (fun e => by cases e) (fun _ => ?_)))
            (first | refine Z9t rfl ((Ztk k) _) ?_ | refine Z8v rfl (Z9t rfl ((Ztk k) _) ?_) | refine Zbw rfl (Ztk k) ?_ | refine Z8v rfl (Zbw rfl (Ztk k) ?_))
            rw [htx]
            (repeat (first | refine st_q rfl rfl rfl ?_ | refine Z8v rfl (st_q rfl rfl rfl ?_) | refine Z92 rfl Z8z rfl rfl ?_ | refine Z8v rfl (Z92 rfl Z8z rfl rfl ?_) | refine Zby rfl rfl ?_ | refine Z8v rfl (Zby rfl rfl ?_) | refine Z8w rfl ?_ | refine Z8x rfl ?_ | (refine Z8y ?_; (repeat (first | refine Z9v rfl ?_ | refine Z9w ?_)); refine Z9u ?_) | refine awp_seq ?_ | refine Zbm (fun _ _ => rfl) ?_ | refine Z8h ?_ | refine Zbn (fun _ _ => rfl) ?_ | refine Zbo (fun _ _ => rfl) ?_ | refine Z8f (t := true) rfl (fun _ => ?_) (fun e => by cases e) | refine Z8f (t := false) rfl (fun e => by cases e) (fun _ => ?_)))
            (first | refine Z9t rfl ((Ztl k) _) ?_ | refine Z8v rfl (Z9t rfl ((Ztl k) _) ?_) | refine Zbw rfl (Ztl k) ?_ | refine Z8v rfl (Zbw rfl (Ztl k) ?_))
            rw [hl]
            (repeat (first | refine st_q rfl rfl rfl ?_ | refine Z8v rfl (st_q rfl rfl rfl ?_) | refine Z92 rfl Z8z rfl rfl ?_ | refine Z8v rfl (Z92 rfl Z8z rfl rfl ?_) | refine Zby rfl rfl ?_ | refine Z8v rfl (Zby rfl rfl ?_) | refine Z8w rfl ?_ | refine Z8x rfl ?_ | (refine Z8y ?_; (repeat (first | refine Z9v rfl ?_ | refine Z9w ?_)); refine Z9u ?_) | refine awp_seq ?_ | refine Zbm (fun _ _ => rfl) ?_ | refine Z8h ?_ | refine Zbn (fun _ _ => rfl) ?_ | refine Zbo (fun _ _ => rfl) ?_ | refine Z8f (t := true) rfl (fun _ => ?_) (fun e => by cases e) | refine Z8f (t := false) rfl (fun e => by cases e) (fun _ => ?_)))
            refine Z93 rfl (by omega) hgi ?_
            (repeat (first | refine st_q rfl rfl rfl ?_ | refine Z8v rfl (st_q rfl rfl rfl ?_) | refine Z92 rfl Z8z rfl rfl ?_ | refine Z8v rfl (Z92 rfl Z8z rfl rfl ?_) | refine Zby rfl rfl ?_ | refine Z8v rfl (Zby rfl rfl ?_) | refine Z8w rfl ?_ | refine Z8x rfl ?_ | (refine Z8y ?_; (repeat (first | refine Z9v rfl ?_ | refine Z9w ?_)); refine Z9u ?_) | refine awp_seq ?_ | refine Zbm (fun _ _ => rfl) ?_ | refine Z8h ?_ | refine Zbn (fun _ _ => rfl) ?_ | refine Zbo (fun _ _ => rfl) ?_ | refine Z8f (t := true) rfl (fun _ => ?_) (fun e => by cases e) | refine Z8f (t := false) rfl (fun e => by cases e) (fun _ => ?_)))
            (first | refine Z9a rfl Z8z rfl (by decide) (Z0.fit_iff.1 rfl) (fun h => by cases h) Z9b ?_ | refine Z8v rfl (Z9a rfl Z8z rfl (by decide) (Z0.fit_iff.1 rfl) (fun h => by cases h) Z9b ?_))
            (repeat (first | refine st_q rfl rfl rfl ?_ | refine Z8v rfl (st_q rfl rfl rfl ?_) | refine Z92 rfl Z8z rfl rfl ?_ | refine Z8v rfl (Z92 rfl Z8z rfl rfl ?_) | refine Zby rfl rfl ?_ | refine Z8v rfl (Zby rfl rfl ?_) | refine Z8w rfl ?_ | refine Z8x rfl ?_ | (refine Z8y ?_; (repeat (first | refine Z9v rfl ?_ | refine Z9w ?_)); refine Z9u ?_) | refine awp_seq ?_ | refine Zbm (fun _ _ => rfl) ?_ | refine Z8h ?_ | refine Zbn (fun _ _ => rfl) ?_ | refine Zbo (fun _ _ => rfl) ?_ | refine Z8f (t := true) rfl (fun _ => ?_) (fun e => by cases e) | refine Z8f (t := false) rfl (fun e => by cases e) (fun _ => ?_)))
            refine Za3 (p := k = 9) rfl (fun h9 => ?_) (fun h9 => ?_)
            · rw [if_pos h9] at g3 e1
              have hjn : j < C.ns.length := by omega
              have hgn := Zyu (f := Z0.int .i64) hjn
              rw [List.getD_eq_getElem?_getD, List.getElem?_eq_getElem hjn, Option.getD_some] at e1
              generalize C.ns[j] = y at hgn e1
              refine Zbm (fun _ _ => rfl) ?_
              (repeat (refine st_q rfl rfl rfl ?_))
              refine Z93 rfl (by omega) hgn ?_
              (repeat (refine st_q rfl rfl rfl ?_))
              (first | refine Z9a rfl Z8z rfl (by decide) (Z0.fit_iff.1 rfl) (fun h => by cases h) Z9b ?_ | refine Z8v rfl (Z9a rfl Z8z rfl (by decide) (Z0.fit_iff.1 rfl) (fun h => by cases h) Z9b ?_))
              (refine Z8y ?_; (repeat (first | refine Z9v rfl ?_ | refine Z9w ?_)); refine Z9u ?_)
              refine Zbx (HShift.view (ys := [.agg (Zm5 (.mk false x y [] []))]) rfl rfl (by (repeat (first | exact VRle.refl _ | exact Zc4 | refine Zc5 rfl rfl ?_ | refine Zc6 rfl ?_ | refine Zc3 ?_ ?_)))) ?_
              refine Zb3 (d := 8) (cs := Zm5 (.mk false x y [] [])) rfl ?_
              (refine Z9y (keep := [2, 3, 4, 5, 6, 7, 8, 9]) ?_; ((repeat (first | refine Z9v rfl ?_ | refine Z9w ?_)); refine Z9u ?_))
              exact Z1cl (by intro _ _; rfl) s (.mk false x y [] []) x k t1 t2 t3 t4 t5 ht1 hs hir (by omega) _ j i b4 b5 (by omega) z σ (r _ _ e1 e2)
            · rw [if_neg h9] at e1
              refine Zbn (fun _ _ => rfl) ?_
              (refine Z9y (keep := [2, 3, 4, 5, 6, 7, 8, 9]) ?_; ((repeat (first | refine Z9v rfl ?_ | refine Z9w ?_)); refine Z9u ?_))
              refine Zbx (HShift.view (ys := [.agg (Zm5 (.mk false x 0 [] []))]) rfl rfl (by (repeat (first | exact VRle.refl _ | exact Zc4 | refine Zc5 rfl rfl ?_ | refine Zc6 rfl ?_ | refine Zc3 ?_ ?_)))) ?_
              refine Zb3 (d := 8) (cs := Zm5 (.mk false x 0 [] [])) rfl ?_
              (refine Z9y (keep := [2, 3, 4, 5, 6, 7, 8, 9]) ?_; ((repeat (first | refine Z9v rfl ?_ | refine Z9w ?_)); refine Z9u ?_))
              exact Z1cl (by intro _ _; rfl) s (.mk false x 0 [] []) x k t1 t2 t3 t4 t5 ht1 hs hir (by omega) _ j i b4 b5 (by omega) z σ (r _ _ e1 e2)
    · rw [List.drop_of_length_le (by omega), Z147] at hXi
      subst hXi
      (repeat (first | refine st_q rfl rfl rfl ?_ | refine Z8v rfl (st_q rfl rfl rfl ?_) | refine Z92 rfl Z8z rfl rfl ?_ | refine Z8v rfl (Z92 rfl Z8z rfl rfl ?_) | refine Zby rfl rfl ?_ | refine Z8v rfl (Zby rfl rfl ?_) | refine Z8w rfl ?_ | refine Z8x rfl ?_ | (refine Z8y ?_; (repeat (first | refine Z9v rfl ?_ | refine Z9w ?_)); refine Z9u ?_) | refine awp_seq ?_ | refine Zbm (fun _ _ => rfl) ?_ | refine Z8h ?_ | refine Zbn (fun _ _ => rfl) ?_ | refine Zbo (fun _ _ => rfl) ?_ | refine Z8f (t := true) rfl (fun _ => ?_) (fun e => by cases e) | refine Z8f (t := false) rfl (fun e => by cases e) (fun _ => ?_)))
      subst hz
      refine Z9a rfl (Z90 (fun e => hb5 (by rw [e]; simp [Zh])) Z8z) rfl (by decide) (Z0.fit_iff.1 rfl) (fun h => by cases h) (Z9c (fun e => hb5 (by rw [e]; simp [Zh])) Z9b) ?_
      (refine Z8y ?_; (repeat (first | refine Z9v rfl ?_ | refine Z9w ?_)); refine Z9u ?_)
      refine Z8a (FSub.refl _) (HSub.tail _ _) ?_
      refine Z8d ?_
      exact ares (vs := [encS s]) (Zz2 rfl Z8z rfl) (HSub.tail _ _) ⟨rfl, rfl⟩
  (refine Z9y (keep := [2, 3, 4]) ?_; ((repeat (first | refine Z9v rfl ?_ | refine Z9w ?_)); refine Z9u ?_))
  exact main _ rfl
end Go.Abs
namespace Go.Abs
open Go Go.Proofs
set_option linter.unusedVariables false
set_option linter.unusedSimpArgs false
set_option maxHeartbeats 4000000
attribute [local irreducible] AWp aops KP
theorem Z1cq {k : Int} (h : Zyi k = false) : ∀ (l : List Vl) (s : Sp), s.has = false → (l.foldl (Z14t k) s).has = false
  | [], s, hs => hs
  | v :: l, s, hs => by
    rw [List.foldl_cons]
    refine Z1cq h l _ ?_
    rw [Z14t, if_neg (by simp [h])]
    exact hs
theorem Z1cr {k : Int} {c : Col} (h : (spC k c).has = true) : Zyi k = true := by
  cases hr : Zyi k with
  | true => rfl
  | false =>
    have := Z1cq hr ((valsC c).map (·.1)) sp0 rfl
    rw [spC, this] at h
    cases h
theorem Z1cs {k : Int} {c : Col} (hc : ColOk k c) (i : Nat) : (getV c i).Fit := by
  have hF := hc.fit
  refine .mk ?_ ?_ (by simp [getV, Vl.kids]) (by simp [getV, Vl.kids])
  · simp only [getV, Vl.i]
    split
    · omega
    · rw [List.getD_eq_getElem?_getD]
      cases h : c.ints[i]? with
      | none => simp
      | some x => exact hF.int x (List.mem_of_getElem? h)
  · simp only [getV, Vl.b]
    rw [List.getD_eq_getElem?_getD]
    cases h : c.texts[i]? with
    | none => simp
    | some x => have := hF.text x (List.mem_of_getElem? h); simp; omega
theorem Z1ct {c : Col} {v : Vl} (h : v ∈ (valsC c).map (·.1)) : ∃ i, i < colN c ∧ v = getV c i := by
  simp only [valsC, getsC, List.map_map, List.mem_map, List.mem_range, Function.comp_def] at h
  obtain ⟨i, h1, rfl⟩ := h
  exact ⟨i, h1, rfl⟩
theorem Z1cu {c : Col} {i : Nat} (h : i < colN c) : getV c i ∈ (valsC c).map (·.1) := by
  simp only [valsC, getsC, List.map_map, List.mem_map, List.mem_range, Function.comp_def]
  exact ⟨i, h, rfl⟩
theorem Z1cv {k : Int} {c : Col} (hc : ColOk k c) : (spC k c).min.Fit ∧ (spC k c).max.Fit := by
  have hb := Z151 k c
  cases hh : (spC k c).has with
  | false =>
    rw [hb.zero hh]
    exact ⟨.mk (by simp [sp0, vl0, Vl.i]) (by simp [sp0, vl0, Vl.b]) (by simp [sp0, vl0, Vl.kids]) (by simp [sp0, vl0, Vl.kids]), .mk (by simp [sp0, vl0, Vl.i]) (by simp [sp0, vl0, Vl.b]) (by simp [sp0, vl0, Vl.kids]) (by simp [sp0, vl0, Vl.kids])⟩
  | true =>
    obtain ⟨i, _, e1⟩ := Z1ct (hb.min hh)
    obtain ⟨j, _, e2⟩ := Z1ct (hb.max hh)
    rw [e1, e2]
    exact ⟨Z1cs hc i, Z1cs hc j⟩
theorem Z1cw {k : Int} {c : Col} (hc : ColOk k c) : (ofF k c).min.Fit ∧ (ofF k c).max.Fit := by
  rw [Z14x]; exact Z1cv hc
theorem Z1cx {p : Nat → Bool} (n : Nat) : (List.range (n + 1)).any p = ((List.range n).any p || p n) := by
  rw [List.range_succ, List.any_append]; simp
theorem Z1cy {R : Z87} (T S : Z0) (C : Col) {k : Int} (hC : ColOk k C) (lo hi : Bool) (n i : Nat) (hil : i < colN C) (σ : Zc)
    (h : AWp Try.prog Z194.n (((Z192.snd 1).fst.body).snd 3) R (fset 3 (some T) (fset 4 (some (.iptr (Zys C))) (fset 5 (some S) (fset 7 (some (.bool lo)) (fset 8 (some (.bool hi)) (fset 9 (some (.int .i64 (n : Int))) (fset 10 (some (.int .i64 (i : Int))) (fset 11 (some (.iptr (Zm5 (getV C i)))) Z27)))))))) σ) :
    AWp Try.prog Z194.n ((Z192.snd 1).fst.body) R (fset 3 (some T) (fset 4 (some (.iptr (Zys C))) (fset 5 (some S) (fset 7 (some (.bool lo)) (fset 8 (some (.bool hi)) (fset 9 (some (.int .i64 (n : Int))) (fset 10 (some (.int .i64 (i : Int))) Z27))))))) σ := by
  have hn := Good.n hC.good
  refine Z9z ?_
  (repeat (refine st_q rfl rfl rfl ?_))
  refine Z9k (by simp [Z0.cells, Z0.one]) fun b11 hb11 => ?_
  (first | refine Z9a rfl Z8z rfl (by decide) (Z0.fit_iff.1 rfl) (fun h => by cases h) Z9b ?_ | refine Z8v rfl (Z9a rfl Z8z rfl (by decide) (Z0.fit_iff.1 rfl) (fun h => by cases h) Z9b ?_))
  (refine Z8y ?_; (repeat (first | refine Z9v rfl ?_ | refine Z9w ?_)); refine Z9u ?_)
  refine awp_seq ?_
  refine awp_seq ?_
  refine Zbm (fun _ _ => rfl) ?_
  (repeat (refine st_q rfl rfl rfl ?_))
  rw [List.length_map]
  (refine Z8y ?_; (repeat (first | refine Z9v rfl ?_ | refine Z9w ?_)); refine Z9u ?_)
  rcases hn with ⟨_, hi0, hns, hc⟩ | ⟨htx, hc, hns, _⟩
  · have hit : i < C.texts.length := by omega
    have hgt := Zyu (f := fun b => Z0.slc 1 (bytes b) false) hit
    have e : getV C i = .mk false 0 0 C.texts[i] [] := by
      rw [getV, if_pos hit, hns, List.getD_eq_getElem?_getD, List.getD_eq_getElem?_getD, List.getElem?_eq_getElem hit]; rfl
    rw [e] at h
    generalize C.texts[i] = tx at hgt h
    refine Za3 (p := (0 : Int) < (C.texts.length : Int)) rfl (fun _ => ?_) (fun h9 => absurd h9 (by omega))
    refine Zbm (fun _ _ => rfl) ?_
    (repeat (refine st_q rfl rfl rfl ?_))
    refine Z93 rfl (by omega) hgt ?_
    (repeat (refine st_q rfl rfl rfl ?_))
    (first | refine Z9a rfl Z8z rfl (by decide) (Z0.fit_iff.1 rfl) (fun h => by cases h) Z9b ?_ | refine Z8v rfl (Z9a rfl Z8z rfl (by decide) (Z0.fit_iff.1 rfl) (fun h => by cases h) Z9b ?_))
    (refine Z8y ?_; (repeat (first | refine Z9v rfl ?_ | refine Z9w ?_)); refine Z9u ?_)
    refine awp_seq ?_
    refine awp_seq ?_
    refine Zbm (fun _ _ => rfl) ?_
    (repeat (refine st_q rfl rfl rfl ?_))
    rw [List.length_map, hns]
    (refine Z8y ?_; (repeat (first | refine Z9v rfl ?_ | refine Z9w ?_)); refine Z9u ?_)
    refine Z8f (t := false) rfl (fun e => by cases e) (fun _ => ?_)
    refine Zbn (fun _ _ => rfl) ?_
    (refine Z9y (keep := [3, 4, 5, 7, 8, 9, 10, 11]) ?_; ((repeat (first | refine Z9v rfl ?_ | refine Z9w ?_)); refine Z9u ?_))
    refine Zbx (HShift.view (ys := [.agg (Zm5 (.mk false 0 0 tx []))]) rfl rfl (by (repeat (first | exact VRle.refl _ | exact Zc4 | refine Zc5 rfl rfl ?_ | refine Zc6 rfl ?_ | refine Zc3 ?_ ?_)))) ?_
    refine Zb3 (d := 11) (cs := Zm5 (.mk false 0 0 tx [])) rfl ?_
    (refine Z9y (keep := [3, 4, 5, 7, 8, 9, 10, 11]) ?_; ((repeat (first | refine Z9v rfl ?_ | refine Z9w ?_)); refine Z9u ?_))
    exact h
  · have hii : i < C.ints.length := by omega
    have hgi := Zyu (f := Z0.int .i64) hii
    have e : getV C i = .mk false C.ints[i] (C.ns.getD i 0) [] [] := by
      rw [getV, htx, List.getD_eq_getElem?_getD (l := C.ints), List.getElem?_eq_getElem hii]; rfl
    rw [e] at h
    generalize C.ints[i] = x at hgi h
    refine Za3 (p := (0 : Int) < (C.texts.length : Int)) rfl (fun h9 => absurd h9 (by rw [htx]; simp)) (fun _ => ?_)
    refine Zbm (fun _ _ => rfl) ?_
    (repeat (refine st_q rfl rfl rfl ?_))
    refine Z93 rfl (by omega) hgi ?_
    (repeat (refine st_q rfl rfl rfl ?_))
    (first | refine Z9a rfl Z8z rfl (by decide) (Z0.fit_iff.1 rfl) (fun h => by cases h) Z9b ?_ | refine Z8v rfl (Z9a rfl Z8z rfl (by decide) (Z0.fit_iff.1 rfl) (fun h => by cases h) Z9b ?_))
    (refine Z8y ?_; (repeat (first | refine Z9v rfl ?_ | refine Z9w ?_)); refine Z9u ?_)
    refine awp_seq ?_
    refine awp_seq ?_
    refine Zbm (fun _ _ => rfl) ?_
    (repeat (refine st_q rfl rfl rfl ?_))
    rw [List.length_map]
    (refine Z8y ?_; (repeat (first | refine Z9v rfl ?_ | refine Z9w ?_)); refine Z9u ?_)
    refine Za3 (p := (0 : Int) < (C.ns.length : Int)) rfl (fun h9 => ?_) (fun h9 => ?_)
    · have hin : i < C.ns.length := by
        rcases hns with hns | hns
        · rw [hns] at h9; simp at h9
        · omega
      have hgn := Zyu (f := Z0.int .i64) hin
      rw [List.getD_eq_getElem?_getD, List.getElem?_eq_getElem hin, Option.getD_some] at h
      generalize C.ns[i] = y at hgn h
      refine Zbm (fun _ _ => rfl) ?_
      (repeat (refine st_q rfl rfl rfl ?_))
      refine Z93 rfl (by omega) hgn ?_
      (repeat (refine st_q rfl rfl rfl ?_))
      (first | refine Z9a rfl Z8z rfl (by decide) (Z0.fit_iff.1 rfl) (fun h => by cases h) Z9b ?_ | refine Z8v rfl (Z9a rfl Z8z rfl (by decide) (Z0.fit_iff.1 rfl) (fun h => by cases h) Z9b ?_))
      (refine Z8y ?_; (repeat (first | refine Z9v rfl ?_ | refine Z9w ?_)); refine Z9u ?_)
      refine Zbx (HShift.view (ys := [.agg (Zm5 (.mk false x y [] []))]) rfl rfl (by (repeat (first | exact VRle.refl _ | exact Zc4 | refine Zc5 rfl rfl ?_ | refine Zc6 rfl ?_ | refine Zc3 ?_ ?_)))) ?_
      refine Zb3 (d := 11) (cs := Zm5 (.mk false x y [] [])) rfl ?_
      (refine Z9y (keep := [3, 4, 5, 7, 8, 9, 10, 11]) ?_; ((repeat (first | refine Z9v rfl ?_ | refine Z9w ?_)); refine Z9u ?_))
      exact h
    · have hn0 : C.ns = [] := List.length_eq_zero_iff.1 (by omega)
      rw [hn0] at h
      refine Zbn (fun _ _ => rfl) ?_
      (refine Z9y (keep := [3, 4, 5, 7, 8, 9, 10, 11]) ?_; ((repeat (first | refine Z9v rfl ?_ | refine Z9w ?_)); refine Z9u ?_))
      refine Zbx (HShift.view (ys := [.agg (Zm5 (.mk false x 0 [] []))]) rfl rfl (by (repeat (first | exact VRle.refl _ | exact Zc4 | refine Zc5 rfl rfl ?_ | refine Zc6 rfl ?_ | refine Zc3 ?_ ?_)))) ?_
      refine Zb3 (d := 11) (cs := Zm5 (.mk false x 0 [] [])) rfl ?_
      (refine Z9y (keep := [3, 4, 5, 7, 8, 9, 10, 11]) ?_; ((repeat (first | refine Z9v rfl ?_ | refine Z9w ?_)); refine Z9u ?_))
      exact h
theorem Z1cz (t : List Z0) (k : Int) (ht : t.length = 6) (hk : t[0]? = some (.int .i64 k)) (ht1 : ∀ c ∈ t, c.one = true) (C : Col) (hC : ColOk k C) (σ : Zc) :
    Z1q Try.prog Zcy [.agg t, encC C, encS (ofF k C)] σ fun r σ' => r = .bool true ∧ σ' = σ := by
  have hb := Z151 k C
  have hn := Good.n hC.good
  have hF := hC.fit
  have hsp : spOf (ofF k C) = spC k C := Z15v k C
  generalize ofF k C = s at hsp
  match t, ht with
  | [t0, t1, t2, t3, t4, t5], _ =>
  simp only [List.getElem?_cons_zero, Option.some.injEq] at hk
  subst hk
  refine Z8t rfl Z1bb (Nat.le_of_ble_eq_true rfl) ?_
  refine Z9z ?_
  refine Z9j rfl ⟨rfl, ht1⟩ fun b3 hb3 => ?_
  refine Z9j rfl (Z0.fit_iff.1 rfl) fun b4 hb4 => ?_
  refine Z9j rfl (Z0.fit_iff.1 rfl) fun b5 hb5 => ?_
  (repeat (refine st_q rfl rfl rfl ?_))
  (refine Z8y ?_; (repeat (first | refine Z9v rfl ?_ | refine Z9w ?_)); refine Z9u ?_)
  refine Zb3 (d := 5) (cs := Zyn s) rfl ?_
  refine Zb3 (d := 4) (cs := Zys C) rfl ?_
  refine Zb3 (d := 3) (cs := [.int .i64 k, t1, t2, t3, t4, t5]) rfl ?_
  obtain ⟨cnt, nul, has, mi, ma, su, sm⟩ := s
  have e1 : has = (spC k C).has := congrArg Sp.has hsp
  have e2 : mi = (spC k C).min := congrArg Sp.min hsp
  have e3 : ma = (spC k C).max := congrArg Sp.max hsp
  cases has with
  | false =>
    (repeat (first | refine st_q rfl rfl rfl ?_ | refine Z8v rfl (st_q rfl rfl rfl ?_) | refine Z92 rfl Z8z rfl rfl ?_ | refine Z8v rfl (Z92 rfl Z8z rfl rfl ?_) | refine Zby rfl rfl ?_ | refine Z8v rfl (Zby rfl rfl ?_) | refine Z8w rfl ?_ | refine Z8x rfl ?_ | (refine Z8y ?_; (repeat (first | refine Z9v rfl ?_ | refine Z9w ?_)); refine Z9u ?_) | refine awp_seq ?_ | refine Zbm (fun _ _ => rfl) ?_ | refine Z8h ?_ | refine Zbn (fun _ _ => rfl) ?_ | refine Zbo (fun _ _ => rfl) ?_ | refine Z8f (t := true) rfl (fun _ => ?_) (fun e => by cases e) | refine Z8f (t := false) rfl (fun e => by cases e) (fun _ => ?_)))
    (refine Z8d ?_; exact ares rfl (HSub.refl _) ⟨rfl, rfl⟩)
  | true =>
  have hk := Z14y (Z1cr e1.symm)
  have hall := hb.all e1.symm
  have hmin := hb.min e1.symm
  have hmax := hb.max e1.symm
  rw [← e2, ← e3] at hall
  rw [← e2] at hmin
  rw [← e3] at hmax
  have hlen : C.ints.length + C.texts.length = colN C := by
    rcases hn with ⟨_, h1, h2, h3⟩ | ⟨h1, h2, _⟩
    · rw [h3, h1]; simp
    · rw [h2, h1]; simp
  have hnl : colN C ≤ 281474976710656 := by
    have h1 := hF.ints
    have h2 := hF.texts
    omega
  (repeat (first | refine st_q rfl rfl rfl ?_ | refine Z8v rfl (st_q rfl rfl rfl ?_) | refine Z92 rfl Z8z rfl rfl ?_ | refine Z8v rfl (Z92 rfl Z8z rfl rfl ?_) | refine Zby rfl rfl ?_ | refine Z8v rfl (Zby rfl rfl ?_) | refine Z8w rfl ?_ | refine Z8x rfl ?_ | (refine Z8y ?_; (repeat (first | refine Z9v rfl ?_ | refine Z9w ?_)); refine Z9u ?_) | refine awp_seq ?_ | refine Zbm (fun _ _ => rfl) ?_ | refine Z8h ?_ | refine Zbn (fun _ _ => rfl) ?_ | refine Zbo (fun _ _ => rfl) ?_ | refine Z8f (t := true) rfl (fun _ => ?_) (fun e => by cases e) | refine Z8f (t := false) rfl (fun e => by cases e) (fun _ => ?_)))
  rw [List.length_map, List.length_map]
  rw [show IntKind.wrap .i64 ((C.ints.length : Int) + (C.texts.length : Int)) = ((colN C : Nat) : Int) by rw [w64 _ (by omega) (by omega)]; omega]
  refine Zaa (fun m F σ' => ∃ (i : Nat), F = fset 3 (some (.iptr [.int .i64 k, t1, t2, t3, t4, t5])) (fset 4 (some (.iptr (Zys C))) (fset 5 (some (.iptr (Zyn ⟨cnt, nul, true, mi, ma, su, sm⟩))) (fset 7 (some (.bool ((List.range i).any fun j => decide ((cmpV k (getV C j) mi).1 = 0)))) (fset 8 (some (.bool ((List.range i).any fun j => decide ((cmpV k (getV C j) ma).1 = 0)))) (fset 9 (some (.int .i64 (colN C : Nat))) (fset 10 (some (.int .i64 (i : Int))) Z27)))))) ∧
    σ = σ' ∧ i ≤ colN C ∧ m = colN C - i) (n := colN C) ⟨0, rfl, rfl, by omega, rfl⟩ ?_
  rintro m F σ' ⟨i, rfl, rfl, hi, rfl⟩
  (repeat (first | refine st_q rfl rfl rfl ?_ | refine Z8v rfl (st_q rfl rfl rfl ?_) | refine Z92 rfl Z8z rfl rfl ?_ | refine Z8v rfl (Z92 rfl Z8z rfl rfl ?_) | refine Zby rfl rfl ?_ | refine Z8v rfl (Zby rfl rfl ?_) | refine Z8w rfl ?_ | refine Z8x rfl ?_ | (refine Z8y ?_; (repeat (first | refine Z9v rfl ?_ | refine Z9w ?_)); refine Z9u ?_) | refine awp_seq ?_ | refine Zbm (fun _ _ => rfl) ?_ | refine Z8h ?_ | refine Zbn (fun _ _ => rfl) ?_ | refine Zbo (fun _ _ => rfl) ?_ | refine Z8f (t := true) rfl (fun _ => ?_) (fun e => by cases e) | refine Z8f (t := false) rfl (fun e => by cases e) (fun _ => ?_)))
  refine Za3 (p := (i : Int) < (colN C : Nat)) rfl (fun h5 => ?_) (fun h5 => ?_)
  · have hil : i < colN C := by omega
    have hv := hall _ (Z1cu hil)
    have hc1 := Z165 [.int .i64 k, t1, t2, t3, t4, t5] k rfl rfl ht1 (getV C i) mi
    have hc2 := Z165 [.int .i64 k, t1, t2, t3, t4, t5] k rfl rfl ht1 (getV C i) ma
    simp only [Zm6] at hc1 hc2
    have hr1 := Z1cx (p := fun j => decide ((cmpV k (getV C j) mi).1 = 0)) i
    have hr2 := Z1cx (p := fun j => decide ((cmpV k (getV C j) ma).1 = 0)) i
    generalize hlo : (List.range i).any (fun j => decide ((cmpV k (getV C j) mi).1 = 0)) = lo at hr1
    generalize hhi : (List.range i).any (fun j => decide ((cmpV k (getV C j) ma).1 = 0)) = hi at hr2
    refine Zbn (fun _ _ => rfl) ?_
    (refine Z9y (keep := [3, 4, 5, 7, 8, 9, 10]) ?_; ((repeat (first | refine Z9v rfl ?_ | refine Z9w ?_)); refine Z9u ?_))
    refine awp_seq ?_
    refine Z8h ?_
    refine Z1cy _ _ C hC lo hi (colN C) i hil σ ?_
    refine Z9z ?_
    (repeat (refine st_q rfl rfl rfl ?_))
    (first | refine Z9t rfl (hc1 _) ?_ | refine Z8v rfl (Z9t rfl (hc1 _) ?_) | refine Zbw rfl hc1 ?_ | refine Z8v rfl (Zbw rfl hc1 ?_))
    (repeat (refine st_q rfl rfl rfl ?_))
    (refine Z8y ?_; (repeat (first | refine Z9v rfl ?_ | refine Z9w ?_)); refine Z9u ?_)
    refine Z9z ?_
    (repeat (refine st_q rfl rfl rfl ?_))
    (first | refine Z9t rfl (hc2 _) ?_ | refine Z8v rfl (Z9t rfl (hc2 _) ?_) | refine Zbw rfl hc2 ?_ | refine Z8v rfl (Zbw rfl hc2 ?_))
    (repeat (refine st_q rfl rfl rfl ?_))
    (refine Z8y ?_; (repeat (first | refine Z9v rfl ?_ | refine Z9w ?_)); refine Z9u ?_)
    refine awp_seq ?_
    refine awp_seq ?_
    refine Zbm (fun _ _ => rfl) ?_
    (repeat (refine st_q rfl rfl rfl ?_))
    (rw [show decide ((cmpV k (getV C i) mi).1 < 0) = false from decide_eq_false (by omega)])
    (repeat (first | refine st_q rfl rfl rfl ?_ | refine Z8v rfl (st_q rfl rfl rfl ?_) | refine Z8w rfl ?_ | refine Z8x rfl ?_))
    (rw [show decide ((0 : Int) < (cmpV k (getV C i) ma).1) = false from decide_eq_false (by omega)])
    (repeat (first | refine st_q rfl rfl rfl ?_ | refine Z8v rfl (st_q rfl rfl rfl ?_) | refine Z8w rfl ?_ | refine Z8x rfl ?_))
    (refine Z8y ?_; (repeat (first | refine Z9v rfl ?_ | refine Z9w ?_)); refine Z9u ?_)
    refine Z8f (t := false) rfl (fun e => by cases e) (fun _ => ?_)
    refine Zbn (fun _ _ => rfl) ?_
    (refine Z9y (keep := [3, 4, 5, 7, 8, 9, 10, 12, 14]) ?_; ((repeat (first | refine Z9v rfl ?_ | refine Z9w ?_)); refine Z9u ?_))
    cases lo
    · cases hi
      · refine awp_seq ?_
        refine Zbm (fun _ _ => rfl) ?_
        (repeat (first | refine st_q rfl rfl rfl ?_ | refine Z8v rfl (st_q rfl rfl rfl ?_) | refine Z8w rfl ?_ | refine Z8x rfl ?_))
        (refine Z8y ?_; (repeat (first | refine Z9v rfl ?_ | refine Z9w ?_)); refine Z9u ?_)
        refine Zbm (fun _ _ => rfl) ?_
        (repeat (first | refine st_q rfl rfl rfl ?_ | refine Z8v rfl (st_q rfl rfl rfl ?_) | refine Z8w rfl ?_ | refine Z8x rfl ?_))
        (refine Z8y ?_; (repeat (first | refine Z9v rfl ?_ | refine Z9w ?_)); refine Z9u ?_)
        refine Zbp ?_
        (repeat (refine st_q rfl rfl rfl ?_))
        rw [show IntKind.wrap .i64 ((i : Int) + 1) = ((i + 1 : Nat) : Int) by rw [w64 _ (by omega) (by omega)]; omega]
        (refine Z8y ?_; (repeat (first | refine Z9v rfl ?_ | refine Z9w ?_)); refine Z9u ?_)
        exact ⟨_, colN C - (i + 1), HSub.refl _, ⟨i + 1, by rw [hr1, hr2]; rfl, rfl, by omega, rfl⟩, by omega⟩
      · refine awp_seq ?_
        refine Zbm (fun _ _ => rfl) ?_
        (repeat (first | refine st_q rfl rfl rfl ?_ | refine Z8v rfl (st_q rfl rfl rfl ?_) | refine Z8w rfl ?_ | refine Z8x rfl ?_))
        (refine Z8y ?_; (repeat (first | refine Z9v rfl ?_ | refine Z9w ?_)); refine Z9u ?_)
        refine Zbm (fun _ _ => rfl) ?_
        (repeat (first | refine st_q rfl rfl rfl ?_ | refine Z8v rfl (st_q rfl rfl rfl ?_) | refine Z8w rfl ?_ | refine Z8x rfl ?_))
        (refine Z8y ?_; (repeat (first | refine Z9v rfl ?_ | refine Z9w ?_)); refine Z9u ?_)
        refine Zbp ?_
        (repeat (refine st_q rfl rfl rfl ?_))
        rw [show IntKind.wrap .i64 ((i : Int) + 1) = ((i + 1 : Nat) : Int) by rw [w64 _ (by omega) (by omega)]; omega]
        (refine Z8y ?_; (repeat (first | refine Z9v rfl ?_ | refine Z9w ?_)); refine Z9u ?_)
        exact ⟨_, colN C - (i + 1), HSub.refl _, ⟨i + 1, by rw [hr1, hr2]; rfl, rfl, by omega, rfl⟩, by omega⟩
    · cases hi
      · refine awp_seq ?_
        refine Zbm (fun _ _ => rfl) ?_
        (repeat (first | refine st_q rfl rfl rfl ?_ | refine Z8v rfl (st_q rfl rfl rfl ?_) | refine Z8w rfl ?_ | refine Z8x rfl ?_))
        (refine Z8y ?_; (repeat (first | refine Z9v rfl ?_ | refine Z9w ?_)); refine Z9u ?_)
        refine Zbm (fun _ _ => rfl) ?_
        (repeat (first | refine st_q rfl rfl rfl ?_ | refine Z8v rfl (st_q rfl rfl rfl ?_) | refine Z8w rfl ?_ | refine Z8x rfl ?_))
        (refine Z8y ?_; (repeat (first | refine Z9v rfl ?_ | refine Z9w ?_)); refine Z9u ?_)
        refine Zbp ?_
        (repeat (refine st_q rfl rfl rfl ?_))
        rw [show IntKind.wrap .i64 ((i : Int) + 1) = ((i + 1 : Nat) : Int) by rw [w64 _ (by omega) (by omega)]; omega]
        (refine Z8y ?_; (repeat (first | refine Z9v rfl ?_ | refine Z9w ?_)); refine Z9u ?_)
        exact ⟨_, colN C - (i + 1), HSub.refl _, ⟨i + 1, by rw [hr1, hr2]; rfl, rfl, by omega, rfl⟩, by omega⟩
      · refine awp_seq ?_
        refine Zbm (fun _ _ => rfl) ?_
        (repeat (first | refine st_q rfl rfl rfl ?_ | refine Z8v rfl (st_q rfl rfl rfl ?_) | refine Z8w rfl ?_ | refine Z8x rfl ?_))
        (refine Z8y ?_; (repeat (first | refine Z9v rfl ?_ | refine Z9w ?_)); refine Z9u ?_)
        refine Zbm (fun _ _ => rfl) ?_
        (repeat (first | refine st_q rfl rfl rfl ?_ | refine Z8v rfl (st_q rfl rfl rfl ?_) | refine Z8w rfl ?_ | refine Z8x rfl ?_))
        (refine Z8y ?_; (repeat (first | refine Z9v rfl ?_ | refine Z9w ?_)); refine Z9u ?_)
        refine Zbp ?_
        (repeat (refine st_q rfl rfl rfl ?_))
        rw [show IntKind.wrap .i64 ((i : Int) + 1) = ((i + 1 : Nat) : Int) by rw [w64 _ (by omega) (by omega)]; omega]
        (refine Z8y ?_; (repeat (first | refine Z9v rfl ?_ | refine Z9w ?_)); refine Z9u ?_)
        exact ⟨_, colN C - (i + 1), HSub.refl _, ⟨i + 1, by rw [hr1, hr2]; rfl, rfl, by omega, rfl⟩, by omega⟩
  · have hil : i = colN C := by omega
    subst hil
    obtain ⟨a, ha, ea⟩ := Z1ct hmin
    obtain ⟨b, hb', eb⟩ := Z1ct hmax
    have h1 : (List.range (colN C)).any (fun j => decide ((cmpV k (getV C j) mi).1 = 0)) = true :=
      List.any_eq_true.2 ⟨a, List.mem_range.2 ha, by rw [← ea]; exact decide_eq_true (Z14s hk mi (by rw [ea]; rfl))⟩
    have h2 : (List.range (colN C)).any (fun j => decide ((cmpV k (getV C j) ma).1 = 0)) = true :=
      List.any_eq_true.2 ⟨b, List.mem_range.2 hb', by rw [← eb]; exact decide_eq_true (Z14s hk ma (by rw [eb]; rfl))⟩
    rw [h1, h2]
    (repeat (first | refine st_q rfl rfl rfl ?_ | refine Z8v rfl (st_q rfl rfl rfl ?_) | refine Z92 rfl Z8z rfl rfl ?_ | refine Z8v rfl (Z92 rfl Z8z rfl rfl ?_) | refine Zby rfl rfl ?_ | refine Z8v rfl (Zby rfl rfl ?_) | refine Z8w rfl ?_ | refine Z8x rfl ?_ | (refine Z8y ?_; (repeat (first | refine Z9v rfl ?_ | refine Z9w ?_)); refine Z9u ?_) | refine awp_seq ?_ | refine Zbm (fun _ _ => rfl) ?_ | refine Z8h ?_ | refine Zbn (fun _ _ => rfl) ?_ | refine Zbo (fun _ _ => rfl) ?_ | refine Z8f (t := true) rfl (fun _ => ?_) (fun e => by cases e) | refine Z8f (t := false) rfl (fun e => by cases e) (fun _ => ?_)))
    (refine Z8d ?_; exact ares rfl (HSub.refl _) ⟨rfl, rfl⟩)
theorem Z1d0 {t : Ty} {rows : List Vl} (h : few15 t rows = true) : t.Fit ∧ rows.length ≤ 200 := by
  unfold few15 at h
  simp only [Bool.and_eq_true, decide_eq_true_eq] at h
  exact ⟨(Z1ca t 1 (by omega)).fit, h.2.1⟩
theorem Z1d1 (t : Ty) : (Zm3 t).length ≤ 100 := by
  unfold Zm3
  split
  · rename_i h
    have := (Znc t 1 0 h).2.2
    rw [Zm0]; omega
  · simp
theorem Z1d2 {L : List Nd} {i : Nat} (h : i < L.length) : kindC L i = (L[i]).t.kind := by
  unfold kindC; rw [List.getElem?_eq_getElem h]
theorem Z1d3 (k : Int) : ColOk k col0 := ⟨Z146 k, ⟨by simp [col0], by simp [col0]⟩, ⟨by simp [col0], by simp [col0], by simp [col0], by simp [col0], by simp [col0]⟩⟩
theorem Z1d4 (n : Nd) : ∀ c ∈ Zm1 n, c.one = true := by simp [Zm1, Z0.one]
theorem Z1d5 (t : Ty) : ∀ c ∈ Zln t, c.one = true := by simp [Zln, Z0.one]
theorem Z1d6 (t : Ty) (rows : List Vl) (hr : ∀ v ∈ rows, v.Fit) (σ : Zc) : Z1q Try.prog Zc8 [encT t, .slc 5 (Zm4 rows) false] σ fun r σ' => r = .bool true := by
  have hFew := Z1ci t rows false
  rw [Zlo] at hFew ⊢
  refine Z8t rfl Z1b8 (Nat.le_of_ble_eq_true rfl) ?_
  refine Z9z ?_
  refine Z9j rfl (Z0.fit_iff.1 rfl) fun b2 hb2 => ?_
  (repeat (refine st_q rfl rfl rfl ?_))
  (refine Z8y ?_; (repeat (first | refine Z9v rfl ?_ | refine Z9w ?_)); refine Z9u ?_)
  refine Zb3 (d := 2) (cs := Zln t) rfl ?_
  (repeat (first | refine st_q rfl rfl rfl ?_ | refine Z8v rfl (st_q rfl rfl rfl ?_) | refine Z92 rfl Z8z rfl rfl ?_ | refine Z8v rfl (Z92 rfl Z8z rfl rfl ?_) | refine Zby rfl rfl ?_ | refine Z8v rfl (Zby rfl rfl ?_) | refine Z8w rfl ?_ | refine Z8x rfl ?_ | (refine Z8y ?_; (repeat (first | refine Z9v rfl ?_ | refine Z9w ?_)); refine Z9u ?_) | refine awp_seq ?_ | refine Zbm (fun _ _ => rfl) ?_ | refine Z8h ?_ | refine Zbn (fun _ _ => rfl) ?_ | refine Zbo (fun _ _ => rfl) ?_ | refine Z8f (t := true) rfl (fun _ => ?_) (fun e => by cases e) | refine Z8f (t := false) rfl (fun e => by cases e) (fun _ => ?_)))
  refine Z9s rfl (Z1bw _) ⟨_, σ, rfl⟩ ?_
  rintro r σ1 rfl
  (repeat (first | refine st_q rfl rfl rfl ?_ | refine Z8v rfl (st_q rfl rfl rfl ?_) | refine Z92 rfl Z8z rfl rfl ?_ | refine Z8v rfl (Z92 rfl Z8z rfl rfl ?_) | refine Zby rfl rfl ?_ | refine Z8v rfl (Zby rfl rfl ?_) | refine Z8w rfl ?_ | refine Z8x rfl ?_ | (refine Z8y ?_; (repeat (first | refine Z9v rfl ?_ | refine Z9w ?_)); refine Z9u ?_) | refine awp_seq ?_ | refine Zbm (fun _ _ => rfl) ?_ | refine Z8h ?_ | refine Zbn (fun _ _ => rfl) ?_ | refine Zbo (fun _ _ => rfl) ?_ | refine Z8f (t := true) rfl (fun _ => ?_) (fun e => by cases e) | refine Z8f (t := false) rfl (fun e => by cases e) (fun _ => ?_)))
  (first | refine Z9t rfl (hFew _) ?_ | refine Z8v rfl (Z9t rfl (hFew _) ?_) | refine Zbw rfl hFew ?_ | refine Z8v rfl (Zbw rfl hFew ?_))
  cases hfw : few15 t rows with
  | false =>
    (repeat (first | refine st_q rfl rfl rfl ?_ | refine Z8v rfl (st_q rfl rfl rfl ?_) | refine Z92 rfl Z8z rfl rfl ?_ | refine Z8v rfl (Z92 rfl Z8z rfl rfl ?_) | refine Zby rfl rfl ?_ | refine Z8v rfl (Zby rfl rfl ?_) | refine Z8w rfl ?_ | refine Z8x rfl ?_ | (refine Z8y ?_; (repeat (first | refine Z9v rfl ?_ | refine Z9w ?_)); refine Z9u ?_) | refine awp_seq ?_ | refine Zbm (fun _ _ => rfl) ?_ | refine Z8h ?_ | refine Zbn (fun _ _ => rfl) ?_ | refine Zbo (fun _ _ => rfl) ?_ | refine Z8f (t := true) rfl (fun _ => ?_) (fun e => by cases e) | refine Z8f (t := false) rfl (fun e => by cases e) (fun _ => ?_)))
    refine Z8d ?_
    exact ares rfl (HSub.refl _) rfl
  | true =>
  obtain ⟨hfit, hlen⟩ := Z1d0 hfw
  have hS := Z11x t hfit rows hr (by omega)
  have hRF := Znn t (Zn3 t hfit)
  have hFl := Znj t hfit
  have hcol := fun (he : (Z11u t rows).2 = 0) => @Z15o t rows hr he
  have hcl := @Z15n t rows
  have hL100 := Z1d1 t
  rw [Zlo] at hS hRF hFl
  generalize Z11u t rows = X at hS hcol hcl
  obtain ⟨cols, e⟩ := X
  generalize Zm3 t = L at hRF hFl hcol hcl hL100
  (repeat (first | refine st_q rfl rfl rfl ?_ | refine Z8v rfl (st_q rfl rfl rfl ?_) | refine Z92 rfl Z8z rfl rfl ?_ | refine Z8v rfl (Z92 rfl Z8z rfl rfl ?_) | refine Zby rfl rfl ?_ | refine Z8v rfl (Zby rfl rfl ?_) | refine Z8w rfl ?_ | refine Z8x rfl ?_ | (refine Z8y ?_; (repeat (first | refine Z9v rfl ?_ | refine Z9w ?_)); refine Z9u ?_) | refine awp_seq ?_ | refine Zbm (fun _ _ => rfl) ?_ | refine Z8h ?_ | refine Zbn (fun _ _ => rfl) ?_ | refine Zbo (fun _ _ => rfl) ?_ | refine Z8f (t := true) rfl (fun _ => ?_) (fun e => by cases e) | refine Z8f (t := false) rfl (fun e => by cases e) (fun _ => ?_)))
  (first | refine Z9t rfl (hS _) ?_ | refine Z8v rfl (Z9t rfl (hS _) ?_) | refine Zbw rfl hS ?_ | refine Z8v rfl (Zbw rfl hS ?_))
  (repeat (first | refine st_q rfl rfl rfl ?_ | refine Z8v rfl (st_q rfl rfl rfl ?_) | refine Z92 rfl Z8z rfl rfl ?_ | refine Z8v rfl (Z92 rfl Z8z rfl rfl ?_) | refine Zby rfl rfl ?_ | refine Z8v rfl (Zby rfl rfl ?_) | refine Z8w rfl ?_ | refine Z8x rfl ?_ | (refine Z8y ?_; (repeat (first | refine Z9v rfl ?_ | refine Z9w ?_)); refine Z9u ?_) | refine awp_seq ?_ | refine Zbm (fun _ _ => rfl) ?_ | refine Z8h ?_ | refine Zbn (fun _ _ => rfl) ?_ | refine Zbo (fun _ _ => rfl) ?_ | refine Z8f (t := true) rfl (fun _ => ?_) (fun e => by cases e) | refine Z8f (t := false) rfl (fun e => by cases e) (fun _ => ?_)))
  by_cases he : e = 0
  rotate_left
  · rw [show decide (((cols, e).snd : Int) ≠ 0) = true from decide_eq_true (by simp; omega)]
    (repeat (first | refine st_q rfl rfl rfl ?_ | refine Z8v rfl (st_q rfl rfl rfl ?_) | refine Z92 rfl Z8z rfl rfl ?_ | refine Z8v rfl (Z92 rfl Z8z rfl rfl ?_) | refine Zby rfl rfl ?_ | refine Z8v rfl (Zby rfl rfl ?_) | refine Z8w rfl ?_ | refine Z8x rfl ?_ | (refine Z8y ?_; (repeat (first | refine Z9v rfl ?_ | refine Z9w ?_)); refine Z9u ?_) | refine awp_seq ?_ | refine Zbm (fun _ _ => rfl) ?_ | refine Z8h ?_ | refine Zbn (fun _ _ => rfl) ?_ | refine Zbo (fun _ _ => rfl) ?_ | refine Z8f (t := true) rfl (fun _ => ?_) (fun e => by cases e) | refine Z8f (t := false) rfl (fun e => by cases e) (fun _ => ?_)))
    refine Z8d ?_
    exact ares rfl (HSub.refl _) rfl
  rw [show decide (((cols, e).snd : Int) ≠ 0) = false from decide_eq_false (by simp; omega)]
  have hcol := fun (j : Nat) (c : Col) => @hcol he j c
  have hcl := hcl he
  simp only at hcol hcl
  (repeat (first | refine st_q rfl rfl rfl ?_ | refine Z8v rfl (st_q rfl rfl rfl ?_) | refine Z92 rfl Z8z rfl rfl ?_ | refine Z8v rfl (Z92 rfl Z8z rfl rfl ?_) | refine Zby rfl rfl ?_ | refine Z8v rfl (Zby rfl rfl ?_) | refine Z8w rfl ?_ | refine Z8x rfl ?_ | (refine Z8y ?_; (repeat (first | refine Z9v rfl ?_ | refine Z9w ?_)); refine Z9u ?_) | refine awp_seq ?_ | refine Zbm (fun _ _ => rfl) ?_ | refine Z8h ?_ | refine Zbn (fun _ _ => rfl) ?_ | refine Zbo (fun _ _ => rfl) ?_ | refine Z8f (t := true) rfl (fun _ => ?_) (fun e => by cases e) | refine Z8f (t := false) rfl (fun e => by cases e) (fun _ => ?_)))
  (first | refine Z9t rfl (hRF _) ?_ | refine Z8v rfl (Z9t rfl (hRF _) ?_) | refine Zbw rfl hRF ?_ | refine Z8v rfl (Zbw rfl hRF ?_))
  (repeat (first | refine st_q rfl rfl rfl ?_ | refine Z8v rfl (st_q rfl rfl rfl ?_) | refine Z92 rfl Z8z rfl rfl ?_ | refine Z8v rfl (Z92 rfl Z8z rfl rfl ?_) | refine Zby rfl rfl ?_ | refine Z8v rfl (Zby rfl rfl ?_) | refine Z8w rfl ?_ | refine Z8x rfl ?_ | (refine Z8y ?_; (repeat (first | refine Z9v rfl ?_ | refine Z9w ?_)); refine Z9u ?_) | refine awp_seq ?_ | refine Zbm (fun _ _ => rfl) ?_ | refine Z8h ?_ | refine Zbn (fun _ _ => rfl) ?_ | refine Zbo (fun _ _ => rfl) ?_ | refine Z8f (t := true) rfl (fun _ => ?_) (fun e => by cases e) | refine Z8f (t := false) rfl (fun e => by cases e) (fun _ => ?_)))
  (first | refine Z9t rfl (hFl _) ?_ | refine Z8v rfl (Z9t rfl (hFl _) ?_) | refine Zbw rfl hFl ?_ | refine Z8v rfl (Zbw rfl hFl ?_))
  (repeat (first | refine st_q rfl rfl rfl ?_ | refine Z8v rfl (st_q rfl rfl rfl ?_) | refine Z92 rfl Z8z rfl rfl ?_ | refine Z8v rfl (Z92 rfl Z8z rfl rfl ?_) | refine Zby rfl rfl ?_ | refine Z8v rfl (Zby rfl rfl ?_) | refine Z8w rfl ?_ | refine Z8x rfl ?_ | (refine Z8y ?_; (repeat (first | refine Z9v rfl ?_ | refine Z9w ?_)); refine Z9u ?_) | refine awp_seq ?_ | refine Zbm (fun _ _ => rfl) ?_ | refine Z8h ?_ | refine Zbn (fun _ _ => rfl) ?_ | refine Zbo (fun _ _ => rfl) ?_ | refine Z8f (t := true) rfl (fun _ => ?_) (fun e => by cases e) | refine Z8f (t := false) rfl (fun e => by cases e) (fun _ => ?_)))
  rw [List.length_map, List.length_map]
  (rw [show decide ((L.length : Int) ≠ (L.length : Int)) = false from decide_eq_false (by omega)])
  (repeat (first | refine st_q rfl rfl rfl ?_ | refine Z8v rfl (st_q rfl rfl rfl ?_) | refine Z92 rfl Z8z rfl rfl ?_ | refine Z8v rfl (Z92 rfl Z8z rfl rfl ?_) | refine Zby rfl rfl ?_ | refine Z8v rfl (Zby rfl rfl ?_) | refine Z8w rfl ?_ | refine Z8x rfl ?_ | (refine Z8y ?_; (repeat (first | refine Z9v rfl ?_ | refine Z9w ?_)); refine Z9u ?_) | refine awp_seq ?_ | refine Zbm (fun _ _ => rfl) ?_ | refine Z8h ?_ | refine Zbn (fun _ _ => rfl) ?_ | refine Zbo (fun _ _ => rfl) ?_ | refine Z8f (t := true) rfl (fun _ => ?_) (fun e => by cases e) | refine Z8f (t := false) rfl (fun e => by cases e) (fun _ => ?_)))
  refine Zaa (fun m F σ' => ∃ (i : Nat), F = fset 5 (some (.slc 5 (cols.map encC) false)) (fset 7 (some (.slc 9 (L.map encR) false)) (fset 8 (some (.slc 8 (L.map encN) true)) (fset 9 (some (.int .i64 (i : Int))) Z27))) ∧
    σ1 = σ' ∧ i ≤ L.length ∧ m = L.length - i) (n := L.length) ⟨0, rfl, rfl, by omega, rfl⟩ ?_
  rintro m F σ' ⟨i, rfl, rfl, hi, rfl⟩
  (repeat (first | refine st_q rfl rfl rfl ?_ | refine Z8v rfl (st_q rfl rfl rfl ?_) | refine Z92 rfl Z8z rfl rfl ?_ | refine Z8v rfl (Z92 rfl Z8z rfl rfl ?_) | refine Zby rfl rfl ?_ | refine Z8v rfl (Zby rfl rfl ?_) | refine Z8w rfl ?_ | refine Z8x rfl ?_ | (refine Z8y ?_; (repeat (first | refine Z9v rfl ?_ | refine Z9w ?_)); refine Z9u ?_) | refine awp_seq ?_ | refine Zbm (fun _ _ => rfl) ?_ | refine Z8h ?_ | refine Zbn (fun _ _ => rfl) ?_ | refine Zbo (fun _ _ => rfl) ?_ | refine Z8f (t := true) rfl (fun _ => ?_) (fun e => by cases e) | refine Z8f (t := false) rfl (fun e => by cases e) (fun _ => ?_)))
  rw [List.length_map]
  refine Za3 (p := (i : Int) < (L.length : Int)) rfl (fun h5 => ?_) (fun h5 => ?_)
  · have hil : i < L.length := by omega
    have hic : i < cols.length := by omega
    have hok := hcol i cols[i] (List.getElem?_eq_getElem hic)
    rw [Z1d2 hil] at hok
    have hgN := Zyu (f := encN) hil
    have hgR := Zyu (f := encR) hil
    have hgC := Zyu (f := encC) hic
    generalize L[i] = nd at hok hgN hgR
    generalize cols[i] = c at hok hgC
    have hO := c_Of nd.t.kind (Zm1 nd) rfl rfl (Z1d4 nd) c hok.fit
    have hE := Zz5 nd.t.kind (Zm1 nd) rfl rfl (Z1d4 nd)
    have hRO := Z1cp (Zln nd.t) nd.t.kind rfl rfl (Z1d5 nd.t) c hok.fit hok.good
    have hRO0 := Z1cp (Zln nd.t) nd.t.kind rfl rfl (Z1d5 nd.t) col0 (Z1d3 nd.t.kind).fit (Z1d3 nd.t.kind).good
    rw [Z14j _ _ hok.good] at hRO
    rw [Z14j _ _ (Z1d3 nd.t.kind).good] at hRO0
    have hB := Z1cz (Zln nd.t) nd.t.kind rfl rfl (Z1d5 nd.t) c hok
    have hf1 := Z1cw hok
    have hf0 := Z1cw (Z1d3 nd.t.kind)
    have hE : ∀ σ, Z1q Try.prog Zcx [.agg (Zm1 nd)] σ fun r σ' => r = encS (ofF nd.t.kind col0) ∧ σ' = σ := hE
    generalize ofF nd.t.kind col0 = E at hE hRO0 hf0
    generalize ofF nd.t.kind c = X at hO hRO hB hf1
    have hS1 := Z16a X X hf1.1 hf1.2
    have hS0 := Z16a E E hf0.1 hf0.2
    rw [Z169] at hS1 hS0
    (repeat (first | refine st_q rfl rfl rfl ?_ | refine Z8v rfl (st_q rfl rfl rfl ?_) | refine Z92 rfl Z8z rfl rfl ?_ | refine Z8v rfl (Z92 rfl Z8z rfl rfl ?_) | refine Zby rfl rfl ?_ | refine Z8v rfl (Zby rfl rfl ?_) | refine Z8w rfl ?_ | refine Z8x rfl ?_ | (refine Z8y ?_; (repeat (first | refine Z9v rfl ?_ | refine Z9w ?_)); refine Z9u ?_) | refine awp_seq ?_ | refine Zbm (fun _ _ => rfl) ?_ | refine Z8h ?_ | refine Zbn (fun _ _ => rfl) ?_ | refine Zbo (fun _ _ => rfl) ?_ | refine Z8f (t := true) rfl (fun _ => ?_) (fun e => by cases e) | refine Z8f (t := false) rfl (fun e => by cases e) (fun _ => ?_)))
    refine Z93 rfl (by omega) hgN ?_
    (repeat (refine st_q rfl rfl rfl ?_))
    refine Z93 rfl (by omega) hgC ?_
    (repeat (refine st_q rfl rfl rfl ?_))
    (first | refine Z9t rfl ((Zzh c) _) ?_ | refine Z8v rfl (Z9t rfl ((Zzh c) _) ?_) | refine Zbw rfl (Zzh c) ?_ | refine Z8v rfl (Zbw rfl (Zzh c) ?_))
    (first | refine Z9t rfl (hO _) ?_ | refine Z8v rfl (Z9t rfl (hO _) ?_) | refine Zbw rfl hO ?_ | refine Z8v rfl (Zbw rfl hO ?_))
    refine Z9k (by simp [Z0.cells, Z0.one]) fun b10 hb10 => ?_
    (first | refine Z9a rfl Z8z rfl (by decide) (Z0.fit_iff.1 rfl) (fun h => by cases h) Z9b ?_ | refine Z8v rfl (Z9a rfl Z8z rfl (by decide) (Z0.fit_iff.1 rfl) (fun h => by cases h) Z9b ?_))
    (refine Z8y ?_; (repeat (first | refine Z9v rfl ?_ | refine Z9w ?_)); refine Z9u ?_)
    refine Zb3 (d := 10) (cs := Zyn X) rfl ?_
    (repeat (first | refine st_q rfl rfl rfl ?_ | refine Z8v rfl (st_q rfl rfl rfl ?_) | refine Z92 rfl Z8z rfl rfl ?_ | refine Z8v rfl (Z92 rfl Z8z rfl rfl ?_) | refine Zby rfl rfl ?_ | refine Z8v rfl (Zby rfl rfl ?_) | refine Z8w rfl ?_ | refine Z8x rfl ?_ | (refine Z8y ?_; (repeat (first | refine Z9v rfl ?_ | refine Z9w ?_)); refine Z9u ?_) | refine awp_seq ?_ | refine Zbm (fun _ _ => rfl) ?_ | refine Z8h ?_ | refine Zbn (fun _ _ => rfl) ?_ | refine Zbo (fun _ _ => rfl) ?_ | refine Z8f (t := true) rfl (fun _ => ?_) (fun e => by cases e) | refine Z8f (t := false) rfl (fun e => by cases e) (fun _ => ?_)))
    (first | refine Z9t rfl ((Zzi X) _) ?_ | refine Z8v rfl (Z9t rfl ((Zzi X) _) ?_) | refine Zbw rfl (Zzi X) ?_ | refine Z8v rfl (Zbw rfl (Zzi X) ?_))
    (repeat (refine st_q rfl rfl rfl ?_))
    refine Z93 rfl (by omega) hgR ?_
    (repeat (refine st_q rfl rfl rfl ?_))
    refine Z93 rfl (by omega) hgC ?_
    (repeat (refine st_q rfl rfl rfl ?_))
    (first | refine Z9t rfl (hRO _) ?_ | refine Z8v rfl (Z9t rfl (hRO _) ?_) | refine Zbw rfl hRO ?_ | refine Z8v rfl (Zbw rfl hRO ?_))
    (first | refine Z9t rfl (hS1 _) ?_ | refine Z8v rfl (Z9t rfl (hS1 _) ?_) | refine Zbw rfl hS1 ?_ | refine Z8v rfl (Zbw rfl hS1 ?_))
    (repeat (first | refine st_q rfl rfl rfl ?_ | refine Z8v rfl (st_q rfl rfl rfl ?_) | refine Z8w rfl ?_ | refine Z8x rfl ?_))
    refine Z8v rfl (Z93 rfl (by omega) hgN ?_)
    (repeat (first | refine st_q rfl rfl rfl ?_ | refine Z8v rfl (st_q rfl rfl rfl ?_) | refine Z8w rfl ?_ | refine Z8x rfl ?_))
    (first | refine Z9t rfl (hE _) ?_ | refine Z8v rfl (Z9t rfl (hE _) ?_) | refine Zbw rfl hE ?_ | refine Z8v rfl (Zbw rfl hE ?_))
    (first | refine Z9t rfl ((Zzi E) _) ?_ | refine Z8v rfl (Z9t rfl ((Zzi E) _) ?_) | refine Zbw rfl (Zzi E) ?_ | refine Z8v rfl (Zbw rfl (Zzi E) ?_))
    (repeat (first | refine st_q rfl rfl rfl ?_ | refine Z8v rfl (st_q rfl rfl rfl ?_) | refine Z8w rfl ?_ | refine Z8x rfl ?_))
    refine Z8v rfl (Z93 rfl (by omega) hgR ?_)
    (repeat (first | refine st_q rfl rfl rfl ?_ | refine Z8v rfl (st_q rfl rfl rfl ?_) | refine Z8w rfl ?_ | refine Z8x rfl ?_))
    refine Z8v rfl (Z9t rfl (Z1q.args (VRle.same (by (repeat (first | exact VRle.refl _ | exact Zc4 | refine Zc5 rfl rfl ?_ | refine Zc6 rfl ?_ | refine Zc3 ?_ ?_)))) (hRO0 _)) ?_)
    (first | refine Z9t rfl (hS0 _) ?_ | refine Z8v rfl (Z9t rfl (hS0 _) ?_) | refine Zbw rfl hS0 ?_ | refine Z8v rfl (Zbw rfl hS0 ?_))
    (repeat (first | refine st_q rfl rfl rfl ?_ | refine Z8v rfl (st_q rfl rfl rfl ?_) | refine Z92 rfl Z8z rfl rfl ?_ | refine Z8v rfl (Z92 rfl Z8z rfl rfl ?_) | refine Zby rfl rfl ?_ | refine Z8v rfl (Zby rfl rfl ?_) | refine Z8w rfl ?_ | refine Z8x rfl ?_ | (refine Z8y ?_; (repeat (first | refine Z9v rfl ?_ | refine Z9w ?_)); refine Z9u ?_) | refine awp_seq ?_ | refine Zbm (fun _ _ => rfl) ?_ | refine Z8h ?_ | refine Zbn (fun _ _ => rfl) ?_ | refine Zbo (fun _ _ => rfl) ?_ | refine Z8f (t := true) rfl (fun _ => ?_) (fun e => by cases e) | refine Z8f (t := false) rfl (fun e => by cases e) (fun _ => ?_)))
    refine Z93 rfl (by omega) hgR ?_
    (repeat (refine st_q rfl rfl rfl ?_))
    refine Z93 rfl (by omega) hgC ?_
    (repeat (refine st_q rfl rfl rfl ?_))
    (first | refine Z9t rfl (hB _) ?_ | refine Z8v rfl (Z9t rfl (hB _) ?_) | refine Zbw rfl hB ?_ | refine Z8v rfl (Zbw rfl hB ?_))
    (repeat (first | refine st_q rfl rfl rfl ?_ | refine Z8v rfl (st_q rfl rfl rfl ?_) | refine Z92 rfl Z8z rfl rfl ?_ | refine Z8v rfl (Z92 rfl Z8z rfl rfl ?_) | refine Zby rfl rfl ?_ | refine Z8v rfl (Zby rfl rfl ?_) | refine Z8w rfl ?_ | refine Z8x rfl ?_ | (refine Z8y ?_; (repeat (first | refine Z9v rfl ?_ | refine Z9w ?_)); refine Z9u ?_) | refine awp_seq ?_ | refine Zbm (fun _ _ => rfl) ?_ | refine Z8h ?_ | refine Zbn (fun _ _ => rfl) ?_ | refine Zbo (fun _ _ => rfl) ?_ | refine Z8f (t := true) rfl (fun _ => ?_) (fun e => by cases e) | refine Z8f (t := false) rfl (fun e => by cases e) (fun _ => ?_)))
    refine Zbp ?_
    (repeat (refine st_q rfl rfl rfl ?_))
    rw [show IntKind.wrap .i64 ((i : Int) + 1) = ((i + 1 : Nat) : Int) by rw [w64 _ (by omega) (by omega)]; omega]
    (refine Z8y ?_; (repeat (first | refine Z9v rfl ?_ | refine Z9w ?_)); refine Z9u ?_)
    exact ⟨_, L.length - (i + 1), HSub.refl _, ⟨i + 1, rfl, rfl, by omega, rfl⟩, by omega⟩
  · (repeat (first | refine st_q rfl rfl rfl ?_ | refine Z8v rfl (st_q rfl rfl rfl ?_) | refine Z92 rfl Z8z rfl rfl ?_ | refine Z8v rfl (Z92 rfl Z8z rfl rfl ?_) | refine Zby rfl rfl ?_ | refine Z8v rfl (Zby rfl rfl ?_) | refine Z8w rfl ?_ | refine Z8x rfl ?_ | (refine Z8y ?_; (repeat (first | refine Z9v rfl ?_ | refine Z9w ?_)); refine Z9u ?_) | refine awp_seq ?_ | refine Zbm (fun _ _ => rfl) ?_ | refine Z8h ?_ | refine Zbn (fun _ _ => rfl) ?_ | refine Zbo (fun _ _ => rfl) ?_ | refine Z8f (t := true) rfl (fun _ => ?_) (fun e => by cases e) | refine Z8f (t := false) rfl (fun e => by cases e) (fun _ => ?_)))
    refine Z8d ?_
    exact ares rfl (HSub.refl _) rfl
end Go.Abs
namespace Go.Abs
open Go Go.Proofs
set_option linter.unusedVariables false
set_option linter.unusedSimpArgs false
theorem Z1d7 : Try.prog.cellsOf 25 = 6 := by kernel_rfl
theorem Z1d8 : Try.prog.cellsOf 38 = 5 := by kernel_rfl
theorem Z1d9 : Try.prog.cellsOf 9 = 1 := by kernel_rfl
theorem Z1da : Try.prog.cellsOf 5 = 1 := by kernel_rfl
theorem Z1db {α : Type} {f : α → Z0} {p : α → Prop} : ∀ {xs : List Z0}, (∀ x ∈ xs, ∃ a, x = f a ∧ p a) → ∃ l : List α, xs = l.map f ∧ ∀ a ∈ l, p a := fun h => Zbl h
theorem Z1dc {t : TypeId} {a : Z0} (h : Has Try.prog t a) : (t = 25 → ∃ ty : Ty, a = encT ty) ∧ (t = 23 → ∃ ks : List Ty, a = .slc 6 (Zlm ks) false) := by
  induction h with
  | bool h => exact ⟨fun e => (by subst e; rw [Try.underlying25] at h; cases h), fun e => (by subst e; rw [Try.underlying23] at h; cases h)⟩
  | int h _ => exact ⟨fun e => (by subst e; rw [Try.underlying25] at h; cases h), fun e => (by subst e; rw [Try.underlying23] at h; cases h)⟩
  | str h _ => exact ⟨fun e => (by subst e; rw [Try.underlying25] at h; cases h), fun e => (by subst e; rw [Try.underlying23] at h; cases h)⟩
  | @slc t e xs h hl hx ih =>
    refine ⟨fun e => (by subst e; rw [Try.underlying25] at h; cases h), fun e => ?_⟩
    subst e
    rw [Try.underlying23] at h
    simp only [Option.some.injEq, TypeDesc.slice.injEq] at h
    subst h
    obtain ⟨ks, rfl, _⟩ := Z1db (f := encT) (p := fun _ => True) (fun x hm => by
      obtain ⟨ty, e⟩ := (ih x hm).1 rfl
      exact ⟨ty, e, trivial⟩)
    exact ⟨ks, by rw [Z1d7, Zlp]⟩
  | @agg t fs ys h hn hy ih =>
    refine ⟨fun e => ?_, fun e => (by subst e; rw [Try.underlying23] at h; cases h)⟩
    subst e
    rw [Try.underlying25] at h
    simp only [Option.some.injEq, TypeDesc.struct.injEq] at h
    subst h
    match ys, hn with
    | [y0, y1, y2, y3, y4, y5], _ =>
    obtain ⟨k, rfl, _⟩ := (hy 0 _ y0 rfl rfl).int_inv Try.underlying3
    obtain ⟨xs, rfl, _, hx⟩ := (hy 1 _ y1 rfl rfl).slc_inv Try.underlying22
    obtain ⟨ks, rfl⟩ := (ih 2 _ y2 rfl rfl).2 rfl
    obtain ⟨l, rfl, _⟩ := (hy 3 _ y3 rfl rfl).int_inv Try.underlying3
    obtain ⟨p, rfl, _⟩ := (hy 4 _ y4 rfl rfl).int_inv Try.underlying3
    obtain ⟨s, rfl, _⟩ := (hy 5 _ y5 rfl rfl).int_inv Try.underlying3
    obtain ⟨ns, rfl, _⟩ := Z1db (f := Z0.str) (p := fun _ => True) (fun x hm => by
      obtain ⟨s, e, _⟩ := (hx x hm).str_inv Try.underlying9
      exact ⟨s, e, trivial⟩)
    refine ⟨.mk k ns ks l p s, ?_⟩
    rw [Z1d9, Zlo]
    rfl
theorem Z1dd {t : TypeId} {a : Z0} (h : Has Try.prog t a) : (t = 38 → ∃ v : Vl, a = encV v ∧ v.Fit) ∧ (t = 26 → ∃ vs : List Vl, a = .slc 5 (Zm4 vs) false ∧ (∀ v ∈ vs, v.Fit) ∧ vs.length ≤ 9223372036854775807) := by
  induction h with
  | bool h => exact ⟨fun e => (by subst e; rw [Try.underlying38] at h; cases h), fun e => (by subst e; rw [Try.underlying26] at h; cases h)⟩
  | int h _ => exact ⟨fun e => (by subst e; rw [Try.underlying38] at h; cases h), fun e => (by subst e; rw [Try.underlying26] at h; cases h)⟩
  | str h _ => exact ⟨fun e => (by subst e; rw [Try.underlying38] at h; cases h), fun e => (by subst e; rw [Try.underlying26] at h; cases h)⟩
  | @slc t e xs h hl hx ih =>
    refine ⟨fun e => (by subst e; rw [Try.underlying38] at h; cases h), fun e => ?_⟩
    subst e
    rw [Try.underlying26] at h
    simp only [Option.some.injEq, TypeDesc.slice.injEq] at h
    subst h
    obtain ⟨vs, rfl, hv⟩ := Z1db (f := encV) (p := Vl.Fit) (fun x hm => (ih x hm).1 rfl)
    exact ⟨vs, by rw [Z1d8, Zm7], hv, by simpa [maxLen] using hl⟩
  | @agg t fs ys h hn hy ih =>
    refine ⟨fun e => ?_, fun e => (by subst e; rw [Try.underlying26] at h; cases h)⟩
    subst e
    rw [Try.underlying38] at h
    simp only [Option.some.injEq, TypeDesc.struct.injEq] at h
    subst h
    match ys, hn with
    | [y0, y1, y2, y3, y4], _ =>
    obtain ⟨nu, rfl⟩ := (hy 0 _ y0 rfl rfl).bool_inv Try.underlying4
    obtain ⟨i, rfl, w1⟩ := (hy 1 _ y1 rfl rfl).int_inv Try.underlying2
    obtain ⟨n, rfl, _⟩ := (hy 2 _ y2 rfl rfl).int_inv Try.underlying3
    obtain ⟨b, rfl, hb⟩ := (hy 3 _ y3 rfl rfl).bytes_inv Try.underlying36 Try.underlying5 Z1da
    obtain ⟨ks, rfl, hk, hkl⟩ := (ih 4 _ y4 rfl rfl).2 rfl
    refine ⟨.mk nu i n b ks, ?_, .mk (Zbi w1) (by simpa [maxLen, Vl.b] using hb) hkl hk⟩
    rw [Zm6]
    rfl
end Go.Abs
namespace Go.Abs
open Go Go.Proofs
set_option linter.unusedVariables false
set_option linter.unusedSimpArgs false
set_option maxHeartbeats 4000000
attribute [local irreducible] AWp aops KP
theorem Z1de {k : Int} {c : Col} (h : (smC k c).2 = true) : (smC k c).1 = ((valsC c).map (·.2)).sum := by
  have := (Z15a _ _ h).2
  rw [smC, this]; simp
theorem Z1df {k : Int} {c : Col} (h : (ofF k c).has = false) : spOf (ofF k c) = sp0 := by
  rw [Z15v]
  refine (Z151 k c).zero ?_
  rw [Z14x] at h
  exact h
theorem Z1dg {k : Int} {a b : Col} (ha : ColOk k a) (hb : ColOk k b) : ∃ (su : Bool) (sm : Int), Zz9 k (ofF k a) (ofF k b) = ⟨(ofF k (appC a b)).count, (ofF k (appC a b)).null, (ofF k (appC a b)).has, (ofF k (appC a b)).min, (ofF k (appC a b)).max, su, sm⟩ ∧
    (su = true → (ofF k (appC a b)).sums = true → sm = (ofF k (appC a b)).sum) := by
  have hsp := Z15w ha.good hb.good
  have e : (if (ofF k b).has = true then spOf (ofF k b) else sp0) = spC k b := by
    split
    · exact Z15v k b
    · rename_i h; rw [← Z15v]; exact (Z1df (by simpa using h)).symm
  have hcnt : IntKind.wrap .i64 ((ofF k a).count + (ofF k b).count) = (ofF k (appC a b)).count := by
    rw [Z14x, Z14x, Z14x]
    have h1 : a.here.count true ≤ a.here.length := List.count_le_length
    have h2 : b.here.count true ≤ b.here.length := List.count_le_length
    have h3 := ha.fit.here
    have h4 := hb.fit.here
    show IntKind.wrap .i64 ((a.here.count true : Nat) + (b.here.count true : Nat) : Int) = (((appC a b).here.count true : Nat) : Int)
    rw [w64 _ (by omega) (by omega)]
    simp [appC, List.count_append]
  refine ⟨(Zz7 (ofF k a) (ofF k b)).sums, (Zz7 (ofF k a) (ofF k b)).sum, ?_, ?_⟩
  · rw [Z157 k _ _ Z1df, e, Z15v, hsp, hcnt]
    rw [Z14x k (appC a b)]
    rw [Z14x k a, Z14x k b, Z15r]
  · intro h1 h2
    have hm := Z15t (ofF k a) (ofF k b) (Z1c3 ha.fit).sum
    simp only [Prod.mk.injEq] at hm
    rw [hm.1] at h1
    rw [hm.2]
    split at h1
    · rename_i hab
      rw [if_pos hab]
      obtain ⟨hsa, hsb⟩ := hab
      have e1 : (addF (ofF k a).sum (ofF k b).sum).1 = (ofF k a).sum + (ofF k b).sum := by
        unfold addF at h1 ⊢
        split at h1
        · rename_i h3; rw [if_pos h3]
        · cases h1
      rw [e1]
      rw [Z14x] at hsa hsb h2
      have e2 : (ofF k a).sum = ((valsC a).map (·.2)).sum := by rw [Z14x]; exact Z1de hsa
      have e3 : (ofF k b).sum = ((valsC b).map (·.2)).sum := by rw [Z14x]; exact Z1de hsb
      have e4 : (ofF k (appC a b)).sum = ((valsC (appC a b)).map (·.2)).sum := by rw [Z14x]; exact Z1de h2
      rw [e2, e3, e4, Z15q ha.good hb.good, List.map_append, List.sum_append]
    · cases h1
theorem Z1dh {xs cs : List Col} {i : Nat} {a b : Col} (h1 : xs[i]? = some a) (h2 : cs[i]? = some b) : (appCs xs cs)[i]? = some (appC a b) := by
  simp [appCs, List.getElem?_zipWith, h1, h2]
theorem Z1di (rows : List Vl) (n : Nat) : (Zm4 rows).take n = Zm4 (rows.take n) := by simp [Zm7, List.map_take]
theorem Z1dj (rows : List Vl) (n : Nat) : (Zm4 rows).drop n = Zm4 (rows.drop n) := by simp [Zm7, List.map_drop]
theorem Z1dk (t : Ty) (rows : List Vl) (hr : ∀ v ∈ rows, v.Fit) (cut : Int) (σ : Zc) : Z1q Try.prog Zc9 [encT t, .slc 5 (Zm4 rows) false, .int .i64 cut] σ fun r σ' => r = .bool true := by
  have hFew := Z1ci t rows false
  rw [Zlo] at hFew ⊢
  refine Z8t rfl Z1b9 (Nat.le_of_ble_eq_true rfl) ?_
  refine Z9z ?_
  refine Z9j rfl (Z0.fit_iff.1 rfl) fun b2 hb2 => ?_
  (repeat (refine st_q rfl rfl rfl ?_))
  (refine Z8y ?_; (repeat (first | refine Z9v rfl ?_ | refine Z9w ?_)); refine Z9u ?_)
  refine Zb3 (d := 3) (cs := Zln t) rfl ?_
  (repeat (first | refine st_q rfl rfl rfl ?_ | refine Z8v rfl (st_q rfl rfl rfl ?_) | refine Z92 rfl Z8z rfl rfl ?_ | refine Z8v rfl (Z92 rfl Z8z rfl rfl ?_) | refine Zby rfl rfl ?_ | refine Z8v rfl (Zby rfl rfl ?_) | refine Z8w rfl ?_ | refine Z8x rfl ?_ | (refine Z8y ?_; (repeat (first | refine Z9v rfl ?_ | refine Z9w ?_)); refine Z9u ?_) | refine awp_seq ?_ | refine Zbm (fun _ _ => rfl) ?_ | refine Z8h ?_ | refine Zbn (fun _ _ => rfl) ?_ | refine Zbo (fun _ _ => rfl) ?_ | refine Z8f (t := true) rfl (fun _ => ?_) (fun e => by cases e) | refine Z8f (t := false) rfl (fun e => by cases e) (fun _ => ?_)))
  refine Z9s rfl (Z1bw _) ⟨_, σ, rfl⟩ ?_
  rintro r σ1 rfl
  (repeat (first | refine st_q rfl rfl rfl ?_ | refine Z8v rfl (st_q rfl rfl rfl ?_) | refine Z92 rfl Z8z rfl rfl ?_ | refine Z8v rfl (Z92 rfl Z8z rfl rfl ?_) | refine Zby rfl rfl ?_ | refine Z8v rfl (Zby rfl rfl ?_) | refine Z8w rfl ?_ | refine Z8x rfl ?_ | (refine Z8y ?_; (repeat (first | refine Z9v rfl ?_ | refine Z9w ?_)); refine Z9u ?_) | refine awp_seq ?_ | refine Zbm (fun _ _ => rfl) ?_ | refine Z8h ?_ | refine Zbn (fun _ _ => rfl) ?_ | refine Zbo (fun _ _ => rfl) ?_ | refine Z8f (t := true) rfl (fun _ => ?_) (fun e => by cases e) | refine Z8f (t := false) rfl (fun e => by cases e) (fun _ => ?_)))
  (first | refine Z9t rfl (hFew _) ?_ | refine Z8v rfl (Z9t rfl (hFew _) ?_) | refine Zbw rfl hFew ?_ | refine Z8v rfl (Zbw rfl hFew ?_))
  cases hfw : few15 t rows with
  | false =>
    (repeat (first | refine st_q rfl rfl rfl ?_ | refine Z8v rfl (st_q rfl rfl rfl ?_) | refine Z92 rfl Z8z rfl rfl ?_ | refine Z8v rfl (Z92 rfl Z8z rfl rfl ?_) | refine Zby rfl rfl ?_ | refine Z8v rfl (Zby rfl rfl ?_) | refine Z8w rfl ?_ | refine Z8x rfl ?_ | (refine Z8y ?_; (repeat (first | refine Z9v rfl ?_ | refine Z9w ?_)); refine Z9u ?_) | refine awp_seq ?_ | refine Zbm (fun _ _ => rfl) ?_ | refine Z8h ?_ | refine Zbn (fun _ _ => rfl) ?_ | refine Zbo (fun _ _ => rfl) ?_ | refine Z8f (t := true) rfl (fun _ => ?_) (fun e => by cases e) | refine Z8f (t := false) rfl (fun e => by cases e) (fun _ => ?_)))
    refine Z8d ?_
    exact ares rfl (HSub.refl _) rfl
  | true =>
  obtain ⟨hfit, hlen⟩ := Z1d0 hfw
  (repeat (first | refine st_q rfl rfl rfl ?_ | refine Z8v rfl (st_q rfl rfl rfl ?_) | refine Z92 rfl Z8z rfl rfl ?_ | refine Z8v rfl (Z92 rfl Z8z rfl rfl ?_) | refine Zby rfl rfl ?_ | refine Z8v rfl (Zby rfl rfl ?_) | refine Z8w rfl ?_ | refine Z8x rfl ?_ | (refine Z8y ?_; (repeat (first | refine Z9v rfl ?_ | refine Z9w ?_)); refine Z9u ?_) | refine awp_seq ?_ | refine Zbm (fun _ _ => rfl) ?_ | refine Z8h ?_ | refine Zbn (fun _ _ => rfl) ?_ | refine Zbo (fun _ _ => rfl) ?_ | refine Z8f (t := true) rfl (fun _ => ?_) (fun e => by cases e) | refine Z8f (t := false) rfl (fun e => by cases e) (fun _ => ?_)))
  by_cases hc0 : cut < 0
  · (rw [show decide (cut < 0) = true from decide_eq_true (by omega)])
    (repeat (first | refine st_q rfl rfl rfl ?_ | refine Z8v rfl (st_q rfl rfl rfl ?_) | refine Z92 rfl Z8z rfl rfl ?_ | refine Z8v rfl (Z92 rfl Z8z rfl rfl ?_) | refine Zby rfl rfl ?_ | refine Z8v rfl (Zby rfl rfl ?_) | refine Z8w rfl ?_ | refine Z8x rfl ?_ | (refine Z8y ?_; (repeat (first | refine Z9v rfl ?_ | refine Z9w ?_)); refine Z9u ?_) | refine awp_seq ?_ | refine Zbm (fun _ _ => rfl) ?_ | refine Z8h ?_ | refine Zbn (fun _ _ => rfl) ?_ | refine Zbo (fun _ _ => rfl) ?_ | refine Z8f (t := true) rfl (fun _ => ?_) (fun e => by cases e) | refine Z8f (t := false) rfl (fun e => by cases e) (fun _ => ?_)))
    refine Z8d ?_
    exact ares rfl (HSub.refl _) rfl
  (rw [show decide (cut < 0) = false from decide_eq_false (by omega)])
  (repeat (first | refine st_q rfl rfl rfl ?_ | refine Z8v rfl (st_q rfl rfl rfl ?_) | refine Z92 rfl Z8z rfl rfl ?_ | refine Z8v rfl (Z92 rfl Z8z rfl rfl ?_) | refine Zby rfl rfl ?_ | refine Z8v rfl (Zby rfl rfl ?_) | refine Z8w rfl ?_ | refine Z8x rfl ?_ | (refine Z8y ?_; (repeat (first | refine Z9v rfl ?_ | refine Z9w ?_)); refine Z9u ?_) | refine awp_seq ?_ | refine Zbm (fun _ _ => rfl) ?_ | refine Z8h ?_ | refine Zbn (fun _ _ => rfl) ?_ | refine Zbo (fun _ _ => rfl) ?_ | refine Z8f (t := true) rfl (fun _ => ?_) (fun e => by cases e) | refine Z8f (t := false) rfl (fun e => by cases e) (fun _ => ?_)))
  rw [Zm8]
  by_cases hc1 : (rows.length : Int) < cut
  · (rw [show decide ((rows.length : Int) < cut) = true from decide_eq_true (by omega)])
    (repeat (first | refine st_q rfl rfl rfl ?_ | refine Z8v rfl (st_q rfl rfl rfl ?_) | refine Z92 rfl Z8z rfl rfl ?_ | refine Z8v rfl (Z92 rfl Z8z rfl rfl ?_) | refine Zby rfl rfl ?_ | refine Z8v rfl (Zby rfl rfl ?_) | refine Z8w rfl ?_ | refine Z8x rfl ?_ | (refine Z8y ?_; (repeat (first | refine Z9v rfl ?_ | refine Z9w ?_)); refine Z9u ?_) | refine awp_seq ?_ | refine Zbm (fun _ _ => rfl) ?_ | refine Z8h ?_ | refine Zbn (fun _ _ => rfl) ?_ | refine Zbo (fun _ _ => rfl) ?_ | refine Z8f (t := true) rfl (fun _ => ?_) (fun e => by cases e) | refine Z8f (t := false) rfl (fun e => by cases e) (fun _ => ?_)))
    refine Z8d ?_
    exact ares rfl (HSub.refl _) rfl
  (rw [show decide ((rows.length : Int) < cut) = false from decide_eq_false (by omega)])
  obtain ⟨n, rfl⟩ : ∃ n : Nat, cut = n := ⟨cut.toNat, by omega⟩
  have hn : n ≤ rows.length := by omega
  have hr1 : ∀ v ∈ rows.take n, v.Fit := fun v hv => hr v (List.mem_of_mem_take hv)
  have hr2 : ∀ v ∈ rows.drop n, v.Fit := fun v hv => hr v (List.mem_of_mem_drop hv)
  have hSa := Z11x t hfit (rows.take n) hr1 (by simp; omega)
  have hSb := Z11x t hfit (rows.drop n) hr2 (by simp; omega)
  have hSc := Z11x t hfit rows hr (by omega)
  have hRF := Znn t (Zn3 t hfit)
  have hFl := Znj t hfit
  have hcola := fun (he : (Z11u t (rows.take n)).2 = 0) => @Z15o t (rows.take n) hr1 he
  have hcolb := fun (he : (Z11u t (rows.drop n)).2 = 0) => @Z15o t (rows.drop n) hr2 he
  have hcolc := fun (he : (Z11u t rows).2 = 0) => @Z15o t rows hr he
  have hcla := @Z15n t (rows.take n)
  have hclb := @Z15n t (rows.drop n)
  have htwo := @Z15m t (rows.take n) (rows.drop n)
  rw [List.take_append_drop] at htwo
  have hL100 := Z1d1 t
  rw [Zlo] at hSa hSb hSc hRF hFl
  generalize Z11u t (rows.take n) = X at hSa hcola hcla htwo
  generalize Z11u t (rows.drop n) = Y at hSb hcolb hclb htwo
  generalize Z11u t rows = Z at hSc htwo hcolc
  obtain ⟨ca, ea⟩ := X
  obtain ⟨cb, eb⟩ := Y
  obtain ⟨cc, ec⟩ := Z
  generalize Zm3 t = L at hRF hFl hcola hcla hcolb hclb hcolc hL100
  (repeat (first | refine st_q rfl rfl rfl ?_ | refine Z8v rfl (st_q rfl rfl rfl ?_) | refine Z92 rfl Z8z rfl rfl ?_ | refine Z8v rfl (Z92 rfl Z8z rfl rfl ?_) | refine Zby rfl rfl ?_ | refine Z8v rfl (Zby rfl rfl ?_) | refine Z8w rfl ?_ | refine Z8x rfl ?_ | (refine Z8y ?_; (repeat (first | refine Z9v rfl ?_ | refine Z9w ?_)); refine Z9u ?_) | refine awp_seq ?_ | refine Zbm (fun _ _ => rfl) ?_ | refine Z8h ?_ | refine Zbn (fun _ _ => rfl) ?_ | refine Zbo (fun _ _ => rfl) ?_ | refine Z8f (t := true) rfl (fun _ => ?_) (fun e => by cases e) | refine Z8f (t := false) rfl (fun e => by cases e) (fun _ => ?_)))
  refine Z99 (a := 0) (b := (n : Int)) (c := (rows.length : Int)) rfl (by simp [bnds, Zm8]) (by simp [Zm8]; omega) ?_
  rw [show ((Zm4 rows).drop (0 : Int).toNat).take ((n : Int) - 0).toNat = Zm4 (rows.take n) by rw [← Z1di]; simp]
  (repeat (refine st_q rfl rfl rfl ?_))
  refine Z9t rfl (Z1q.args (VRle.same VRle.full) (hSa _)) ?_
  (repeat (first | refine st_q rfl rfl rfl ?_ | refine Z8v rfl (st_q rfl rfl rfl ?_) | refine Z92 rfl Z8z rfl rfl ?_ | refine Z8v rfl (Z92 rfl Z8z rfl rfl ?_) | refine Zby rfl rfl ?_ | refine Z8v rfl (Zby rfl rfl ?_) | refine Z8w rfl ?_ | refine Z8x rfl ?_ | (refine Z8y ?_; (repeat (first | refine Z9v rfl ?_ | refine Z9w ?_)); refine Z9u ?_) | refine awp_seq ?_ | refine Zbm (fun _ _ => rfl) ?_ | refine Z8h ?_ | refine Zbn (fun _ _ => rfl) ?_ | refine Zbo (fun _ _ => rfl) ?_ | refine Z8f (t := true) rfl (fun _ => ?_) (fun e => by cases e) | refine Z8f (t := false) rfl (fun e => by cases e) (fun _ => ?_)))
  refine Z99 (a := (n : Int)) (b := (rows.length : Int)) (c := (rows.length : Int)) rfl (by simp [bnds, Zm8]) (by simp [Zm8]; omega) ?_
  rw [show ((Zm4 rows).drop (n : Int).toNat).take ((rows.length : Int) - (n : Int)).toNat = Zm4 (rows.drop n) by
    rw [← Z1dj, Int.toNat_natCast]; exact List.take_of_length_le (by simp [Zm8])]
  (repeat (refine st_q rfl rfl rfl ?_))
  refine Z9t rfl (Z1q.args (VRle.same VRle.full) (hSb _)) ?_
  (repeat (first | refine st_q rfl rfl rfl ?_ | refine Z8v rfl (st_q rfl rfl rfl ?_) | refine Z92 rfl Z8z rfl rfl ?_ | refine Z8v rfl (Z92 rfl Z8z rfl rfl ?_) | refine Zby rfl rfl ?_ | refine Z8v rfl (Zby rfl rfl ?_) | refine Z8w rfl ?_ | refine Z8x rfl ?_ | (refine Z8y ?_; (repeat (first | refine Z9v rfl ?_ | refine Z9w ?_)); refine Z9u ?_) | refine awp_seq ?_ | refine Zbm (fun _ _ => rfl) ?_ | refine Z8h ?_ | refine Zbn (fun _ _ => rfl) ?_ | refine Zbo (fun _ _ => rfl) ?_ | refine Z8f (t := true) rfl (fun _ => ?_) (fun e => by cases e) | refine Z8f (t := false) rfl (fun e => by cases e) (fun _ => ?_)))
  (first | refine Z9t rfl (hSc _) ?_ | refine Z8v rfl (Z9t rfl (hSc _) ?_) | refine Zbw rfl hSc ?_ | refine Z8v rfl (Zbw rfl hSc ?_))
  (repeat (first | refine st_q rfl rfl rfl ?_ | refine Z8v rfl (st_q rfl rfl rfl ?_) | refine Z92 rfl Z8z rfl rfl ?_ | refine Z8v rfl (Z92 rfl Z8z rfl rfl ?_) | refine Zby rfl rfl ?_ | refine Z8v rfl (Zby rfl rfl ?_) | refine Z8w rfl ?_ | refine Z8x rfl ?_ | (refine Z8y ?_; (repeat (first | refine Z9v rfl ?_ | refine Z9w ?_)); refine Z9u ?_) | refine awp_seq ?_ | refine Zbm (fun _ _ => rfl) ?_ | refine Z8h ?_ | refine Zbn (fun _ _ => rfl) ?_ | refine Zbo (fun _ _ => rfl) ?_ | refine Z8f (t := true) rfl (fun _ => ?_) (fun e => by cases e) | refine Z8f (t := false) rfl (fun e => by cases e) (fun _ => ?_)))
  by_cases hea : ea = 0
  rotate_left
  · rw [show decide (((ca, ea).snd : Int) ≠ 0) = true from decide_eq_true (by simp; omega)]
    (repeat (first | refine st_q rfl rfl rfl ?_ | refine Z8v rfl (st_q rfl rfl rfl ?_) | refine Z92 rfl Z8z rfl rfl ?_ | refine Z8v rfl (Z92 rfl Z8z rfl rfl ?_) | refine Zby rfl rfl ?_ | refine Z8v rfl (Zby rfl rfl ?_) | refine Z8w rfl ?_ | refine Z8x rfl ?_ | (refine Z8y ?_; (repeat (first | refine Z9v rfl ?_ | refine Z9w ?_)); refine Z9u ?_) | refine awp_seq ?_ | refine Zbm (fun _ _ => rfl) ?_ | refine Z8h ?_ | refine Zbn (fun _ _ => rfl) ?_ | refine Zbo (fun _ _ => rfl) ?_ | refine Z8f (t := true) rfl (fun _ => ?_) (fun e => by cases e) | refine Z8f (t := false) rfl (fun e => by cases e) (fun _ => ?_)))
    refine Z8d ?_
    exact ares rfl (HSub.refl _) rfl
  rw [show decide (((ca, ea).snd : Int) ≠ 0) = false from decide_eq_false (by simp; omega)]
  (repeat (first | refine st_q rfl rfl rfl ?_ | refine Z8v rfl (st_q rfl rfl rfl ?_) | refine Z92 rfl Z8z rfl rfl ?_ | refine Z8v rfl (Z92 rfl Z8z rfl rfl ?_) | refine Zby rfl rfl ?_ | refine Z8v rfl (Zby rfl rfl ?_) | refine Z8w rfl ?_ | refine Z8x rfl ?_ | (refine Z8y ?_; (repeat (first | refine Z9v rfl ?_ | refine Z9w ?_)); refine Z9u ?_) | refine awp_seq ?_ | refine Zbm (fun _ _ => rfl) ?_ | refine Z8h ?_ | refine Zbn (fun _ _ => rfl) ?_ | refine Zbo (fun _ _ => rfl) ?_ | refine Z8f (t := true) rfl (fun _ => ?_) (fun e => by cases e) | refine Z8f (t := false) rfl (fun e => by cases e) (fun _ => ?_)))
  by_cases heb : eb = 0
  rotate_left
  · rw [show decide (((cb, eb).snd : Int) ≠ 0) = true from decide_eq_true (by simp; omega)]
    (repeat (first | refine st_q rfl rfl rfl ?_ | refine Z8v rfl (st_q rfl rfl rfl ?_) | refine Z92 rfl Z8z rfl rfl ?_ | refine Z8v rfl (Z92 rfl Z8z rfl rfl ?_) | refine Zby rfl rfl ?_ | refine Z8v rfl (Zby rfl rfl ?_) | refine Z8w rfl ?_ | refine Z8x rfl ?_ | (refine Z8y ?_; (repeat (first | refine Z9v rfl ?_ | refine Z9w ?_)); refine Z9u ?_) | refine awp_seq ?_ | refine Zbm (fun _ _ => rfl) ?_ | refine Z8h ?_ | refine Zbn (fun _ _ => rfl) ?_ | refine Zbo (fun _ _ => rfl) ?_ | refine Z8f (t := true) rfl (fun _ => ?_) (fun e => by cases e) | refine Z8f (t := false) rfl (fun e => by cases e) (fun _ => ?_)))
    refine Z8d ?_
    exact ares rfl (HSub.refl _) rfl
  rw [show decide (((cb, eb).snd : Int) ≠ 0) = false from decide_eq_false (by simp; omega)]
  (repeat (first | refine st_q rfl rfl rfl ?_ | refine Z8v rfl (st_q rfl rfl rfl ?_) | refine Z92 rfl Z8z rfl rfl ?_ | refine Z8v rfl (Z92 rfl Z8z rfl rfl ?_) | refine Zby rfl rfl ?_ | refine Z8v rfl (Zby rfl rfl ?_) | refine Z8w rfl ?_ | refine Z8x rfl ?_ | (refine Z8y ?_; (repeat (first | refine Z9v rfl ?_ | refine Z9w ?_)); refine Z9u ?_) | refine awp_seq ?_ | refine Zbm (fun _ _ => rfl) ?_ | refine Z8h ?_ | refine Zbn (fun _ _ => rfl) ?_ | refine Zbo (fun _ _ => rfl) ?_ | refine Z8f (t := true) rfl (fun _ => ?_) (fun e => by cases e) | refine Z8f (t := false) rfl (fun e => by cases e) (fun _ => ?_)))
  by_cases hec : ec = 0
  rotate_left
  · rw [show decide (((cc, ec).snd : Int) ≠ 0) = true from decide_eq_true (by simp; omega)]
    (repeat (first | refine st_q rfl rfl rfl ?_ | refine Z8v rfl (st_q rfl rfl rfl ?_) | refine Z92 rfl Z8z rfl rfl ?_ | refine Z8v rfl (Z92 rfl Z8z rfl rfl ?_) | refine Zby rfl rfl ?_ | refine Z8v rfl (Zby rfl rfl ?_) | refine Z8w rfl ?_ | refine Z8x rfl ?_ | (refine Z8y ?_; (repeat (first | refine Z9v rfl ?_ | refine Z9w ?_)); refine Z9u ?_) | refine awp_seq ?_ | refine Zbm (fun _ _ => rfl) ?_ | refine Z8h ?_ | refine Zbn (fun _ _ => rfl) ?_ | refine Zbo (fun _ _ => rfl) ?_ | refine Z8f (t := true) rfl (fun _ => ?_) (fun e => by cases e) | refine Z8f (t := false) rfl (fun e => by cases e) (fun _ => ?_)))
    refine Z8d ?_
    exact ares rfl (HSub.refl _) rfl
  rw [show decide (((cc, ec).snd : Int) ≠ 0) = false from decide_eq_false (by simp; omega)]
  have hcola := fun (j : Nat) (c : Col) => @hcola hea j c
  have hcolb := fun (j : Nat) (c : Col) => @hcolb heb j c
  have hcolc := fun (j : Nat) (c : Col) => @hcolc hec j c
  have hcla := hcla hea
  have hclb := hclb heb
  have htwo := htwo hea heb hec
  simp only at hcola hcla hcolb hclb hcolc htwo
  (repeat (first | refine st_q rfl rfl rfl ?_ | refine Z8v rfl (st_q rfl rfl rfl ?_) | refine Z92 rfl Z8z rfl rfl ?_ | refine Z8v rfl (Z92 rfl Z8z rfl rfl ?_) | refine Zby rfl rfl ?_ | refine Z8v rfl (Zby rfl rfl ?_) | refine Z8w rfl ?_ | refine Z8x rfl ?_ | (refine Z8y ?_; (repeat (first | refine Z9v rfl ?_ | refine Z9w ?_)); refine Z9u ?_) | refine awp_seq ?_ | refine Zbm (fun _ _ => rfl) ?_ | refine Z8h ?_ | refine Zbn (fun _ _ => rfl) ?_ | refine Zbo (fun _ _ => rfl) ?_ | refine Z8f (t := true) rfl (fun _ => ?_) (fun e => by cases e) | refine Z8f (t := false) rfl (fun e => by cases e) (fun _ => ?_)))
  (first | refine Z9t rfl (hRF _) ?_ | refine Z8v rfl (Z9t rfl (hRF _) ?_) | refine Zbw rfl hRF ?_ | refine Z8v rfl (Zbw rfl hRF ?_))
  (repeat (first | refine st_q rfl rfl rfl ?_ | refine Z8v rfl (st_q rfl rfl rfl ?_) | refine Z92 rfl Z8z rfl rfl ?_ | refine Z8v rfl (Z92 rfl Z8z rfl rfl ?_) | refine Zby rfl rfl ?_ | refine Z8v rfl (Zby rfl rfl ?_) | refine Z8w rfl ?_ | refine Z8x rfl ?_ | (refine Z8y ?_; (repeat (first | refine Z9v rfl ?_ | refine Z9w ?_)); refine Z9u ?_) | refine awp_seq ?_ | refine Zbm (fun _ _ => rfl) ?_ | refine Z8h ?_ | refine Zbn (fun _ _ => rfl) ?_ | refine Zbo (fun _ _ => rfl) ?_ | refine Z8f (t := true) rfl (fun _ => ?_) (fun e => by cases e) | refine Z8f (t := false) rfl (fun e => by cases e) (fun _ => ?_)))
  (first | refine Z9t rfl (hFl _) ?_ | refine Z8v rfl (Z9t rfl (hFl _) ?_) | refine Zbw rfl hFl ?_ | refine Z8v rfl (Zbw rfl hFl ?_))
  (repeat (first | refine st_q rfl rfl rfl ?_ | refine Z8v rfl (st_q rfl rfl rfl ?_) | refine Z92 rfl Z8z rfl rfl ?_ | refine Z8v rfl (Z92 rfl Z8z rfl rfl ?_) | refine Zby rfl rfl ?_ | refine Z8v rfl (Zby rfl rfl ?_) | refine Z8w rfl ?_ | refine Z8x rfl ?_ | (refine Z8y ?_; (repeat (first | refine Z9v rfl ?_ | refine Z9w ?_)); refine Z9u ?_) | refine awp_seq ?_ | refine Zbm (fun _ _ => rfl) ?_ | refine Z8h ?_ | refine Zbn (fun _ _ => rfl) ?_ | refine Zbo (fun _ _ => rfl) ?_ | refine Z8f (t := true) rfl (fun _ => ?_) (fun e => by cases e) | refine Z8f (t := false) rfl (fun e => by cases e) (fun _ => ?_)))
  rw [List.length_map, List.length_map]
  (rw [show decide ((L.length : Int) ≠ (L.length : Int)) = false from decide_eq_false (by omega)])
  (repeat (first | refine st_q rfl rfl rfl ?_ | refine Z8v rfl (st_q rfl rfl rfl ?_) | refine Z92 rfl Z8z rfl rfl ?_ | refine Z8v rfl (Z92 rfl Z8z rfl rfl ?_) | refine Zby rfl rfl ?_ | refine Z8v rfl (Zby rfl rfl ?_) | refine Z8w rfl ?_ | refine Z8x rfl ?_ | (refine Z8y ?_; (repeat (first | refine Z9v rfl ?_ | refine Z9w ?_)); refine Z9u ?_) | refine awp_seq ?_ | refine Zbm (fun _ _ => rfl) ?_ | refine Z8h ?_ | refine Zbn (fun _ _ => rfl) ?_ | refine Zbo (fun _ _ => rfl) ?_ | refine Z8f (t := true) rfl (fun _ => ?_) (fun e => by cases e) | refine Z8f (t := false) rfl (fun e => by cases e) (fun _ => ?_)))
  refine Zaa (fun m F σ' => ∃ (i : Nat), F = fset 7 (some (.slc 5 (ca.map encC) false)) (fset 9 (some (.slc 5 (cb.map encC) false)) (fset 11 (some (.slc 5 (cc.map encC) false)) (fset 13 (some (.slc 9 (L.map encR) false)) (fset 14 (some (.slc 8 (L.map encN) true)) (fset 15 (some (.int .i64 (i : Int))) Z27))))) ∧
    σ1 = σ' ∧ i ≤ L.length ∧ m = L.length - i) (n := L.length) ⟨0, rfl, rfl, by omega, rfl⟩ ?_
  rintro m F σ' ⟨i, rfl, rfl, hi, rfl⟩
  (repeat (first | refine st_q rfl rfl rfl ?_ | refine Z8v rfl (st_q rfl rfl rfl ?_) | refine Z92 rfl Z8z rfl rfl ?_ | refine Z8v rfl (Z92 rfl Z8z rfl rfl ?_) | refine Zby rfl rfl ?_ | refine Z8v rfl (Zby rfl rfl ?_) | refine Z8w rfl ?_ | refine Z8x rfl ?_ | (refine Z8y ?_; (repeat (first | refine Z9v rfl ?_ | refine Z9w ?_)); refine Z9u ?_) | refine awp_seq ?_ | refine Zbm (fun _ _ => rfl) ?_ | refine Z8h ?_ | refine Zbn (fun _ _ => rfl) ?_ | refine Zbo (fun _ _ => rfl) ?_ | refine Z8f (t := true) rfl (fun _ => ?_) (fun e => by cases e) | refine Z8f (t := false) rfl (fun e => by cases e) (fun _ => ?_)))
  rw [List.length_map]
  refine Za3 (p := (i : Int) < (L.length : Int)) rfl (fun h5 => ?_) (fun h5 => ?_)
  · have hil : i < L.length := by omega
    have hia : i < ca.length := by omega
    have hib : i < cb.length := by omega
    have hoka := hcola i ca[i] (List.getElem?_eq_getElem hia)
    have hokb := hcolb i cb[i] (List.getElem?_eq_getElem hib)
    rw [Z1d2 hil] at hoka hokb
    have hgN := Zyu (f := encN) hil
    have hgR := Zyu (f := encR) hil
    have hgA := Zyu (f := encC) hia
    have hgB := Zyu (f := encC) hib
    have hcc : cc[i]? = some (appC ca[i] cb[i]) := by
      rw [htwo]; exact Z1dh (List.getElem?_eq_getElem hia) (List.getElem?_eq_getElem hib)
    have hgC : (cc.map encC)[((i : Nat) : Int).toNat]? = some (encC (appC ca[i] cb[i])) := by
      rw [Int.toNat_natCast, List.getElem?_map, hcc]; rfl
    have hokc := hcolc i _ hcc
    rw [Z1d2 hil] at hokc
    generalize L[i] = nd at hoka hokb hokc hgN hgR
    generalize ca[i] = a at hoka hgA hgC hokc
    generalize cb[i] = b at hokb hgB hgC hokc
    have hOa := c_Of nd.t.kind (Zm1 nd) rfl rfl (Z1d4 nd) a hoka.fit
    have hOb := c_Of nd.t.kind (Zm1 nd) rfl rfl (Z1d4 nd) b hokb.fit
    have hM := Zzb nd.t.kind (Zm1 nd) rfl rfl (Z1d4 nd) _ _ (Z1c3 (k := nd.t.kind) hoka.fit) (Z1c3 (k := nd.t.kind) hokb.fit)
    have hRM := Z16b (Zln nd.t) nd.t.kind rfl rfl (Z1d5 nd.t) _ _ (Z1c3 (k := nd.t.kind) hoka.fit).sum (Z1c3 (k := nd.t.kind) hokb.fit).sum
    rw [← Z15u nd.t.kind _ _ Z1df Z1df (Z1c3 hoka.fit).sum] at hRM
    have hRO := Z1cp (Zln nd.t) nd.t.kind rfl rfl (Z1d5 nd.t) (appC a b) hokc.fit hokc.good
    rw [Z14j _ _ hokc.good] at hRO
    obtain ⟨su, sm, hm, hsum⟩ := Z1dg hoka hokb
    rw [hm] at hM hRM
    have hfW := Z1cw hokc
    generalize ofF nd.t.kind (appC a b) = W at hRO hM hRM hsum hfW
    generalize ofF nd.t.kind a = X at hOa hM hRM
    generalize ofF nd.t.kind b = Y at hOb hM hRM
    obtain ⟨wc, wn, wh, wmi, wma, wsu, wsm⟩ := W
    simp only at hM hRM hsum hfW
    have hS1 := Z16a ⟨wc, wn, wh, wmi, wma, su, sm⟩ ⟨wc, wn, wh, wmi, wma, su, sm⟩ hfW.1 hfW.2
    rw [Z169] at hS1
    have hV1 := Z161 wmi hfW.1 wmi
    have hV2 := Z161 wma hfW.2 wma
    rw [Z15z] at hV1 hV2
    rw [Zm6] at hV1 hV2
    (repeat (first | refine st_q rfl rfl rfl ?_ | refine Z8v rfl (st_q rfl rfl rfl ?_) | refine Z92 rfl Z8z rfl rfl ?_ | refine Z8v rfl (Z92 rfl Z8z rfl rfl ?_) | refine Zby rfl rfl ?_ | refine Z8v rfl (Zby rfl rfl ?_) | refine Z8w rfl ?_ | refine Z8x rfl ?_ | (refine Z8y ?_; (repeat (first | refine Z9v rfl ?_ | refine Z9w ?_)); refine Z9u ?_) | refine awp_seq ?_ | refine Zbm (fun _ _ => rfl) ?_ | refine Z8h ?_ | refine Zbn (fun _ _ => rfl) ?_ | refine Zbo (fun _ _ => rfl) ?_ | refine Z8f (t := true) rfl (fun _ => ?_) (fun e => by cases e) | refine Z8f (t := false) rfl (fun e => by cases e) (fun _ => ?_)))
    refine Z93 rfl (by omega) hgN ?_
    (repeat (refine st_q rfl rfl rfl ?_))
    refine Z93 rfl (by omega) hgA ?_
    (repeat (refine st_q rfl rfl rfl ?_))
    (first | refine Z9t rfl ((Zzh a) _) ?_ | refine Z8v rfl (Z9t rfl ((Zzh a) _) ?_) | refine Zbw rfl (Zzh a) ?_ | refine Z8v rfl (Zbw rfl (Zzh a) ?_))
    (first | refine Z9t rfl (hOa _) ?_ | refine Z8v rfl (Z9t rfl (hOa _) ?_) | refine Zbw rfl hOa ?_ | refine Z8v rfl (Zbw rfl hOa ?_))
    refine Z9k (by simp [Z0.cells, Z0.one]) fun b16 hb16 => ?_
    (first | refine Z9a rfl Z8z rfl (by decide) (Z0.fit_iff.1 rfl) (fun h => by cases h) Z9b ?_ | refine Z8v rfl (Z9a rfl Z8z rfl (by decide) (Z0.fit_iff.1 rfl) (fun h => by cases h) Z9b ?_))
    (refine Z8y ?_; (repeat (first | refine Z9v rfl ?_ | refine Z9w ?_)); refine Z9u ?_)
    refine Zb3 (d := 16) (cs := Zyn X) rfl ?_
    (repeat (first | refine st_q rfl rfl rfl ?_ | refine Z8v rfl (st_q rfl rfl rfl ?_) | refine Z92 rfl Z8z rfl rfl ?_ | refine Z8v rfl (Z92 rfl Z8z rfl rfl ?_) | refine Zby rfl rfl ?_ | refine Z8v rfl (Zby rfl rfl ?_) | refine Z8w rfl ?_ | refine Z8x rfl ?_ | (refine Z8y ?_; (repeat (first | refine Z9v rfl ?_ | refine Z9w ?_)); refine Z9u ?_) | refine awp_seq ?_ | refine Zbm (fun _ _ => rfl) ?_ | refine Z8h ?_ | refine Zbn (fun _ _ => rfl) ?_ | refine Zbo (fun _ _ => rfl) ?_ | refine Z8f (t := true) rfl (fun _ => ?_) (fun e => by cases e) | refine Z8f (t := false) rfl (fun e => by cases e) (fun _ => ?_)))
    refine Z93 rfl (by omega) hgN ?_
    (repeat (refine st_q rfl rfl rfl ?_))
    refine Z93 rfl (by omega) hgB ?_
    (repeat (refine st_q rfl rfl rfl ?_))
    (first | refine Z9t rfl ((Zzh b) _) ?_ | refine Z8v rfl (Z9t rfl ((Zzh b) _) ?_) | refine Zbw rfl (Zzh b) ?_ | refine Z8v rfl (Zbw rfl (Zzh b) ?_))
    (first | refine Z9t rfl (hOb _) ?_ | refine Z8v rfl (Z9t rfl (hOb _) ?_) | refine Zbw rfl hOb ?_ | refine Z8v rfl (Zbw rfl hOb ?_))
    refine Z9k (by simp [Z0.cells, Z0.one]) fun b17 hb17 => ?_
    (first | refine Z9a rfl Z8z rfl (by decide) (Z0.fit_iff.1 rfl) (fun h => by cases h) Z9b ?_ | refine Z8v rfl (Z9a rfl Z8z rfl (by decide) (Z0.fit_iff.1 rfl) (fun h => by cases h) Z9b ?_))
    (refine Z8y ?_; (repeat (first | refine Z9v rfl ?_ | refine Z9w ?_)); refine Z9u ?_)
    refine Zb3 (d := 17) (cs := Zyn Y) rfl ?_
    (repeat (first | refine st_q rfl rfl rfl ?_ | refine Z8v rfl (st_q rfl rfl rfl ?_) | refine Z92 rfl Z8z rfl rfl ?_ | refine Z8v rfl (Z92 rfl Z8z rfl rfl ?_) | refine Zby rfl rfl ?_ | refine Z8v rfl (Zby rfl rfl ?_) | refine Z8w rfl ?_ | refine Z8x rfl ?_ | (refine Z8y ?_; (repeat (first | refine Z9v rfl ?_ | refine Z9w ?_)); refine Z9u ?_) | refine awp_seq ?_ | refine Zbm (fun _ _ => rfl) ?_ | refine Z8h ?_ | refine Zbn (fun _ _ => rfl) ?_ | refine Zbo (fun _ _ => rfl) ?_ | refine Z8f (t := true) rfl (fun _ => ?_) (fun e => by cases e) | refine Z8f (t := false) rfl (fun e => by cases e) (fun _ => ?_)))
    refine Z93 rfl (by omega) hgN ?_
    (repeat (refine st_q rfl rfl rfl ?_))
    (first | refine Z9t rfl (hM _) ?_ | refine Z8v rfl (Z9t rfl (hM _) ?_) | refine Zbw rfl hM ?_ | refine Z8v rfl (Zbw rfl hM ?_))
    refine Z9k (by simp [Z0.cells, Z0.one]) fun b18 hb18 => ?_
    (first | refine Z9a rfl Z8z rfl (by decide) (Z0.fit_iff.1 rfl) (fun h => by cases h) Z9b ?_ | refine Z8v rfl (Z9a rfl Z8z rfl (by decide) (Z0.fit_iff.1 rfl) (fun h => by cases h) Z9b ?_))
    (refine Z8y ?_; (repeat (first | refine Z9v rfl ?_ | refine Z9w ?_)); refine Z9u ?_)
    refine Zb3 (d := 18) (cs := Zyn ⟨wc, wn, wh, wmi, wma, su, sm⟩) rfl ?_
    (repeat (first | refine st_q rfl rfl rfl ?_ | refine Z8v rfl (st_q rfl rfl rfl ?_) | refine Z92 rfl Z8z rfl rfl ?_ | refine Z8v rfl (Z92 rfl Z8z rfl rfl ?_) | refine Zby rfl rfl ?_ | refine Z8v rfl (Zby rfl rfl ?_) | refine Z8w rfl ?_ | refine Z8x rfl ?_ | (refine Z8y ?_; (repeat (first | refine Z9v rfl ?_ | refine Z9w ?_)); refine Z9u ?_) | refine awp_seq ?_ | refine Zbm (fun _ _ => rfl) ?_ | refine Z8h ?_ | refine Zbn (fun _ _ => rfl) ?_ | refine Zbo (fun _ _ => rfl) ?_ | refine Z8f (t := true) rfl (fun _ => ?_) (fun e => by cases e) | refine Z8f (t := false) rfl (fun e => by cases e) (fun _ => ?_)))
    refine Z93 rfl (by omega) hgR ?_
    (repeat (refine st_q rfl rfl rfl ?_))
    refine Z93 rfl (by omega) hgC ?_
    (repeat (refine st_q rfl rfl rfl ?_))
    (first | refine Z9t rfl (hRO _) ?_ | refine Z8v rfl (Z9t rfl (hRO _) ?_) | refine Zbw rfl hRO ?_ | refine Z8v rfl (Zbw rfl hRO ?_))
    refine Z9k (by simp [Z0.cells, Z0.one]) fun b19 hb19 => ?_
    (first | refine Z9a rfl Z8z rfl (by decide) (Z0.fit_iff.1 rfl) (fun h => by cases h) Z9b ?_ | refine Z8v rfl (Z9a rfl Z8z rfl (by decide) (Z0.fit_iff.1 rfl) (fun h => by cases h) Z9b ?_))
    (refine Z8y ?_; (repeat (first | refine Z9v rfl ?_ | refine Z9w ?_)); refine Z9u ?_)
    (repeat (first | refine st_q rfl rfl rfl ?_ | refine Z8v rfl (st_q rfl rfl rfl ?_) | refine Z92 rfl Z8z rfl rfl ?_ | refine Z8v rfl (Z92 rfl Z8z rfl rfl ?_) | refine Zby rfl rfl ?_ | refine Z8v rfl (Zby rfl rfl ?_) | refine Z8w rfl ?_ | refine Z8x rfl ?_ | (refine Z8y ?_; (repeat (first | refine Z9v rfl ?_ | refine Z9w ?_)); refine Z9u ?_) | refine awp_seq ?_ | refine Zbm (fun _ _ => rfl) ?_ | refine Z8h ?_ | refine Zbn (fun _ _ => rfl) ?_ | refine Zbo (fun _ _ => rfl) ?_ | refine Z8f (t := true) rfl (fun _ => ?_) (fun e => by cases e) | refine Z8f (t := false) rfl (fun e => by cases e) (fun _ => ?_)))
    (first | refine Z9t rfl ((Zzi ⟨wc, wn, wh, wmi, wma, su, sm⟩) _) ?_ | refine Z8v rfl (Z9t rfl ((Zzi ⟨wc, wn, wh, wmi, wma, su, sm⟩) _) ?_) | refine Zbw rfl (Zzi ⟨wc, wn, wh, wmi, wma, su, sm⟩) ?_ | refine Z8v rfl (Zbw rfl (Zzi ⟨wc, wn, wh, wmi, wma, su, sm⟩) ?_))
    (repeat (refine st_q rfl rfl rfl ?_))
    refine Z93 rfl (by omega) hgR ?_
    (repeat (refine st_q rfl rfl rfl ?_))
    (first | refine Z9t rfl ((Zzi X) _) ?_ | refine Z8v rfl (Z9t rfl ((Zzi X) _) ?_) | refine Zbw rfl (Zzi X) ?_ | refine Z8v rfl (Zbw rfl (Zzi X) ?_))
    (repeat (refine st_q rfl rfl rfl ?_))
    (first | refine Z9t rfl ((Zzi Y) _) ?_ | refine Z8v rfl (Z9t rfl ((Zzi Y) _) ?_) | refine Zbw rfl (Zzi Y) ?_ | refine Z8v rfl (Zbw rfl (Zzi Y) ?_))
    (first | refine Z9t rfl (hRM _) ?_ | refine Z8v rfl (Z9t rfl (hRM _) ?_) | refine Zbw rfl hRM ?_ | refine Z8v rfl (Zbw rfl hRM ?_))
    (first | refine Z9t rfl (hS1 _) ?_ | refine Z8v rfl (Z9t rfl (hS1 _) ?_) | refine Zbw rfl hS1 ?_ | refine Z8v rfl (Zbw rfl hS1 ?_))
    (repeat (refine st_q rfl rfl rfl ?_))
    (refine Z8y ?_; (repeat (first | refine Z9v rfl ?_ | refine Z9w ?_)); refine Z9u ?_)
    refine Z8f (t := false) rfl (fun e => by cases e) (fun _ => ?_)
    refine Zbn (fun _ _ => rfl) ?_
    (refine Z9y (keep := [7, 9, 11, 13, 14, 15, 18, 19]) ?_; ((repeat (first | refine Z9v rfl ?_ | refine Z9w ?_)); refine Z9u ?_))
    refine awp_seq ?_
    refine awp_seq ?_
    refine Zbm (fun _ _ => rfl) ?_
    (repeat (refine st_q rfl rfl rfl ?_))
    (refine Z8y ?_; (repeat (first | refine Z9v rfl ?_ | refine Z9w ?_)); refine Z9u ?_)
    cases su with
    | false =>
      refine Z8f (t := true) rfl (fun _ => ?_) (fun e => by cases e)
      refine awp_seq ?_
      refine Zbm (fun _ _ => rfl) ?_
      (repeat (refine st_q rfl rfl rfl ?_))
      (first | refine Z9a rfl Z8z rfl (by decide) (Z0.fit_iff.1 rfl) (fun h => by cases h) Z9b ?_ | refine Z8v rfl (Z9a rfl Z8z rfl (by decide) (Z0.fit_iff.1 rfl) (fun h => by cases h) Z9b ?_))
      (refine Z8y ?_; (repeat (first | refine Z9v rfl ?_ | refine Z9w ?_)); refine Z9u ?_)
      refine Zbm (fun _ _ => rfl) ?_
      (repeat (refine st_q rfl rfl rfl ?_))
      (first | refine Z9a rfl Z8z rfl (by decide) (Z0.fit_iff.1 rfl) (fun h => by cases h) Z9b ?_ | refine Z8v rfl (Z9a rfl Z8z rfl (by decide) (Z0.fit_iff.1 rfl) (fun h => by cases h) Z9b ?_))
      (refine Z8y ?_; (repeat (first | refine Z9v rfl ?_ | refine Z9w ?_)); refine Z9u ?_)
      refine Zb3 (d := 19) (cs := Zyn ⟨wc, wn, wh, wmi, wma, false, 0⟩) rfl ?_
      refine awp_seq ?_
      refine Zbm (fun _ _ => rfl) ?_
      (repeat (first | refine st_q rfl rfl rfl ?_ | refine Z8v rfl (st_q rfl rfl rfl ?_) | refine Z8w rfl ?_ | refine Z8x rfl ?_))
      rw [show decide (wc ≠ wc) = false by simp]
      (repeat (first | refine st_q rfl rfl rfl ?_ | refine Z8v rfl (st_q rfl rfl rfl ?_) | refine Z8w rfl ?_ | refine Z8x rfl ?_))
      rw [show (!(wn == wn)) = false by simp]
      (repeat (first | refine st_q rfl rfl rfl ?_ | refine Z8v rfl (st_q rfl rfl rfl ?_) | refine Z8w rfl ?_ | refine Z8x rfl ?_))
      rw [show (!(wh == wh)) = false by simp]
      (repeat (first | refine st_q rfl rfl rfl ?_ | refine Z8v rfl (st_q rfl rfl rfl ?_) | refine Z8w rfl ?_ | refine Z8x rfl ?_))
      (first | refine Z9t rfl (hV1 _) ?_ | refine Z8v rfl (Z9t rfl (hV1 _) ?_) | refine Zbw rfl hV1 ?_ | refine Z8v rfl (Zbw rfl hV1 ?_))
      (repeat (first | refine st_q rfl rfl rfl ?_ | refine Z8v rfl (st_q rfl rfl rfl ?_) | refine Z8w rfl ?_ | refine Z8x rfl ?_))
      (first | refine Z9t rfl (hV2 _) ?_ | refine Z8v rfl (Z9t rfl (hV2 _) ?_) | refine Zbw rfl hV2 ?_ | refine Z8v rfl (Zbw rfl hV2 ?_))
      (repeat (first | refine st_q rfl rfl rfl ?_ | refine Z8v rfl (st_q rfl rfl rfl ?_) | refine Z8w rfl ?_ | refine Z8x rfl ?_))
      (refine Z8y ?_; (repeat (first | refine Z9v rfl ?_ | refine Z9w ?_)); refine Z9u ?_)
      refine Z8f (t := false) rfl (fun e => by cases e) (fun _ => ?_)
      refine Zbn (fun _ _ => rfl) ?_
      (refine Z9y (keep := [7, 9, 11, 13, 14, 15]) ?_; ((repeat (first | refine Z9v rfl ?_ | refine Z9w ?_)); refine Z9u ?_))
      refine Zbp ?_
      (repeat (refine st_q rfl rfl rfl ?_))
      rw [show IntKind.wrap .i64 ((i : Int) + 1) = ((i + 1 : Nat) : Int) by rw [w64 _ (by omega) (by omega)]; omega]
      (refine Z8y ?_; (repeat (first | refine Z9v rfl ?_ | refine Z9w ?_)); refine Z9u ?_)
      exact ⟨_, L.length - (i + 1), HSub.refl _, ⟨i + 1, rfl, rfl, by omega, rfl⟩, by omega⟩
    | true =>
      refine Z8f (t := false) rfl (fun e => by cases e) (fun _ => ?_)
      refine Zbn (fun _ _ => rfl) ?_
      (refine Z9y (keep := [7, 9, 11, 13, 14, 15, 18, 19]) ?_; ((repeat (first | refine Z9v rfl ?_ | refine Z9w ?_)); refine Z9u ?_))
      refine Zb3 (d := 19) (cs := Zyn ⟨wc, wn, wh, wmi, wma, wsu, wsm⟩) rfl ?_
      refine awp_seq ?_
      refine Zbm (fun _ _ => rfl) ?_
      cases wsu with
      | false =>
        (repeat (first | refine st_q rfl rfl rfl ?_ | refine Z8v rfl (st_q rfl rfl rfl ?_) | refine Z8w rfl ?_ | refine Z8x rfl ?_))
        rw [show decide (wc ≠ wc) = false by simp]
        (repeat (first | refine st_q rfl rfl rfl ?_ | refine Z8v rfl (st_q rfl rfl rfl ?_) | refine Z8w rfl ?_ | refine Z8x rfl ?_))
        rw [show (!(wn == wn)) = false by simp]
        (repeat (first | refine st_q rfl rfl rfl ?_ | refine Z8v rfl (st_q rfl rfl rfl ?_) | refine Z8w rfl ?_ | refine Z8x rfl ?_))
        rw [show (!(wh == wh)) = false by simp]
        (repeat (first | refine st_q rfl rfl rfl ?_ | refine Z8v rfl (st_q rfl rfl rfl ?_) | refine Z8w rfl ?_ | refine Z8x rfl ?_))
        (first | refine Z9t rfl (hV1 _) ?_ | refine Z8v rfl (Z9t rfl (hV1 _) ?_) | refine Zbw rfl hV1 ?_ | refine Z8v rfl (Zbw rfl hV1 ?_))
        (repeat (first | refine st_q rfl rfl rfl ?_ | refine Z8v rfl (st_q rfl rfl rfl ?_) | refine Z8w rfl ?_ | refine Z8x rfl ?_))
        (first | refine Z9t rfl (hV2 _) ?_ | refine Z8v rfl (Z9t rfl (hV2 _) ?_) | refine Zbw rfl hV2 ?_ | refine Z8v rfl (Zbw rfl hV2 ?_))
        (repeat (first | refine st_q rfl rfl rfl ?_ | refine Z8v rfl (st_q rfl rfl rfl ?_) | refine Z8w rfl ?_ | refine Z8x rfl ?_))
        (refine Z8y ?_; (repeat (first | refine Z9v rfl ?_ | refine Z9w ?_)); refine Z9u ?_)
        refine Z8f (t := false) rfl (fun e => by cases e) (fun _ => ?_)
        refine Zbn (fun _ _ => rfl) ?_
        (refine Z9y (keep := [7, 9, 11, 13, 14, 15]) ?_; ((repeat (first | refine Z9v rfl ?_ | refine Z9w ?_)); refine Z9u ?_))
        refine Zbp ?_
        (repeat (refine st_q rfl rfl rfl ?_))
        rw [show IntKind.wrap .i64 ((i : Int) + 1) = ((i + 1 : Nat) : Int) by rw [w64 _ (by omega) (by omega)]; omega]
        (refine Z8y ?_; (repeat (first | refine Z9v rfl ?_ | refine Z9w ?_)); refine Z9u ?_)
        exact ⟨_, L.length - (i + 1), HSub.refl _, ⟨i + 1, rfl, rfl, by omega, rfl⟩, by omega⟩
      | true =>
        have hsm := hsum rfl rfl
        subst hsm
        (repeat (first | refine st_q rfl rfl rfl ?_ | refine Z8v rfl (st_q rfl rfl rfl ?_) | refine Z8w rfl ?_ | refine Z8x rfl ?_))
        (first | refine Z9t rfl ((Zzi ⟨wc, wn, wh, wmi, wma, true, sm⟩) _) ?_ | refine Z8v rfl (Z9t rfl ((Zzi ⟨wc, wn, wh, wmi, wma, true, sm⟩) _) ?_) | refine Zbw rfl (Zzi ⟨wc, wn, wh, wmi, wma, true, sm⟩) ?_ | refine Z8v rfl (Zbw rfl (Zzi ⟨wc, wn, wh, wmi, wma, true, sm⟩) ?_))
        (repeat (first | refine st_q rfl rfl rfl ?_ | refine Z8v rfl (st_q rfl rfl rfl ?_) | refine Z8w rfl ?_ | refine Z8x rfl ?_))
        (first | refine Z9t rfl (hS1 _) ?_ | refine Z8v rfl (Z9t rfl (hS1 _) ?_) | refine Zbw rfl hS1 ?_ | refine Z8v rfl (Zbw rfl hS1 ?_))
        (repeat (first | refine st_q rfl rfl rfl ?_ | refine Z8v rfl (st_q rfl rfl rfl ?_) | refine Z8w rfl ?_ | refine Z8x rfl ?_))
        rw [show decide (wc ≠ wc) = false by simp]
        (repeat (first | refine st_q rfl rfl rfl ?_ | refine Z8v rfl (st_q rfl rfl rfl ?_) | refine Z8w rfl ?_ | refine Z8x rfl ?_))
        rw [show (!(wn == wn)) = false by simp]
        (repeat (first | refine st_q rfl rfl rfl ?_ | refine Z8v rfl (st_q rfl rfl rfl ?_) | refine Z8w rfl ?_ | refine Z8x rfl ?_))
        rw [show (!(wh == wh)) = false by simp]
        (repeat (first | refine st_q rfl rfl rfl ?_ | refine Z8v rfl (st_q rfl rfl rfl ?_) | refine Z8w rfl ?_ | refine Z8x rfl ?_))
        (first | refine Z9t rfl (hV1 _) ?_ | refine Z8v rfl (Z9t rfl (hV1 _) ?_) | refine Zbw rfl hV1 ?_ | refine Z8v rfl (Zbw rfl hV1 ?_))
        (repeat (first | refine st_q rfl rfl rfl ?_ | refine Z8v rfl (st_q rfl rfl rfl ?_) | refine Z8w rfl ?_ | refine Z8x rfl ?_))
        (first | refine Z9t rfl (hV2 _) ?_ | refine Z8v rfl (Z9t rfl (hV2 _) ?_) | refine Zbw rfl hV2 ?_ | refine Z8v rfl (Zbw rfl hV2 ?_))
        (repeat (first | refine st_q rfl rfl rfl ?_ | refine Z8v rfl (st_q rfl rfl rfl ?_) | refine Z8w rfl ?_ | refine Z8x rfl ?_))
        (refine Z8y ?_; (repeat (first | refine Z9v rfl ?_ | refine Z9w ?_)); refine Z9u ?_)
        refine Z8f (t := false) rfl (fun e => by cases e) (fun _ => ?_)
        refine Zbn (fun _ _ => rfl) ?_
        (refine Z9y (keep := [7, 9, 11, 13, 14, 15]) ?_; ((repeat (first | refine Z9v rfl ?_ | refine Z9w ?_)); refine Z9u ?_))
        refine Zbp ?_
        (repeat (refine st_q rfl rfl rfl ?_))
        rw [show IntKind.wrap .i64 ((i : Int) + 1) = ((i + 1 : Nat) : Int) by rw [w64 _ (by omega) (by omega)]; omega]
        (refine Z8y ?_; (repeat (first | refine Z9v rfl ?_ | refine Z9w ?_)); refine Z9u ?_)
        exact ⟨_, L.length - (i + 1), HSub.refl _, ⟨i + 1, rfl, rfl, by omega, rfl⟩, by omega⟩
  · (repeat (first | refine st_q rfl rfl rfl ?_ | refine Z8v rfl (st_q rfl rfl rfl ?_) | refine Z92 rfl Z8z rfl rfl ?_ | refine Z8v rfl (Z92 rfl Z8z rfl rfl ?_) | refine Zby rfl rfl ?_ | refine Z8v rfl (Zby rfl rfl ?_) | refine Z8w rfl ?_ | refine Z8x rfl ?_ | (refine Z8y ?_; (repeat (first | refine Z9v rfl ?_ | refine Z9w ?_)); refine Z9u ?_) | refine awp_seq ?_ | refine Zbm (fun _ _ => rfl) ?_ | refine Z8h ?_ | refine Zbn (fun _ _ => rfl) ?_ | refine Zbo (fun _ _ => rfl) ?_ | refine Z8f (t := true) rfl (fun _ => ?_) (fun e => by cases e) | refine Z8f (t := false) rfl (fun e => by cases e) (fun _ => ?_)))
    refine Z8d ?_
    exact ares rfl (HSub.refl _) rfl
end Go.Abs

