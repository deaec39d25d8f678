/- Part H of a proof: merged by program. -/
import Derived.Test.YtgmefkhincnajaaPkG
import Derived.Test.YtgmefkhincnajaaProg
import Derived.KernelRfl
namespace Go.Abs
open Go
def Z11y : List Z2a := [
  ⟨some 2, (.box 15), [.t 0], none⟩,
  ⟨some 3, (.box 15), [.t 1], none⟩,
  ⟨some 4, .mov, [.c (.bool false)], none⟩]
def Z11z : List Z2a := [
  ⟨some 5, (.fad 0), [.t 2], none⟩,
  ⟨some 6, (.load false 1), [.t 5], none⟩,
  ⟨some 7, (.fad 0), [.t 3], none⟩,
  ⟨some 8, (.load false 1), [.t 7], none⟩,
  ⟨some 9, (.bin .eql), [.t 6, .t 8], none⟩,
  ⟨some 10, .mov, [.t 9], none⟩,
  ⟨some 11, (.fad 1), [.t 2], some (10, true)⟩,
  ⟨some 12, (.load false 1), [.t 11], some (10, true)⟩,
  ⟨some 13, (.fad 1), [.t 3], some (10, true)⟩,
  ⟨some 14, (.load false 1), [.t 13], some (10, true)⟩,
  ⟨some 15, (.binb .eql), [.t 12, .t 14], some (10, true)⟩,
  ⟨some 16, .pick, [.t 10, .t 15, .c (.bool false)], none⟩,
  ⟨some 17, .mov, [.t 16], none⟩,
  ⟨some 18, (.fad 2), [.t 2], some (17, true)⟩,
  ⟨some 19, (.load false 1), [.t 18], some (17, true)⟩,
  ⟨some 20, (.fad 2), [.t 3], some (17, true)⟩,
  ⟨some 21, (.load false 1), [.t 20], some (17, true)⟩,
  ⟨some 22, (.binb .eql), [.t 19, .t 21], some (17, true)⟩,
  ⟨some 23, .pick, [.t 17, .t 22, .c (.bool false)], none⟩,
  ⟨some 24, .mov, [.t 23], none⟩,
  ⟨some 25, (.fad 3), [.t 2], some (24, true)⟩,
  ⟨some 26, (.load true 5), [.t 25], some (24, true)⟩,
  ⟨some 27, (.fad 3), [.t 3], some (24, true)⟩,
  ⟨some 28, (.load true 5), [.t 27], some (24, true)⟩,
  ⟨some 29, (.call Zd1), [.t 26, .t 28], some (24, true)⟩,
  ⟨some 30, .pick, [.t 24, .t 29, .c (.bool false)], none⟩,
  ⟨some 31, .mov, [.t 30], none⟩,
  ⟨some 32, (.fad 8), [.t 2], some (31, true)⟩,
  ⟨some 33, (.load true 5), [.t 32], some (31, true)⟩,
  ⟨some 34, (.fad 8), [.t 3], some (31, true)⟩,
  ⟨some 35, (.load true 5), [.t 34], some (31, true)⟩,
  ⟨some 36, (.call Zd1), [.t 33, .t 35], some (31, true)⟩,
  ⟨some 37, .pick, [.t 31, .t 36, .c (.bool false)], none⟩,
  ⟨some 38, .mov, [.t 37], none⟩,
  ⟨some 39, (.fad 13), [.t 2], some (38, true)⟩,
  ⟨some 40, (.load false 1), [.t 39], some (38, true)⟩,
  ⟨some 41, (.fad 13), [.t 3], some (38, true)⟩,
  ⟨some 42, (.load false 1), [.t 41], some (38, true)⟩,
  ⟨some 43, (.binb .eql), [.t 40, .t 42], some (38, true)⟩,
  ⟨some 44, .pick, [.t 38, .t 43, .c (.bool false)], none⟩,
  ⟨some 45, .mov, [.t 44], none⟩,
  ⟨some 46, (.fad 14), [.t 2], some (45, true)⟩,
  ⟨some 47, (.load false 1), [.t 46], some (45, true)⟩,
  ⟨some 48, (.fad 14), [.t 3], some (45, true)⟩,
  ⟨some 49, (.load false 1), [.t 48], some (45, true)⟩,
  ⟨some 50, (.bin .eql), [.t 47, .t 49], some (45, true)⟩,
  ⟨some 51, .pick, [.t 45, .t 50, .c (.bool false)], none⟩,
  ⟨some 4, .mov, [.t 51], none⟩]
def Z120 : Z2y := ⟨52, (.seq (.region Z11y [2, 3]) (.seq (.region Z11z [4]) .ret)), [.t 4]⟩
def Z121 : List Z2a := [
  ⟨some 3, (.box 6), [.t 0], none⟩,
  ⟨some 4, (.box 15), [.t 1], none⟩,
  ⟨some 5, (.box 15), [.t 2], none⟩,
  ⟨some 6, (.alloc (.agg [(.int .i64 0), (.bool false), (.bool false), (.bool false), (.int .i64 0), (.int .i64 0), (.slc 0 [] true), (.slc 0 [] true), (.bool false), (.int .i64 0), (.int .i64 0), (.slc 0 [] true), (.slc 0 [] true), (.bool false), (.int .i64 0)])), [], none⟩]
def Z122 : List Z2a := [
  ⟨some 12, (.fad 0), [.t 4], none⟩,
  ⟨some 13, (.load false 1), [.t 12], none⟩,
  ⟨some 14, (.fad 0), [.t 5], none⟩,
  ⟨some 15, (.load false 1), [.t 14], none⟩,
  ⟨some 16, (.bin .add), [.t 13, .t 15], none⟩,
  ⟨some 17, (.fad 1), [.t 4], none⟩,
  ⟨some 18, (.load false 1), [.t 17], none⟩,
  ⟨some 19, .mov, [.t 18], none⟩,
  ⟨some 20, (.fad 1), [.t 5], some (19, false)⟩,
  ⟨some 21, (.load false 1), [.t 20], some (19, false)⟩,
  ⟨some 22, .pick, [.t 19, .c (.bool true), .t 21], none⟩,
  ⟨some 23, (.fad 2), [.t 4], none⟩,
  ⟨some 24, (.load false 1), [.t 23], none⟩,
  ⟨some 25, .mov, [.t 24], none⟩,
  ⟨some 26, (.fad 2), [.t 5], some (25, false)⟩,
  ⟨some 27, (.load false 1), [.t 26], some (25, false)⟩,
  ⟨some 28, .pick, [.t 25, .c (.bool true), .t 27], none⟩,
  ⟨some 29, (.fad 3), [.t 4], none⟩,
  ⟨some 30, (.load true 5), [.t 29], none⟩,
  ⟨some 31, (.fad 8), [.t 4], none⟩,
  ⟨some 32, (.load true 5), [.t 31], none⟩,
  ⟨some 33, (.bld [(.int .i64 0), (.bool false), (.bool false), (.bool false), (.int .i64 0), (.int .i64 0), (.slc 0 [] true), (.slc 0 [] true), (.bool false), (.int .i64 0), (.int .i64 0), (.slc 0 [] true), (.slc 0 [] true), (.bool false), (.int .i64 0)] [(0, 1), (1, 1), (2, 1), (3, 5), (8, 5)]), [.t 16, .t 22, .t 28, .t 30, .t 32], none⟩,
  ⟨some 7, (.alloc (.agg [(.int .i64 0), (.bool false), (.bool false), (.bool false), (.int .i64 0), (.int .i64 0), (.slc 0 [] true), (.slc 0 [] true), (.bool false), (.int .i64 0), (.int .i64 0), (.slc 0 [] true), (.slc 0 [] true), (.bool false), (.int .i64 0)])), [], none⟩,
  ⟨none, (.store 15), [.t 7, .t 33], none⟩]
def Z123 : List Z2a := [
  ⟨some 34, (.fad 13), [.t 4], none⟩,
  ⟨some 35, (.load false 1), [.t 34], none⟩,
  ⟨some 36, .mov, [.t 35], none⟩,
  ⟨some 37, (.fad 13), [.t 5], some (36, true)⟩,
  ⟨some 38, (.load false 1), [.t 37], some (36, true)⟩,
  ⟨some 39, .pick, [.t 36, .t 38, .c (.bool false)], none⟩]
def Z124 : List Z2a := [
  ⟨some 41, (.fad 14), [.t 4], none⟩,
  ⟨some 42, (.load false 1), [.t 41], none⟩,
  ⟨some 43, (.fad 14), [.t 5], none⟩,
  ⟨some 44, (.load false 1), [.t 43], none⟩,
  ⟨some 45, (.call Zd3), [.t 42, .t 44], none⟩,
  ⟨some 40, .mov, [.t 45], none⟩,
  ⟨some 46, (.ext 0), [.t 40], none⟩,
  ⟨some 47, (.ext 1), [.t 40], none⟩,
  ⟨some 48, (.fad 14), [.t 7], none⟩,
  ⟨none, (.store 1), [.t 48, .t 46], none⟩,
  ⟨some 49, (.fad 13), [.t 7], none⟩,
  ⟨none, (.store 1), [.t 49, .t 47], none⟩]
def Z125 : List Z2a := [
  ⟨some 50, (.fad 2), [.t 4], none⟩,
  ⟨some 51, (.load false 1), [.t 50], none⟩,
  ⟨some 52, .unot, [.t 51], none⟩]
def Z126 : List Z2a := [
  ⟨some 53, (.fad 3), [.t 5], none⟩,
  ⟨some 54, (.load true 5), [.t 53], none⟩,
  ⟨some 55, (.fad 3), [.t 7], none⟩,
  ⟨none, (.store 5), [.t 55, .t 54], none⟩]
def Z127 : List Z2a := [
  ⟨some 56, (.fad 8), [.t 5], none⟩,
  ⟨some 57, (.load true 5), [.t 56], none⟩,
  ⟨some 58, (.fad 8), [.t 7], none⟩,
  ⟨none, (.store 5), [.t 58, .t 57], none⟩]
def Z128 : List Z2a := [
  ⟨some 59, (.fad 2), [.t 5], none⟩,
  ⟨some 60, (.load false 1), [.t 59], none⟩]
def Z129 : List Z2a := [
  ⟨some 62, (.load true 6), [.t 3], none⟩,
  ⟨some 63, (.fad 3), [.t 5], none⟩,
  ⟨some 64, (.load true 5), [.t 63], none⟩,
  ⟨some 65, (.fad 3), [.t 4], none⟩,
  ⟨some 66, (.load true 5), [.t 65], none⟩,
  ⟨some 67, (.call Zec), [.t 62, .t 64, .t 66], none⟩,
  ⟨some 61, .mov, [.t 67], none⟩,
  ⟨some 68, (.ext 0), [.t 61], none⟩,
  ⟨some 69, (.ext 1), [.t 61], none⟩,
  ⟨some 8, .mov, [.t 68], none⟩,
  ⟨some 9, .mov, [.t 69], none⟩]
def Z12a : List Z2a := [
  ⟨some 71, (.load true 6), [.t 3], none⟩,
  ⟨some 72, (.fad 8), [.t 5], none⟩,
  ⟨some 73, (.load true 5), [.t 72], none⟩,
  ⟨some 74, (.fad 8), [.t 4], none⟩,
  ⟨some 75, (.load true 5), [.t 74], none⟩,
  ⟨some 76, (.call Zec), [.t 71, .t 73, .t 75], none⟩,
  ⟨some 70, .mov, [.t 76], none⟩,
  ⟨some 77, (.ext 0), [.t 70], none⟩,
  ⟨some 78, (.ext 1), [.t 70], none⟩,
  ⟨some 10, .mov, [.t 77], none⟩,
  ⟨some 11, .mov, [.t 78], none⟩]
def Z12b : List Z2a := [
  ⟨some 79, .mov, [.t 8], none⟩,
  ⟨some 80, (.bin .lss), [.t 79, .c (.int .i64 0)], none⟩]
def Z12c : List Z2a := [
  ⟨some 81, (.fad 3), [.t 5], none⟩,
  ⟨some 82, (.load true 5), [.t 81], none⟩,
  ⟨some 83, (.fad 3), [.t 7], none⟩,
  ⟨none, (.store 5), [.t 83, .t 82], none⟩]
def Z12d : List Z2a := [
  ⟨some 84, .mov, [.t 10], none⟩,
  ⟨some 85, (.bin .gtr), [.t 84, .c (.int .i64 0)], none⟩]
def Z12e : List Z2a := [
  ⟨some 86, (.fad 8), [.t 5], none⟩,
  ⟨some 87, (.load true 5), [.t 86], none⟩,
  ⟨some 88, (.fad 8), [.t 7], none⟩,
  ⟨none, (.store 5), [.t 88, .t 87], none⟩]
def Z12f : List Z2a := [
  ⟨some 89, (.load true 15), [.t 7], none⟩,
  ⟨none, (.store 15), [.t 6, .t 89], none⟩]
def Z12g : Z2y := ⟨90, (.seq (.region Z121 [3, 4, 5, 6]) (.seq (.region Z122 [3, 4, 5, 6, 7]) (.seq (.seq (.region Z123 [3, 4, 5, 6, 7, 39]) (.cond (.t 39) (.region Z124 [3, 4, 5, 6, 7]) .skip)) (.seq (.seq (.region Z125 [3, 4, 5, 6, 7, 52]) (.cond (.t 52) (.seq (.region Z126 [5, 6, 7]) (.region Z127 [6, 7])) (.seq (.region Z128 [3, 4, 5, 6, 7, 60]) (.cond (.t 60) (.seq (.region Z129 [3, 4, 5, 6, 7, 8]) (.seq (.region Z12a [5, 6, 7, 8, 10]) (.seq (.seq (.region Z12b [5, 6, 7, 10, 80]) (.cond (.t 80) (.region Z12c [5, 6, 7, 10]) .skip)) (.seq (.region Z12d [5, 6, 7, 85]) (.cond (.t 85) (.region Z12e [6, 7]) .skip))))) .skip)))) (.seq (.region Z12f [6]) .ret))))), [.cell 6 true 15]⟩
def Z12h : List Z2a := [
  ⟨some 2, .mov, [.c (.bool false)], none⟩]
def Z12i : List Z2a := [
  ⟨some 3, .mov, [.t 0], none⟩]
def Z12j : List Z2a := [
  ⟨some 5, (.bin .eql), [.t 3, .c (.int .i64 0)], none⟩,
  ⟨some 4, .mov, [.t 5], none⟩]
def Z12k : List Z2a := [
  ⟨some 6, (.bin .eql), [.t 3, .c (.int .i64 1)], none⟩,
  ⟨some 4, .mov, [.t 6], none⟩]
def Z12l : List Z2a := [
  ⟨some 7, (.bin .eql), [.t 3, .c (.int .i64 2)], none⟩,
  ⟨some 4, .mov, [.t 7], none⟩]
def Z12m : List Z2a := [
  ⟨some 8, (.bin .eql), [.t 3, .c (.int .i64 3)], none⟩,
  ⟨some 4, .mov, [.t 8], none⟩]
def Z12n : List Z2a := [
  ⟨some 9, (.bin .eql), [.t 3, .c (.int .i64 4)], none⟩,
  ⟨some 4, .mov, [.t 9], none⟩]
def Z12o : List Z2a := [
  ⟨some 10, (.bin .eql), [.t 3, .c (.int .i64 7)], none⟩,
  ⟨some 4, .mov, [.t 10], none⟩]
def Z12p : List Z2a := [
  ⟨some 11, (.bin .eql), [.t 3, .c (.int .i64 16)], none⟩,
  ⟨some 4, .mov, [.t 11], none⟩]
def Z12q : List Z2a := [
  ⟨some 12, (.bin .eql), [.t 3, .c (.int .i64 17)], none⟩,
  ⟨some 4, .mov, [.t 12], none⟩]
def Z12r : List Z2a := [
  ⟨some 13, (.bin .eql), [.t 3, .c (.int .i64 8)], none⟩,
  ⟨some 4, .mov, [.t 13], none⟩]
def Z12s : List Z2a := [
  ⟨some 14, (.bin .eql), [.t 3, .c (.int .i64 14)], none⟩,
  ⟨some 4, .mov, [.t 14], none⟩]
def Z12t : List Z2a := [
  ⟨some 2, .mov, [.c (.bool true)], none⟩]
def Z12u : List Z2a := [
  ⟨some 2, .mov, [.c (.bool false)], none⟩]
def Z12v : Z2y := ⟨15, (.seq (.region Z12h [0]) (.seq (.seq (.region Z12i [3]) (.block 0 (.seq (.seq (.region Z12j [3, 4]) (.cond (.t 4) .skip (.seq (.region Z12k [3, 4]) (.cond (.t 4) .skip (.seq (.region Z12l [3, 4]) (.cond (.t 4) .skip (.seq (.region Z12m [3, 4]) (.cond (.t 4) .skip (.seq (.region Z12n [3, 4]) (.cond (.t 4) .skip (.seq (.region Z12o [3, 4]) (.cond (.t 4) .skip (.seq (.region Z12p [3, 4]) (.cond (.t 4) .skip (.seq (.region Z12q [3, 4]) (.cond (.t 4) .skip (.seq (.region Z12r [3, 4]) (.cond (.t 4) .skip (.region Z12s [4]))))))))))))))))))) (.cond (.t 4) (.seq (.region Z12t [2]) .ret) .skip)))) (.seq (.region Z12u [2]) .ret))), [.t 2]⟩
def Z12w : List Z2a := [
  ⟨some 2, .mov, [.c (.bool false)], none⟩]
def Z12x : List Z2a := [
  ⟨some 3, .mov, [.t 0], none⟩,
  ⟨some 4, (.call Zea), [.t 3], none⟩,
  ⟨some 5, .mov, [.t 4], none⟩,
  ⟨some 6, .mov, [.t 0], some (5, true)⟩,
  ⟨some 7, (.bin .neq), [.t 6, .c (.int .i64 0)], some (5, true)⟩,
  ⟨some 8, .pick, [.t 5, .t 7, .c (.bool false)], none⟩,
  ⟨some 9, .mov, [.t 8], none⟩,
  ⟨some 10, .mov, [.t 0], some (9, true)⟩,
  ⟨some 11, (.bin .neq), [.t 10, .c (.int .i64 8)], some (9, true)⟩,
  ⟨some 12, .pick, [.t 9, .t 11, .c (.bool false)], none⟩,
  ⟨some 2, .mov, [.t 12], none⟩]
def Z12y : Z2y := ⟨13, (.seq (.region Z12w [0]) (.seq (.region Z12x [2]) .ret)), [.t 2]⟩
def Z12z : List Z2a := [
  ⟨some 2, (.box 5), [.t 0], none⟩,
  ⟨some 3, (.box 5), [.t 1], none⟩,
  ⟨some 4, .mov, [.c (.bool false)], none⟩]
def Z130 : List Z2a := [
  ⟨some 6, (.fad 0), [.t 2], none⟩,
  ⟨some 7, (.load false 1), [.t 6], none⟩,
  ⟨some 8, (.fad 0), [.t 3], none⟩,
  ⟨some 9, (.load false 1), [.t 8], none⟩,
  ⟨some 10, (.binb .neq), [.t 7, .t 9], none⟩,
  ⟨some 11, .mov, [.t 10], none⟩,
  ⟨some 12, (.fad 1), [.t 2], some (11, false)⟩,
  ⟨some 13, (.load false 1), [.t 12], some (11, false)⟩,
  ⟨some 14, (.fad 1), [.t 3], some (11, false)⟩,
  ⟨some 15, (.load false 1), [.t 14], some (11, false)⟩,
  ⟨some 16, (.bin .neq), [.t 13, .t 15], some (11, false)⟩,
  ⟨some 17, .pick, [.t 11, .c (.bool true), .t 16], none⟩,
  ⟨some 18, .mov, [.t 17], none⟩,
  ⟨some 19, (.fad 2), [.t 2], some (18, false)⟩,
  ⟨some 20, (.load false 1), [.t 19], some (18, false)⟩,
  ⟨some 21, (.fad 2), [.t 3], some (18, false)⟩,
  ⟨some 22, (.load false 1), [.t 21], some (18, false)⟩,
  ⟨some 23, (.bin .neq), [.t 20, .t 22], some (18, false)⟩,
  ⟨some 24, .pick, [.t 18, .c (.bool true), .t 23], none⟩,
  ⟨some 25, .mov, [.t 24], none⟩,
  ⟨some 26, (.fad 3), [.t 2], some (25, false)⟩,
  ⟨some 27, (.load false 1), [.t 26], some (25, false)⟩,
  ⟨some 28, .b2s, [.t 27], some (25, false)⟩,
  ⟨some 29, (.fad 3), [.t 3], some (25, false)⟩,
  ⟨some 30, (.load false 1), [.t 29], some (25, false)⟩,
  ⟨some 31, .b2s, [.t 30], some (25, false)⟩,
  ⟨some 32, (.bin .neq), [.t 28, .t 31], some (25, false)⟩,
  ⟨some 33, .pick, [.t 25, .c (.bool true), .t 32], none⟩,
  ⟨some 34, .mov, [.t 33], none⟩,
  ⟨some 35, (.fad 4), [.t 2], some (34, false)⟩,
  ⟨some 36, (.load false 1), [.t 35], some (34, false)⟩,
  ⟨some 37, .lens, [.t 36], some (34, false)⟩,
  ⟨some 38, (.fad 4), [.t 3], some (34, false)⟩,
  ⟨some 39, (.load false 1), [.t 38], some (34, false)⟩,
  ⟨some 40, .lens, [.t 39], some (34, false)⟩,
  ⟨some 41, (.bin .neq), [.t 37, .t 40], some (34, false)⟩,
  ⟨some 42, .pick, [.t 34, .c (.bool true), .t 41], none⟩]
def Z131 : List Z2a := [
  ⟨some 4, .mov, [.c (.bool false)], none⟩]
def Z132 : List Z2a := [
  ⟨some 5, .mov, [.c (.int .i64 0)], none⟩]
def Z133 : List Z2a := [
  ⟨some 43, .mov, [.t 5], none⟩,
  ⟨some 44, (.fad 4), [.t 2], none⟩,
  ⟨some 45, (.load false 1), [.t 44], none⟩,
  ⟨some 46, .lens, [.t 45], none⟩,
  ⟨some 47, (.bin .lss), [.t 43, .t 46], none⟩]
def Z134 : List Z2a := [
  ⟨some 50, (.fad 4), [.t 2], none⟩,
  ⟨some 51, (.load false 1), [.t 50], none⟩,
  ⟨some 52, .mov, [.t 5], none⟩,
  ⟨some 53, (.iad 5), [.t 51, .t 52], none⟩,
  ⟨some 54, (.load true 5), [.t 53], none⟩,
  ⟨some 55, (.fad 4), [.t 3], none⟩,
  ⟨some 56, (.load false 1), [.t 55], none⟩,
  ⟨some 57, .mov, [.t 5], none⟩,
  ⟨some 58, (.iad 5), [.t 56, .t 57], none⟩,
  ⟨some 59, (.load true 5), [.t 58], none⟩,
  ⟨some 60, (.call Zd1), [.t 54, .t 59], none⟩,
  ⟨some 61, .unot, [.t 60], none⟩]
def Z135 : List Z2a := [
  ⟨some 4, .mov, [.c (.bool false)], none⟩]
def Z136 : List Z2a := [
  ⟨some 48, .mov, [.t 5], none⟩,
  ⟨some 49, (.bin .add), [.t 48, .c (.int .i64 1)], none⟩,
  ⟨some 5, .mov, [.t 49], none⟩]
def Z137 : Z2b := (.seq (.seq (.region Z133 [2, 3, 5, 47]) (.cond (.t 47) .skip (.exit 0))) (.seq (.block 1 (.seq (.region Z134 [2, 3, 5, 61]) (.cond (.t 61) (.seq (.region Z135 [4]) .ret) .skip))) (.region Z136 [2, 3, 5])))
def Z138 : List Z2a := [
  ⟨some 4, .mov, [.c (.bool true)], none⟩]
def Z139 : Z2y := ⟨62, (.seq (.region Z12z [2, 3, 12, 13, 14, 15, 16, 19, 20, 21, 22, 23, 26, 27, 28, 29, 30, 31, 32, 35, 36, 37, 38, 39, 40, 41]) (.seq (.seq (.region Z130 [2, 3, 42]) (.cond (.t 42) (.seq (.region Z131 [4]) .ret) .skip)) (.seq (.seq (.region Z132 [2, 3, 5]) (.block 0 (.loop Z137))) (.seq (.region Z138 [4]) .ret)))), [.t 4]⟩
def Z13a : List Z2a := [
  ⟨some 3, (.box 6), [.t 0], none⟩,
  ⟨some 4, (.box 5), [.t 1], none⟩,
  ⟨some 5, (.box 5), [.t 2], none⟩,
  ⟨some 6, .mov, [.c (.int .i64 0)], none⟩,
  ⟨some 7, .mov, [.c (.bool false)], none⟩]
def Z13b : List Z2a := [
  ⟨some 8, (.fad 0), [.t 4], none⟩,
  ⟨some 9, (.load false 1), [.t 8], none⟩,
  ⟨some 10, .mov, [.t 9], none⟩,
  ⟨some 11, (.fad 0), [.t 5], some (10, false)⟩,
  ⟨some 12, (.load false 1), [.t 11], some (10, false)⟩,
  ⟨some 13, .pick, [.t 10, .c (.bool true), .t 12], none⟩,
  ⟨some 14, .mov, [.t 13], none⟩,
  ⟨some 15, (.fad 0), [.t 3], some (14, false)⟩,
  ⟨some 16, (.load false 1), [.t 15], some (14, false)⟩,
  ⟨some 17, (.call Zea), [.t 16], some (14, false)⟩,
  ⟨some 18, .unot, [.t 17], some (14, false)⟩,
  ⟨some 19, .pick, [.t 14, .c (.bool true), .t 18], none⟩]
def Z13c : List Z2a := [
  ⟨some 6, .mov, [.c (.int .i64 0)], none⟩,
  ⟨some 7, .mov, [.c (.bool false)], none⟩]
def Z13d : List Z2a := [
  ⟨some 20, (.fad 0), [.t 3], none⟩,
  ⟨some 21, (.load false 1), [.t 20], none⟩,
  ⟨some 22, (.call Ze9), [.t 21], none⟩]
def Z13e : List Z2a := [
  ⟨some 24, (.fad 3), [.t 4], none⟩,
  ⟨some 25, (.load false 1), [.t 24], none⟩,
  ⟨some 26, .b2s, [.t 25], none⟩,
  ⟨some 27, (.fad 3), [.t 5], none⟩,
  ⟨some 28, (.load false 1), [.t 27], none⟩,
  ⟨some 29, .b2s, [.t 28], none⟩,
  ⟨some 30, (.bin .lss), [.t 26, .t 29], none⟩,
  ⟨some 23, .mov, [.t 30], none⟩]
def Z13f : List Z2a := [
  ⟨some 6, .mov, [.c (.int .i64 (-1))], none⟩,
  ⟨some 7, .mov, [.c (.bool true)], none⟩]
def Z13g : List Z2a := [
  ⟨some 32, (.fad 3), [.t 4], none⟩,
  ⟨some 33, (.load false 1), [.t 32], none⟩,
  ⟨some 34, .b2s, [.t 33], none⟩,
  ⟨some 35, (.fad 3), [.t 5], none⟩,
  ⟨some 36, (.load false 1), [.t 35], none⟩,
  ⟨some 37, .b2s, [.t 36], none⟩,
  ⟨some 38, (.bin .gtr), [.t 34, .t 37], none⟩,
  ⟨some 31, .mov, [.t 38], none⟩]
def Z13h : List Z2a := [
  ⟨some 6, .mov, [.c (.int .i64 1)], none⟩,
  ⟨some 7, .mov, [.c (.bool true)], none⟩]
def Z13i : List Z2a := [
  ⟨some 6, .mov, [.c (.int .i64 0)], none⟩,
  ⟨some 7, .mov, [.c (.bool true)], none⟩]
def Z13j : List Z2a := [
  ⟨some 40, (.fad 1), [.t 4], none⟩,
  ⟨some 41, (.load false 1), [.t 40], none⟩,
  ⟨some 42, (.fad 1), [.t 5], none⟩,
  ⟨some 43, (.load false 1), [.t 42], none⟩,
  ⟨some 44, (.bin .lss), [.t 41, .t 43], none⟩,
  ⟨some 45, .mov, [.t 44], none⟩,
  ⟨some 46, (.fad 1), [.t 4], some (45, false)⟩,
  ⟨some 47, (.load false 1), [.t 46], some (45, false)⟩,
  ⟨some 48, (.fad 1), [.t 5], some (45, false)⟩,
  ⟨some 49, (.load false 1), [.t 48], some (45, false)⟩,
  ⟨some 50, (.bin .eql), [.t 47, .t 49], some (45, false)⟩,
  ⟨some 51, .mov, [.t 50], some (45, false)⟩,
  ⟨some 52, (.fad 2), [.t 4], some (51, true)⟩,
  ⟨some 53, (.load false 1), [.t 52], some (51, true)⟩,
  ⟨some 54, (.fad 2), [.t 5], some (51, true)⟩,
  ⟨some 55, (.load false 1), [.t 54], some (51, true)⟩,
  ⟨some 56, (.bin .lss), [.t 53, .t 55], some (51, true)⟩,
  ⟨some 57, .pick, [.t 51, .t 56, .c (.bool false)], some (45, false)⟩,
  ⟨some 58, .pick, [.t 45, .c (.bool true), .t 57], none⟩,
  ⟨some 39, .mov, [.t 58], none⟩]
def Z13k : List Z2a := [
  ⟨some 6, .mov, [.c (.int .i64 (-1))], none⟩,
  ⟨some 7, .mov, [.c (.bool true)], none⟩]
def Z13l : List Z2a := [
  ⟨some 60, (.fad 1), [.t 4], none⟩,
  ⟨some 61, (.load false 1), [.t 60], none⟩,
  ⟨some 62, (.fad 1), [.t 5], none⟩,
  ⟨some 63, (.load false 1), [.t 62], none⟩,
  ⟨some 64, (.bin .gtr), [.t 61, .t 63], none⟩,
  ⟨some 65, .mov, [.t 64], none⟩,
  ⟨some 66, (.fad 2), [.t 4], some (65, false)⟩,
  ⟨some 67, (.load false 1), [.t 66], some (65, false)⟩,
  ⟨some 68, (.fad 2), [.t 5], some (65, false)⟩,
  ⟨some 69, (.load false 1), [.t 68], some (65, false)⟩,
  ⟨some 70, (.bin .gtr), [.t 67, .t 69], some (65, false)⟩,
  ⟨some 71, .pick, [.t 65, .c (.bool true), .t 70], none⟩,
  ⟨some 59, .mov, [.t 71], none⟩]
def Z13m : List Z2a := [
  ⟨some 6, .mov, [.c (.int .i64 1)], none⟩,
  ⟨some 7, .mov, [.c (.bool true)], none⟩]
def Z13n : List Z2a := [
  ⟨some 6, .mov, [.c (.int .i64 0)], none⟩,
  ⟨some 7, .mov, [.c (.bool true)], none⟩]
def Z13o : Z2y := ⟨72, (.seq (.region Z13a [3, 4, 5, 11, 12, 15, 16, 17, 18, 46, 47, 48, 49, 50, 51, 52, 53, 54, 55, 56, 57, 66, 67, 68, 69, 70]) (.seq (.seq (.region Z13b [3, 4, 5, 19, 46, 47, 48, 49, 50, 51, 52, 53, 54, 55, 56, 57, 66, 67, 68, 69, 70]) (.cond (.t 19) (.seq (.region Z13c [6, 7]) .ret) .skip)) (.seq (.seq (.region Z13d [4, 5, 22, 46, 47, 48, 49, 50, 51, 52, 53, 54, 55, 56, 57, 66, 67, 68, 69, 70]) (.cond (.t 22) (.seq (.block 0 (.seq (.region Z13e [4, 5, 23]) (.cond (.t 23) (.seq (.region Z13f [6, 7]) .ret) (.seq (.region Z13g [31]) (.cond (.t 31) (.seq (.region Z13h [6, 7]) .ret) .skip))))) (.seq (.region Z13i [6, 7]) .ret)) .skip)) (.seq (.block 1 (.seq (.region Z13j [4, 5, 39, 66, 67, 68, 69, 70]) (.cond (.t 39) (.seq (.region Z13k [6, 7]) .ret) (.seq (.region Z13l [59]) (.cond (.t 59) (.seq (.region Z13m [6, 7]) .ret) .skip))))) (.seq (.region Z13n [6, 7]) .ret))))), [.t 6, .t 7]⟩
end Go.Abs
namespace Go.Abs
open Go Go.Proofs
theorem Z13p : Z2z Try.prog [] Zcu = some Z120.erase := by kernel_rfl
theorem Z13q : Z2z Try.prog [] Zd0 = some Z12g.erase := by kernel_rfl
theorem Z13r : Z2z Try.prog [] Ze8 = some Z12v.erase := by kernel_rfl
theorem Z13s : Z2z Try.prog [] Zeb = some Z12y.erase := by kernel_rfl
theorem Z13t : Z2z Try.prog [] Zd1 = some Z139.erase := by kernel_rfl
theorem Z13u : Z2z Try.prog [] Zec = some Z13o.erase := by kernel_rfl
end Go.Abs
namespace Go.Abs
open Go Go.Proofs
set_option linter.unusedVariables false
set_option linter.unusedSimpArgs false
theorem Z13v (l : List Nd) (p : Nat → Col → Prop) (q : Vl → Prop) (hq : ∀ v, q v → ∀ k ∈ v.kids, q k) (h0 : ∀ j c, p j c → p j (hereC false c))
    (h1 : ∀ j c v, p j c → q v → v.null = false → p j (addC (kindC l j) v c)) : ∀ (v : Vl) (at_ : Nat) (cs : List Col), q v → (∀ j c, cs[j]? = some c → p j c) → ∀ j c, (putF l at_ v cs).1[j]? = some c → p j c := by
  refine Vl.ind fun nu i n bs vks ih at_ cs hv h => ?_
  have hL : ∀ (vks : List Vl), (∀ v ∈ vks, q v) → (∀ v ∈ vks, ∀ (at_ : Nat) (cs : List Col), q v → (∀ j c, cs[j]? = some c → p j c) → ∀ j c, (putF l at_ v cs).1[j]? = some c → p j c) →
      ∀ (j : Nat) (cs : List Col), (∀ j c, cs[j]? = some c → p j c) → ∀ j' c, (putL l at_ i j vks cs).1[j']? = some c → p j' c := by
    intro vks
    induction vks with
    | nil => intro _ _ j cs h; exact h
    | cons v vs ih2 =>
      intro hqs hv j cs h
      rw [putL]
      split
      · exact ih2 (fun v h => hqs v (List.mem_cons_of_mem _ h)) (fun v h => hv v (List.mem_cons_of_mem _ h)) _ _ (hv v (by simp) _ _ (hqs v (by simp)) h)
      · exact hv v (by simp) _ _ (hqs v (by simp)) h
  have Ze : ∀ f : Col → Col, (∀ c, p at_ c → p at_ (f c)) → ∀ j c, (cs.set at_ (f (cs.getD at_ col0)))[j]? = some c → p j c := by
    intro f hf j c e
    rw [List.getElem?_set] at e
    split at e
    · rename_i hj
      subst hj
      split at e
      · rename_i hlt
        simp only [Option.some.injEq] at e
        subst e
        rw [List.getD_eq_getElem?_getD, List.getElem?_eq_getElem hlt, Option.getD_some]
        exact hf _ (h _ _ (List.getElem?_eq_getElem hlt))
      · cases e
    · exact h j c e
  rw [putF]
  split
  · exact h
  · split
    · exact Ze (hereC false) (fun c hc => h0 _ c hc)
    · rename_i hnu
      exact hL vks (fun k hk => hq _ hv k hk) (fun v hm at_ cs => ih v hm at_ cs) _ _ (Ze (fun c => addC (kindC l at_) (.mk nu i n bs vks) c) (fun c hc => h1 _ c _ hc hv (by simpa [Vl.null] using hnu)))
theorem Z13w (l : List Nd) (p : Nat → Col → Prop) (q : Vl → Prop) (hq : ∀ v, q v → ∀ k ∈ v.kids, q k) (h0 : ∀ j c, p j c → p j (hereC false c))
    (h1 : ∀ j c v, p j c → q v → v.null = false → p j (addC (kindC l j) v c)) : ∀ (rows : List Vl) (cs : List Col), (∀ v ∈ rows, q v) → (∀ j c, cs[j]? = some c → p j c) → ∀ j c, (Z11t l rows cs).1[j]? = some c → p j c
  | [], cs, _, h => h
  | v :: vs, cs, hv, h => by
    rw [Z11t]
    split
    · exact Z13w l p q hq h0 h1 vs _ (fun v hm => hv v (List.mem_cons_of_mem _ hm)) (Z13v l p q hq h0 h1 v 0 cs (hv v (by simp)) h)
    · exact Z13v l p q hq h0 h1 v 0 cs (hv v (by simp)) h
theorem Z13x (l : List Nd) : ∀ (rows : List Vl) (cs : List Col), (Z11t l rows cs).1.length = cs.length
  | [], cs => rfl
  | v :: vs, cs => by
    rw [Z11t]
    split
    · rw [Z13x l vs, Z11r]
    · exact Z11r l v 0 cs
theorem Z13y (l : List Nd) : ∀ (rows : List Vl) (cs : List Col), (∀ c ∈ cs, c.Sm) → ∀ c ∈ (Z11t l rows cs).1, c.Sm
  | [], cs, h => h
  | v :: vs, cs, h => by
    rw [Z11t]
    split
    · exact Z13y l vs _ (Z11s l v 0 cs h)
    · exact Z11s l v 0 cs h
inductive Vl.Sht : Vl → Prop
  | mk {v : Vl} (h1 : v.b.length ≤ 4096) (h2 : -9223372036854775808 ≤ v.i ∧ v.i ≤ 9223372036854775807) (h : ∀ k ∈ v.kids, Vl.Sht k) : Vl.Sht v
theorem Z13z (t : Ty) (i : Int) : ∀ (ks : List Vl) (j : Nat), Zmf t i j ks = 0 → ∀ k ∈ ks, ∃ u, vchk u k = 0
  | [], _, _, k, hk => by cases hk
  | v :: vs, j, h, k, hk => by
    rw [Zmf] at h
    split at h
    · omega
    · split at h
      · rename_i h1; exact absurd h h1
      · rename_i h1
        rcases List.mem_cons.1 hk with e | e
        · rw [e]; exact ⟨_, by simpa using h1⟩
        · exact Z13z t i vs _ h k e
theorem Z140 : ∀ (v : Vl) (t : Ty), v.Fit → vchk t v = 0 → v.Sht := by
  refine Vl.ind fun nu i n bs vks ih t hf h => ?_
  cases hf with
  | mk hi hbl hkl hks =>
  rw [vchk] at h
  split at h
  · split at h
    · omega
    · rename_i h1
      simp only [not_or, Decidable.not_not] at h1
      obtain ⟨_, _, hb, hk⟩ := h1
      have hk' : vks = [] := List.length_eq_zero_iff.1 hk
      subst hb hk'
      exact .mk (by simp [Vl.b]) hi (by simp [Vl.kids])
  · split at h
    · rename_i h1; exact absurd h h1
    · rename_i h1
      have h1' : ownV t i n bs vks.length = 0 := by simpa using h1
      refine .mk ?_ hi fun k hk => ?_
      · show bs.length ≤ 4096
        unfold ownV at h1'
        split at h1'
        · omega
        · split at h1'
          · omega
          · rename_i h2
            omega
      · obtain ⟨u, hu⟩ := Z13z t i vks _ h k hk
        exact ih k hk u (hks k hk) hu
structure Col.Rng (c : Col) : Prop where
  int : ∀ i ∈ c.ints, -9223372036854775808 ≤ i ∧ i ≤ 9223372036854775807
  text : ∀ t ∈ c.texts, t.length ≤ 4096
theorem Z141 {α : Type} {p : α → Prop} {l : List α} {a : α} (h : ∀ x ∈ l, p x) (ha : p a) : ∀ x ∈ l ++ [a], p x := fun x hx => by
  rcases List.mem_append.1 hx with e | e
  · exact h x e
  · rw [List.mem_singleton.1 e]; exact ha
theorem Z142 {c : Col} {k : Int} {v : Vl} (h : c.Rng) (hv : v.Sht) : (addC k v c).Rng := by
  cases hv with
  | mk h1 h2 _ =>
  obtain ⟨g1, g2⟩ := h
  have h3 : (addC1 k v (hereC true c)).Rng := by
    unfold addC1 hereC
    split
    · exact ⟨g1, Z141 g2 h1⟩
    · split
      · exact ⟨g1, g2⟩
      · split
        · exact ⟨g1, g2⟩
        · split
          · exact ⟨Z141 g1 h2, g2⟩
          · exact ⟨g1, g2⟩
  unfold addC addC2
  split
  · exact ⟨h3.1, h3.2⟩
  · exact h3
structure Col.Good (k : Int) (c : Col) : Prop where
  texts : c.texts.length = if Zma k = true then c.here.count true else 0
  ints : c.ints.length = if Zma k = true ∨ k = 10 ∨ k = 11 ∨ k = 12 then 0 else c.here.count true
  ns : c.ns.length = if k = 9 then c.here.count true else 0
  lens : c.lens.length = if k = 10 ∨ k = 11 then c.here.count true else 0
theorem Z143 {k : Int} (h : Zma k = true) : k = 7 ∨ k = 16 ∨ k = 17 ∨ k = 8 := by
  simp only [Zma, Bool.or_eq_true, decide_eq_true_eq] at h
  omega
theorem Z144 {k : Int} {c : Col} (h : c.Good k) : (hereC false c).Good k := by
  obtain ⟨h1, h2, h3, h4⟩ := h
  constructor <;> simp only [hereC, List.count_append, List.count_singleton] <;> simpa
theorem Z145 {k : Int} {c : Col} {v : Vl} (h : c.Good k) : (addC k v c).Good k := by
  obtain ⟨h1, h2, h3, h4⟩ := h
  have hc : (c.here ++ [true]).count true = c.here.count true + 1 := by simp
  cases ht : Zma k with
  | true =>
    have hk := Z143 ht
    rw [if_pos ht] at h1
    rw [if_pos (.inl ht)] at h2
    rw [if_neg (by omega)] at h3 h4
    have e : addC k v c = ⟨c.here ++ [true], c.ints, c.ns, c.texts ++ [v.b], c.lens⟩ := by rw [addC, addC2, if_neg (by omega), addC1, if_pos ht]; rfl
    rw [e]
    exact ⟨by rw [if_pos ht, hc]; simp [h1], by rw [if_pos (.inl ht)]; exact h2, by rw [if_neg (by omega)]; exact h3, by rw [if_neg (by omega)]; exact h4⟩
  | false =>
    have hf : ¬ Zma k = true := by simp [ht]
    rw [if_neg hf] at h1
    by_cases h10 : k = 10
    · rw [if_pos (.inr (.inl h10))] at h2
      rw [if_neg (by omega)] at h3
      rw [if_pos (.inl h10)] at h4
      have e : addC k v c = ⟨c.here ++ [true], c.ints, c.ns, c.texts, c.lens ++ [(v.kids.length : Int)]⟩ := by rw [addC, addC2, if_neg (by omega), addC1, if_neg hf, if_pos h10]; rfl
      rw [e]
      exact ⟨by rw [if_neg hf]; exact h1, by rw [if_pos (.inr (.inl h10))]; exact h2, by rw [if_neg (by omega)]; exact h3, by rw [if_pos (.inl h10), hc]; simp [h4]⟩
    · by_cases h11 : k = 11
      · rw [if_pos (.inr (.inr (.inl h11)))] at h2
        rw [if_neg (by omega)] at h3
        rw [if_pos (.inr h11)] at h4
        have e : addC k v c = ⟨c.here ++ [true], c.ints, c.ns, c.texts, c.lens ++ [((v.kids.length / 2 : Nat) : Int)]⟩ := by rw [addC, addC2, if_neg (by omega), addC1, if_neg hf, if_neg h10, if_pos h11]; rfl
        rw [e]
        exact ⟨by rw [if_neg hf]; exact h1, by rw [if_pos (.inr (.inr (.inl h11)))]; exact h2, by rw [if_neg (by omega)]; exact h3, by rw [if_pos (.inr h11), hc]; simp [h4]⟩
      · rw [if_neg (by omega)] at h4
        by_cases h12 : k = 12
        · rw [if_pos (.inr (.inr (.inr h12)))] at h2
          rw [if_neg (by omega)] at h3
          have e : addC k v c = ⟨c.here ++ [true], c.ints, c.ns, c.texts, c.lens⟩ := by rw [addC, addC2, if_neg (by omega), addC1, if_neg hf, if_neg h10, if_neg h11, if_neg (by omega)]; rfl
          rw [e]
          exact ⟨by rw [if_neg hf]; exact h1, by rw [if_pos (.inr (.inr (.inr h12)))]; exact h2, by rw [if_neg (by omega)]; exact h3, by rw [if_neg (by omega)]; exact h4⟩
        · have hn : ¬ (Zma k = true ∨ k = 10 ∨ k = 11 ∨ k = 12) := by rintro (h | h | h | h) <;> simp_all
          rw [if_neg hn] at h2
          by_cases h9 : k = 9
          · rw [if_pos h9] at h3
            have e : addC k v c = ⟨c.here ++ [true], c.ints ++ [v.i], c.ns ++ [v.n], c.texts, c.lens⟩ := by rw [addC, addC2, if_pos h9, addC1, if_neg hf, if_neg h10, if_neg h11, if_pos h12]; rfl
            rw [e]
            exact ⟨by rw [if_neg hf]; exact h1, by rw [if_neg hn, hc]; simp [h2], by rw [if_pos h9, hc]; simp [h3], by rw [if_neg (by omega)]; exact h4⟩
          · rw [if_neg h9] at h3
            have e : addC k v c = ⟨c.here ++ [true], c.ints ++ [v.i], c.ns, c.texts, c.lens⟩ := by rw [addC, addC2, if_neg h9, addC1, if_neg hf, if_neg h10, if_neg h11, if_pos h12]; rfl
            rw [e]
            exact ⟨by rw [if_neg hf]; exact h1, by rw [if_neg hn, hc]; simp [h2], by rw [if_neg h9]; exact h3, by rw [if_neg (by omega)]; exact h4⟩
theorem Z146 (k : Int) : col0.Good k := by constructor <;> simp [col0]
def getR (k : Int) (c : Col) (j : Nat) : Vl :=
  if Zma k = true then .mk false 0 0 (c.texts.getD j []) []
  else if Zls k = true then .mk false (c.ints.getD j 0) (if k = 9 then c.ns.getD j 0 else 0) [] []
  else vl0
def getRA (k : Int) (c : Col) (j : Nat) : Int :=
  if Zma k = true then ((c.texts.getD j []).length : Int) else if Zls k = true then c.ints.getD j 0 else 0
def stepR (k : Int) (v : Vl) (add : Int) (s : Stt) : Stt := Zyz k v add { s with count := s.count + 1 }
def Z147 (k : Int) (c : Col) : List Bool → Nat → Stt → Stt
  | [], _, s => s
  | true :: bs, j, s => Z147 k c bs (j + 1) (stepR k (getR k c j) (getRA k c j) s)
  | false :: bs, j, s => Z147 k c bs j s
def refOf (k : Int) (c : Col) : Stt := Z147 k c c.here 0 (of0 k c 0)
theorem Z148 (k : Int) (v : Vl) (add : Int) (s : Stt) (n : Int) : Zyz k v add { s with count := n } = { Zyz k v add s with count := n } := by
  obtain ⟨c, nl, h, mi, ma, su, sm⟩ := s
  unfold Zyz Zyo Zyp
  cases Zyi k <;> cases su <;> simp
theorem Z149 (k : Int) (v : Vl) (add : Int) (s : Stt) : (Zyz k v add s).count = s.count := by
  obtain ⟨c, nl, h, mi, ma, su, sm⟩ := s
  unfold Zyz Zyo Zyp
  cases Zyi k <;> cases su <;> simp
theorem Z14a (k : Int) (c : Col) : ∀ (m i : Nat) (s : Stt), (Zz0 k c m i s).count = s.count
  | 0, i, s => rfl
  | m + 1, i, s => by rw [Zz0, Z14a k c m, Z149]
theorem Z14b (k : Int) (c : Col) (n : Int) : ∀ (m j : Nat) (s : Stt), Zz0 k c m j { s with count := n } = { Zz0 k c m j s with count := n }
  | 0, j, s => rfl
  | m + 1, j, s => by rw [Zz0, Z148, Z14b k c n m, Zz0]
theorem Z14c (k : Int) (c : Col) (hg : ∀ j, j < c.here.count true → getR k c j = getV c j ∧ getRA k c j = getA c j) : ∀ (bs : List Bool) (j : Nat) (s : Stt), j + bs.count true ≤ c.here.count true → Z147 k c bs j s = { Zz0 k c (bs.count true) j s with count := (Zz0 k c (bs.count true) j s).count + (bs.count true : Nat) }
  | [], j, s, _ => by simp [Z147, Zz0]
  | false :: bs, j, s, h => by
    rw [List.count_cons] at h ⊢
    simp only [show ((false == true) = true) = False by simp, if_false, Nat.add_zero] at h ⊢
    rw [Z147]
    exact Z14c k c hg bs j s h
  | true :: bs, j, s, h => by
    rw [List.count_cons] at h ⊢
    simp only [beq_self_eq_true, if_true] at h ⊢
    rw [Z147, Z14c k c hg bs (j + 1) _ (by omega), Zz0, (hg j (by omega)).1, (hg j (by omega)).2, stepR, Z148, Z14b]
    rw [Z14a, Z149]
    simp only [Stt.mk.injEq, and_true, true_and]
    omega
theorem Z14d {k : Int} (h : Zls k = false) : k = 10 ∨ k = 11 ∨ k = 12 ∨ k = 13 := by
  simp only [Zls, Bool.not_eq_false', Bool.or_eq_true, decide_eq_true_eq] at h
  omega
theorem Z14e {k : Int} (h : Zls k = false) (v : Vl) (add : Int) (s : Stt) (hs : s.sums = false) : Zyz k v add s = s := by
  have hr : Zyi k = false := by simp [Zyi, h]
  rw [Zyz, if_neg (by simp [hr]), Zyo, if_neg (by simp [hs])]
theorem Z14f {k : Int} (h : Zls k = false) (c : Col) : ∀ (m j : Nat) (s : Stt), s.sums = false → Zz0 k c m j s = s
  | 0, j, s, _ => rfl
  | m + 1, j, s, hs => by rw [Zz0, Z14e h _ _ _ hs, Z14f h c m _ s hs]
theorem Z14g {k : Int} (h : Zls k = false) (c : Col) : ∀ (bs : List Bool) (j : Nat) (s : Stt), s.sums = false → Z147 k c bs j s = { s with count := s.count + (bs.count true : Nat) }
  | [], j, s, _ => by simp [Z147]
  | false :: bs, j, s, hs => by
    rw [List.count_cons]
    simp only [show ((false == true) = true) = False by simp, if_false, Nat.add_zero]
    rw [Z147]
    exact Z14g h c bs j s hs
  | true :: bs, j, s, hs => by
    rw [List.count_cons]
    simp only [beq_self_eq_true, if_true]
    rw [Z147, stepR, Z14e h _ _ { s with count := s.count + 1 } hs, Z14g h c bs (j + 1) { s with count := s.count + 1 } hs]
    simp only [Stt.mk.injEq, and_true, true_and]
    omega
theorem Z14h {k : Int} (h : Zls k = false) : Zyh k = false := by
  rcases Z14d h with rfl | rfl | rfl | rfl <;> rfl
theorem Z14i {k : Int} (h : Zma k = true) : Zls k = true := by
  rcases Z143 h with rfl | rfl | rfl | rfl <;> rfl
theorem Z14j (k : Int) (c : Col) (h : c.Good k) : refOf k c = ofF k c := by
  obtain ⟨h1, h2, h3, h4⟩ := h
  unfold refOf ofF
  cases hl : Zls k with
  | false =>
    rw [Z14g hl c _ _ _ (Z14h hl), Z14f hl c _ _ _ (Z14h hl)]
    simp [of0]
  | true =>
    have hk : k ≠ 10 ∧ k ≠ 11 ∧ k ≠ 12 := by
      refine ⟨?_, ?_, ?_⟩ <;> (intro e; subst e; simp [Zls] at hl)
    have hm : max c.ints.length c.texts.length = c.here.count true := by
      cases ht : Zma k with
      | true => rw [if_pos ht] at h1; rw [if_pos (.inl ht)] at h2; omega
      | false =>
        have hn : ¬ (Zma k = true ∨ k = 10 ∨ k = 11 ∨ k = 12) := by rw [ht]; simp; omega
        rw [if_neg (by simp [ht])] at h1; rw [if_neg hn] at h2; omega
    rw [Z14c k c ?_ _ _ _ (by omega), hm]
    · have e : Zz0 k c (c.here.count true) 0 (of0 k c (c.here.count true)) = { Zz0 k c (c.here.count true) 0 (of0 k c 0) with count := (c.here.count true : Nat) } := Z14b k c _ _ _ (of0 k c 0)
      rw [e, Z14a]
      simp [of0]
    · intro j hj
      cases ht : Zma k with
      | true =>
        rw [if_pos ht] at h1
        rw [if_pos (.inl ht)] at h2
        have h9 : k ≠ 9 := by rcases Z143 ht with rfl | rfl | rfl | rfl <;> decide
        rw [if_neg h9] at h3
        have hn : c.ns = [] := List.length_eq_zero_iff.1 h3
        rw [getR, if_pos ht, getRA, if_pos ht, getV, getA, if_pos (by omega), if_pos (by omega), hn]
        exact ⟨rfl, rfl⟩
      | false =>
        have hn : ¬ (Zma k = true ∨ k = 10 ∨ k = 11 ∨ k = 12) := by rw [ht]; simp; omega
        rw [if_neg (by simp [ht])] at h1
        have htx : c.texts = [] := List.length_eq_zero_iff.1 h1
        have hf : ¬ Zma k = true := by simp [ht]
        rw [getR, if_neg hf, if_pos hl, getRA, if_neg hf, if_pos hl, getV, getA, htx]
        refine ⟨?_, rfl⟩
        by_cases h9 : k = 9
        · rw [if_pos h9]; rfl
        · rw [if_neg h9] at h3
          have hn : c.ns = [] := List.length_eq_zero_iff.1 h3
          rw [if_neg h9, hn]; rfl
end Go.Abs
namespace Go.Abs
open Go Go.Proofs
set_option linter.unusedVariables false
set_option linter.unusedSimpArgs false
theorem u8_lt (a b : UInt8) : (a < b) ↔ a.toNat < b.toNat := UInt8.lt_iff_toNat_lt
theorem Z14k : ∀ a b : List UInt8, Lib.compareBytes b a = - Lib.compareBytes a b
  | [], [] => rfl
  | [], _ :: _ => rfl
  | _ :: _, [] => rfl
  | a :: xs, b :: bs => by
    simp only [Lib.compareBytes]
    simp only [u8_lt]
    (repeat' split) <;> first | omega | exact Z14k xs bs | rfl
theorem Z14l : ∀ a b c : List UInt8, Lib.compareBytes a b < 0 → Lib.compareBytes b c ≤ 0 → Lib.compareBytes a c < 0
  | [], [], _, h, _ => by simp [Lib.compareBytes] at h
  | [], _ :: _, [], _, h => by simp [Lib.compareBytes] at h
  | [], _ :: _, _ :: _, _, _ => by simp [Lib.compareBytes]
  | _ :: _, [], _, h, _ => by simp [Lib.compareBytes] at h
  | _ :: _, _ :: _, [], _, h => by simp [Lib.compareBytes] at h
  | a :: xs, b :: bs, c :: cs, h1, h2 => by
    simp only [Lib.compareBytes, u8_lt] at h1 h2 ⊢
    split at h1
    · split at h2
      · rw [if_pos (by omega)]; omega
      · split at h2
        · omega
        · rw [if_pos (by omega)]; omega
    · split at h1
      · omega
      · split at h2
        · rw [if_pos (by omega)]; omega
        · split at h2
          · omega
          · rw [if_neg (by omega), if_neg (by omega)]
            exact Z14l xs bs cs h1 h2
theorem Z14m {k : Int} (hk : Zls k = true) (a b : Vl) (ha : a.null = false) (hb : b.null = false) : (cmpV k a b).1 = if Zma k = true then Lib.compareBytes a.b b.b else if cmpI a.i b.i ≠ 0 then cmpI a.i b.i else cmpI a.n b.n := by
  have h : ¬ (Zls k = false ∨ a.null = true ∨ b.null = true) := by simp [hk, ha, hb]
  unfold cmpV
  rw [if_neg h]
  split <;> rfl
theorem Z14n {k : Int} (hk : Zls k = true) (a b : Vl) (ha : a.null = false) (hb : b.null = false) : (cmpV k b a).1 = - (cmpV k a b).1 := by
  rw [Z14m hk b a hb ha, Z14m hk a b ha hb]
  cases Zma k with
  | true => exact Z14k _ _
  | false =>
    simp only [Bool.false_eq_true, if_false, cmpI]
    (repeat' split) <;> omega
theorem Z14o (x y u v : Int) : (if cmpI x y ≠ 0 then cmpI x y else cmpI u v) < 0 ↔ x < y ∨ (x = y ∧ u < v) := by
  unfold cmpI
  rcases Int.lt_trichotomy x y with h | h | h
  · simp [h]
  · subst h
    simp only [Int.lt_irrefl, if_false, ne_eq, not_true_eq_false, false_or, true_and]
    (repeat' split) <;> omega
  · rw [if_neg (show ¬ x < y by omega), if_pos h]
    simp
    omega
theorem Z14p (x y u v : Int) : (if cmpI x y ≠ 0 then cmpI x y else cmpI u v) ≤ 0 ↔ x < y ∨ (x = y ∧ u ≤ v) := by
  unfold cmpI
  rcases Int.lt_trichotomy x y with h | h | h
  · simp [h]
  · subst h
    simp only [Int.lt_irrefl, if_false, ne_eq, not_true_eq_false, false_or, true_and]
    (repeat' split) <;> omega
  · rw [if_neg (show ¬ x < y by omega), if_pos h]
    simp
    omega
theorem Z14q {k : Int} (hk : Zls k = true) (a b c : Vl) (ha : a.null = false) (hb : b.null = false) (hc : c.null = false) (h1 : (cmpV k a b).1 < 0) (h2 : (cmpV k b c).1 ≤ 0) : (cmpV k a c).1 < 0 := by
  rw [Z14m hk a b ha hb] at h1
  rw [Z14m hk b c hb hc] at h2
  rw [Z14m hk a c ha hc]
  cases ht : Zma k with
  | true =>
    rw [ht] at h1 h2
    exact Z14l _ _ _ h1 h2
  | false =>
    rw [ht] at h1 h2
    simp only [Bool.false_eq_true, if_false] at h1 h2 ⊢
    rw [Z14o] at h1 ⊢
    rw [Z14p] at h2
    omega
theorem Z14r {k : Int} (hk : Zls k = true) (a b c : Vl) (ha : a.null = false) (hb : b.null = false) (hc : c.null = false) (h1 : (cmpV k a b).1 ≤ 0) (h2 : (cmpV k b c).1 < 0) : (cmpV k a c).1 < 0 := by
  have e1 := Z14n hk a c ha hc
  have e2 := Z14n hk a b ha hb
  by_cases h : (cmpV k a c).1 < 0
  · exact h
  · have := Z14q hk b c a hb hc ha h2 (by omega)
    omega
theorem Z14s {k : Int} (hk : Zls k = true) (a : Vl) (ha : a.null = false) : (cmpV k a a).1 = 0 := by
  have := Z14n hk a a ha ha
  omega
structure Sp where
  has : Bool
  min : Vl
  max : Vl
def spOf (s : Stt) : Sp := ⟨s.has, s.min, s.max⟩
def sp0 : Sp := ⟨false, vl0, vl0⟩
def Z14t (k : Int) (s : Sp) (v : Vl) : Sp :=
  if Zyi k = true then ⟨true, if s.has = false ∨ (cmpV k v s.min).1 < 0 then v else s.min, if s.has = false ∨ 0 < (cmpV k v s.max).1 then v else s.max⟩ else s
def Z14u (p : Int × Bool) (a : Int) : Int × Bool := if p.2 = true then addF p.1 a else p
theorem Z14v (k : Int) (v : Vl) (add : Int) (s : Stt) : Zyz k v add s = ⟨s.count, s.null, (Z14t k (spOf s) v).has, (Z14t k (spOf s) v).min, (Z14t k (spOf s) v).max, (Z14u (s.sum, s.sums) add).2, (Z14u (s.sum, s.sums) add).1⟩ := by
  obtain ⟨c, n, h, mi, ma, su, sm⟩ := s
  unfold Zyz Zyo Z14t Z14u spOf
  cases Zyi k <;> cases su <;> simp [Zyp]
def getsC (c : Col) (n : Nat) : List (Vl × Int) := (List.range n).map fun i => (getV c i, getA c i)
def colN (c : Col) : Nat := max c.ints.length c.texts.length
def valsC (c : Col) : List (Vl × Int) := getsC c (colN c)
def ofL (k : Int) (l : List (Vl × Int)) (s : Stt) : Stt :=
  ⟨s.count, s.null, ((l.map (·.1)).foldl (Z14t k) (spOf s)).has, ((l.map (·.1)).foldl (Z14t k) (spOf s)).min, ((l.map (·.1)).foldl (Z14t k) (spOf s)).max, ((l.map (·.2)).foldl Z14u (s.sum, s.sums)).2, ((l.map (·.2)).foldl Z14u (s.sum, s.sums)).1⟩
theorem Z14w (k : Int) (c : Col) : ∀ (m i : Nat) (s : Stt), Zz0 k c m i s = ofL k ((List.range' i m).map fun i => (getV c i, getA c i)) s
  | 0, i, s => by simp [Zz0, ofL, spOf]
  | m + 1, i, s => by
    rw [Zz0, Z14w k c m, Z14v]
    simp only [ofL, List.range'_succ, List.map_cons, List.foldl_cons, spOf]
theorem ofF_L (k : Int) (c : Col) : ofF k c = ofL k (valsC c) (of0 k c (c.here.count true)) := by
  rw [ofF, Z14w, valsC, getsC, colN, List.range_eq_range']
def spC (k : Int) (c : Col) : Sp := ((valsC c).map (·.1)).foldl (Z14t k) sp0
def smC (k : Int) (c : Col) : Int × Bool := ((valsC c).map (·.2)).foldl Z14u (0, Zyh k)
theorem Z14x (k : Int) (c : Col) : ofF k c = ⟨(c.here.count true : Nat), hasF c, (spC k c).has, (spC k c).min, (spC k c).max, (smC k c).2, (smC k c).1⟩ := by
  rw [ofF_L, ofL]; rfl
structure Bnd (k : Int) (vs : List Vl) (s : Sp) : Prop where
  nmin : s.min.null = false
  nmax : s.max.null = false
  all : s.has = true → ∀ v ∈ vs, 0 ≤ (cmpV k v s.min).1 ∧ (cmpV k v s.max).1 ≤ 0
  min : s.has = true → s.min ∈ vs
  max : s.has = true → s.max ∈ vs
  none : s.has = false → Zyi k = true → vs = []
  zero : s.has = false → s = sp0
theorem Z14y {k : Int} (h : Zyi k = true) : Zls k = true := by
  simp only [Zyi, Bool.and_eq_true] at h
  exact h.1
theorem Bnd.step {k : Int} {vs : List Vl} {s : Sp} (h : Bnd k vs s) (hnr : Zyi k = false → s.has = false) {v : Vl} (hv : v.null = false) : Bnd k (vs ++ [v]) (Z14t k s v) := by
  obtain ⟨n1, n2, ha, hmi, hma, hno, hz⟩ := h
  unfold Z14t
  cases hr : Zyi k with
  | false =>
    have hh := hnr hr
    rw [if_neg (by simp)]
    exact ⟨n1, n2, fun e => (by rw [hh] at e; cases e), fun e => (by rw [hh] at e; cases e), fun e => (by rw [hh] at e; cases e), fun _ e => by simp [hr] at e, hz⟩
  | true =>
    rw [if_pos rfl]
    have hk := Z14y hr
    have hvv := Z14s hk v hv
    cases hh : s.has with
    | false =>
      rw [if_pos (.inl rfl), if_pos (.inl rfl), hno hh hr]
      refine ⟨hv, hv, fun _ x hx => ?_, fun _ => by simp, fun _ => by simp, fun e => (by cases e), fun e => (by cases e)⟩
      rw [List.mem_singleton.1 hx]
      show 0 ≤ (cmpV k v v).1 ∧ (cmpV k v v).1 ≤ 0
      omega
    | true =>
      have ha' := ha hh
      have a1 := Z14n hk v s.min hv n1
      have a2 := Z14n hk v s.max hv n2
      refine ⟨?_, ?_, fun _ x hx => ⟨?_, ?_⟩, fun _ => ?_, fun _ => ?_, fun e => (by cases e), fun e => (by cases e)⟩
      · simp only []; split <;> assumption
      · simp only []; split <;> assumption
      · simp only [Bool.true_eq_false, false_or]
        split
        · rename_i h1
          rcases List.mem_append.1 hx with e | e
          · have h2 := ha' x e
            by_cases hxn : x.null = true
            · have : (cmpV k x v).1 = 0 := by unfold cmpV; rw [if_pos (.inr (.inl hxn))]
              omega
            · have hxn : x.null = false := by simpa using hxn
              have h3 := Z14q hk v s.min x hv n1 hxn h1 (by have := Z14n hk x s.min hxn n1; omega)
              have := Z14n hk x v hxn hv
              omega
          · rw [List.mem_singleton.1 e]; omega
        · rename_i h1
          rcases List.mem_append.1 hx with e | e
          · exact (ha' x e).1
          · rw [List.mem_singleton.1 e]; omega
      · simp only [Bool.true_eq_false, false_or]
        split
        · rename_i h1
          rcases List.mem_append.1 hx with e | e
          · have h2 := ha' x e
            by_cases hxn : x.null = true
            · have : (cmpV k x v).1 = 0 := by unfold cmpV; rw [if_pos (.inr (.inl hxn))]
              omega
            · have hxn : x.null = false := by simpa using hxn
              have h3 := Z14r hk x s.max v hxn n2 hv h2.2 (by omega)
              omega
          · rw [List.mem_singleton.1 e]; omega
        · rename_i h1
          rcases List.mem_append.1 hx with e | e
          · exact (ha' x e).2
          · rw [List.mem_singleton.1 e]; omega
      · simp only [Bool.true_eq_false, false_or]
        split
        · simp
        · exact List.mem_append_left _ (hmi hh)
      · simp only [Bool.true_eq_false, false_or]
        split
        · simp
        · exact List.mem_append_left _ (hma hh)
theorem Z14z {k : Int} {s : Sp} {v : Vl} (h : Zyi k = false → s.has = false) : Zyi k = false → (Z14t k s v).has = false := by
  intro e
  unfold Z14t
  rw [if_neg (by simp [e])]
  exact h e
theorem Bnd.fold {k : Int} : ∀ (ws vs : List Vl) (s : Sp), Bnd k vs s → (Zyi k = false → s.has = false) → (∀ v ∈ ws, v.null = false) → Bnd k (vs ++ ws) (ws.foldl (Z14t k) s)
  | [], vs, s, h, _, _ => by simpa using h
  | w :: ws, vs, s, h, hr, hn => by
    have := Bnd.fold ws (vs ++ [w]) _ (h.step hr (hn w (by simp))) (Z14z hr) (fun v hv => hn v (List.mem_cons_of_mem _ hv))
    simpa using this
theorem bnd0 (k : Int) : Bnd k [] sp0 := ⟨rfl, rfl, fun e => (by cases e), fun e => (by cases e), fun e => (by cases e), fun _ _ => rfl, fun _ => rfl⟩
theorem Z150 (c : Col) : ∀ v ∈ (valsC c).map (·.1), v.null = false := by
  intro v hv
  simp only [valsC, getsC, List.map_map, List.mem_map] at hv
  obtain ⟨i, _, rfl⟩ := hv
  rfl
theorem Z151 (k : Int) (c : Col) : Bnd k ((valsC c).map (·.1)) (spC k c) := by
  have := Bnd.fold (k := k) ((valsC c).map (·.1)) [] sp0 (bnd0 k) (fun _ => rfl) (Z150 c)
  rw [List.nil_append] at this
  exact this
def Z152 (k : Int) (a b : Sp) : Sp :=
  if a.has = false then b else if b.has = false then a
  else ⟨true, if (cmpV k b.min a.min).1 < 0 then b.min else a.min, if 0 < (cmpV k b.max a.max).1 then b.max else a.max⟩
theorem Z153 {k : Int} (a b : Sp) (v : Vl) (a1 : a.min.null = false) (a2 : a.max.null = false) (b1 : b.min.null = false) (b2 : b.max.null = false) (hv : v.null = false) : Z152 k a (Z14t k b v) = Z14t k (Z152 k a b) v := by
  unfold Z14t
  cases hr : Zyi k with
  | false => simp
  | true =>
    have hk := Z14y hr
    simp only [if_true]
    cases ha : a.has with
    | false => simp [Z152, ha]
    | true =>
      cases hb : b.has with
      | false => simp [Z152, ha, hb]
      | true =>
        have t1 := Z14q hk v b.min a.min hv b1 a1
        have t2 := Z14q hk v a.min b.min hv a1 b1
        have e1 := Z14n hk a.min b.min a1 b1
        have u1 := Z14r hk a.max b.max v a2 b2 hv
        have u2 := Z14r hk b.max a.max v b2 a2 hv
        have e2 := Z14n hk a.max b.max a2 b2
        have e3 := Z14n hk v b.max hv b2
        have e4 := Z14n hk v a.max hv a2
        have e5 := Z14n hk v b.min hv b1
        have e6 := Z14n hk v a.min hv a1
        simp only [Z152, ha, hb, Bool.true_eq_false, false_or, if_false, Sp.mk.injEq, true_and]
        constructor
        · by_cases h1 : (cmpV k v b.min).1 < 0
          · by_cases h2 : (cmpV k b.min a.min).1 < 0
            · simp only [if_pos h1, if_pos h2, if_pos (t1 h1 (by omega))]
            · simp only [if_pos h1, if_neg h2]
          · by_cases h2 : (cmpV k b.min a.min).1 < 0
            · simp only [if_neg h1, if_pos h2]
            · have : ¬ (cmpV k v a.min).1 < 0 := fun h => h1 (t2 h (by omega))
              simp only [if_neg h1, if_neg h2, if_neg this]
        · by_cases h1 : 0 < (cmpV k v b.max).1
          · by_cases h2 : 0 < (cmpV k b.max a.max).1
            · have := u1 (by omega) (by omega)
              simp only [if_pos h1, if_pos h2, if_pos (show 0 < (cmpV k v a.max).1 by omega)]
            · simp only [if_pos h1, if_neg h2]
          · by_cases h2 : 0 < (cmpV k b.max a.max).1
            · simp only [if_neg h1, if_pos h2]
            · have : ¬ 0 < (cmpV k v a.max).1 := fun h => h1 (by have := u2 (by omega) (by omega); omega)
              simp only [if_neg h1, if_neg h2, if_neg this]
theorem Z154 {k : Int} {s : Sp} {v : Vl} (h1 : s.min.null = false) (h2 : s.max.null = false) (hv : v.null = false) : (Z14t k s v).min.null = false ∧ (Z14t k s v).max.null = false := by
  unfold Z14t
  split
  · simp only []
    constructor <;> (split <;> assumption)
  · exact ⟨h1, h2⟩
theorem Z155 {k : Int} (a : Sp) (a1 : a.min.null = false) (a2 : a.max.null = false) : ∀ (vs : List Vl) (b : Sp), b.min.null = false → b.max.null = false → (∀ v ∈ vs, v.null = false) → Z152 k a (vs.foldl (Z14t k) b) = vs.foldl (Z14t k) (Z152 k a b)
  | [], b, _, _, _ => rfl
  | v :: vs, b, b1, b2, hv => by
    have hvn := hv v (by simp)
    have := Z154 (k := k) b1 b2 hvn
    rw [List.foldl_cons, Z155 a a1 a2 vs _ this.1 this.2 (fun v h => hv v (List.mem_cons_of_mem _ h)), Z153 a b v a1 a2 b1 b2 hvn, List.foldl_cons]
theorem Z156 (k : Int) (a : Sp) (h : a.has = false → a = sp0) : Z152 k a sp0 = a := by
  unfold Z152
  split
  · rename_i e; rw [h e]
  · rw [if_pos (show sp0.has = false from rfl)]
theorem Z157 (k : Int) (x y : Stt) (hx : x.has = false → spOf x = sp0) : Zz9 k x y = ⟨IntKind.wrap .i64 (x.count + y.count), x.null || y.null, (Z152 k (spOf x) (if y.has = true then spOf y else sp0)).has, (Z152 k (spOf x) (if y.has = true then spOf y else sp0)).min, (Z152 k (spOf x) (if y.has = true then spOf y else sp0)).max,
    (Zz7 x y).sums, (Zz7 x y).sum⟩ := by
  have h0 : (Zz7 x y).count = IntKind.wrap .i64 (x.count + y.count) ∧ (Zz7 x y).null = (x.null || y.null) ∧ (Zz7 x y).has = false ∧ (Zz7 x y).min = vl0 ∧ (Zz7 x y).max = vl0 := by
    unfold Zz7 Zyo Zz6
    (repeat' split) <;> exact ⟨rfl, rfl, rfl, rfl, rfl⟩
  obtain ⟨e1, e2, e3, e4, e5⟩ := h0
  rw [Zz9, Zz8, Zz8, Zz8]
  cases hxh : x.has with
  | false =>
    rw [hx hxh]
    cases hyh : y.has with
    | false =>
      simp only [Bool.false_eq_true, if_false, Z152, sp0, if_true]
      rw [← e1, ← e2]
      cases hm : Zz7 x y with
      | mk c n h mi ma su sm =>
        rw [hm] at e3 e4 e5
        simp only at e3 e4 e5
        simp [e3, e4, e5]
    | true =>
      simp only [Bool.false_eq_true, if_false, Z152, sp0, if_true, Zyp, e3, spOf, true_or]
      simp [e1, e2, hyh]
  | true =>
    cases hyh : y.has with
    | false =>
      simp only [Bool.false_eq_true, Z152, spOf, hxh, sp0, Bool.true_eq_false, if_false, if_true, Zyp, e3, true_or, e1, e2]
    | true =>
      simp only [Z152, spOf, hxh, hyh, Bool.true_eq_false, if_false, if_true, Zyp, e3, true_or, false_or, e1, e2]
theorem Z158 (a b : Int) : Z14u (a, false) b = (a, false) := rfl
theorem Z159 : ∀ (l : List Int) (a : Int), l.foldl Z14u (a, false) = (a, false)
  | [], a => rfl
  | b :: l, a => by rw [List.foldl_cons, Z158, Z159 l a]
theorem Z15a : ∀ (l : List Int) (p : Int × Bool), (l.foldl Z14u p).2 = true → p.2 = true ∧ (l.foldl Z14u p).1 = p.1 + l.sum
  | [], p, h => ⟨h, by simp⟩
  | b :: l, p, h => by
    obtain ⟨h1, h2⟩ := Z15a l _ (by simpa using h)
    obtain ⟨s, t⟩ := p
    cases t with
    | false => cases h1
    | true =>
      refine ⟨rfl, ?_⟩
      rw [List.foldl_cons, h2]
      simp only [Z14u, if_true, addF] at h1 ⊢
      split at h1
      · rename_i hb
        rw [if_pos hb, List.sum_cons]; omega
      · cases h1
theorem Z15b (l m : List Int) (p : Int × Bool) : (l ++ m).foldl Z14u p = m.foldl Z14u (l.foldl Z14u p) := List.foldl_append
def appC (a b : Col) : Col := ⟨a.here ++ b.here, a.ints ++ b.ints, a.ns ++ b.ns, a.texts ++ b.texts, a.lens ++ b.lens⟩
def appCs (xs cs : List Col) : List Col := List.zipWith appC xs cs
theorem Z15c (b : Bool) (x c : Col) : hereC b (appC x c) = appC x (hereC b c) := by simp [hereC, appC]
theorem Z15d (k : Int) (v : Vl) (x c : Col) : addC k v (appC x c) = appC x (addC k v c) := by
  unfold addC addC2 addC1 hereC appC
  (repeat' split) <;> simp
theorem Z15e (f : Col → Col) (hf : ∀ x c, f (appC x c) = appC x (f c)) : ∀ (xs cs : List Col) (i : Nat), xs.length = cs.length → (appCs xs cs).set i (f ((appCs xs cs).getD i col0)) = appCs xs (cs.set i (f (cs.getD i col0)))
  | [], [], i, _ => by simp [appCs]
  | x :: xs, c :: cs, 0, _ => by simp [appCs, hf]
  | x :: xs, c :: cs, i + 1, h => by
    have := Z15e f hf xs cs i (by simpa using h)
    simp only [appCs, List.zipWith_cons_cons, List.set_cons_succ, List.getD_cons_succ] at this ⊢
    rw [this]
  | [], _ :: _, _, h => by simp at h
  | _ :: _, [], _, h => by simp at h
theorem Z15f (xs cs : List Col) (h : xs.length = cs.length) : (appCs xs cs).length = cs.length := by simp [appCs, h]
theorem Z15g : ∀ (xs cs : List Col) (i : Nat), xs.length = cs.length → (cs.getD i col0).here.length ≤ ((appCs xs cs).getD i col0).here.length
  | [], [], i, _ => by simp [appCs]
  | x :: xs, c :: cs, 0, _ => by simp [appCs, appC]
  | x :: xs, c :: cs, i + 1, h => by
    have := Z15g xs cs i (by simpa using h)
    simpa [appCs] using this
  | [], _ :: _, _, h => by simp at h
  | _ :: _, [], _, h => by simp at h
theorem Z15h (l : List Nd) : ∀ (v : Vl) (at_ : Nat) (xs cs : List Col), xs.length = cs.length → (putF l at_ v (appCs xs cs)).2 = true → (putF l at_ v cs).2 = true ∧ (putF l at_ v (appCs xs cs)).1 = appCs xs (putF l at_ v cs).1 := by
  refine Vl.ind fun nu i n bs vks ih at_ xs cs hl h => ?_
  have hL : ∀ (vks : List Vl), (∀ v ∈ vks, ∀ (at_ : Nat) (xs cs : List Col), xs.length = cs.length → (putF l at_ v (appCs xs cs)).2 = true → (putF l at_ v cs).2 = true ∧ (putF l at_ v (appCs xs cs)).1 = appCs xs (putF l at_ v cs).1) →
      ∀ (j : Nat) (xs cs : List Col), xs.length = cs.length → (putL l at_ i j vks (appCs xs cs)).2 = true → (putL l at_ i j vks cs).2 = true ∧ (putL l at_ i j vks (appCs xs cs)).1 = appCs xs (putL l at_ i j vks cs).1 := by
    intro vks
    induction vks with
    | nil => intro _ j xs cs _ _; exact ⟨rfl, rfl⟩
    | cons v vs ih2 =>
      intro hv j xs cs hl h
      rw [putL] at h
      split at h
      · rename_i h1
        obtain ⟨g1, g2⟩ := hv v (by simp) _ xs cs hl h1
        rw [g2] at h
        rw [putL, putL, if_pos h1, if_pos g1, g2]
        exact ih2 (fun v h => hv v (List.mem_cons_of_mem _ h)) _ xs _ (by rw [hl, Z11r]) h
      · cases h
  have hle := Z15g xs cs at_ hl
  rw [putF] at h ⊢
  rw [putF]
  split at h
  · cases h
  · rename_i h1
    rw [if_neg h1, if_neg (by omega)]
    split at h
    · rename_i h2
      rw [if_pos h2, if_pos h2]
      exact ⟨rfl, Z15e (hereC false) (Z15c false) xs cs at_ hl⟩
    · rename_i h2
      rw [if_neg h2, if_neg h2]
      rw [Z15e (fun c => addC (kindC l at_) (.mk nu i n bs vks) c) (Z15d _ _) xs cs at_ hl] at h ⊢
      exact hL vks (fun v hm at_ xs cs => ih v hm at_ xs cs) 0 xs _ (by rw [hl, List.length_set]) h
theorem Z15i (l : List Nd) : ∀ (rows : List Vl) (xs cs : List Col), xs.length = cs.length → (Z11t l rows (appCs xs cs)).2 = true → (Z11t l rows cs).2 = true ∧ (Z11t l rows (appCs xs cs)).1 = appCs xs (Z11t l rows cs).1
  | [], xs, cs, _, _ => ⟨rfl, rfl⟩
  | v :: vs, xs, cs, hl, h => by
    rw [Z11t] at h
    split at h
    · rename_i h1
      obtain ⟨g1, g2⟩ := Z15h l v 0 xs cs hl h1
      rw [g2] at h
      rw [Z11t, Z11t, if_pos h1, if_pos g1, g2]
      exact Z15i l vs xs _ (by rw [hl, Z11r]) h
    · cases h
theorem Z15j (l : List Nd) : ∀ (r1 r2 : List Vl) (cs : List Col), Z11t l (r1 ++ r2) cs = if (Z11t l r1 cs).2 = true then Z11t l r2 (Z11t l r1 cs).1 else Z11t l r1 cs
  | [], r2, cs => by simp [Z11t]
  | v :: vs, r2, cs => by
    rw [List.cons_append, Z11t, Z11t]
    split
    · exact Z15j l vs r2 _
    · simp
theorem Z15k : ∀ (xs : List Col), appCs xs (List.replicate xs.length col0) = xs
  | [] => rfl
  | x :: xs => by
    have := Z15k xs
    simp only [appCs, List.length_cons, List.replicate_succ, List.zipWith_cons_cons] at this ⊢
    rw [this]
    simp [appC, col0]
theorem Z15l {t : Ty} {rows : List Vl} (h : (Z11u t rows).2 = 0) : Zlw t = 0 ∧ rowsE t rows = 0 ∧ (Z11t (Zm3 t) rows (List.replicate (Zm3 t).length col0)).2 = true ∧ (Z11u t rows).1 = (Z11t (Zm3 t) rows (List.replicate (Zm3 t).length col0)).1 := by
  unfold Z11u at h ⊢
  split at h
  · rename_i h0; exact absurd h h0
  · rename_i h0
    split at h
    · rename_i h1; exact absurd h h1
    · rename_i h1
      split at h
      · rename_i h2
        rw [if_neg h0, if_neg h1, if_pos h2]
        exact ⟨by simpa using h0, by simpa using h1, h2, rfl⟩
      · cases h
theorem Z15m {t : Ty} {r1 r2 : List Vl} (h1 : (Z11u t r1).2 = 0) (h2 : (Z11u t r2).2 = 0) (h : (Z11u t (r1 ++ r2)).2 = 0) : (Z11u t (r1 ++ r2)).1 = appCs (Z11u t r1).1 (Z11u t r2).1 := by
  obtain ⟨_, _, a1, a2⟩ := Z15l h1
  obtain ⟨_, _, b1, b2⟩ := Z15l h2
  obtain ⟨_, _, c1, c2⟩ := Z15l h
  rw [Z15j, if_pos a1] at c1 c2
  rw [c2, a2, b2]
  generalize Zm3 t = l at *
  have hlen : (Z11t l r1 (List.replicate l.length col0)).1.length = l.length := by rw [Z13x, List.length_replicate]
  generalize (Z11t l r1 (List.replicate l.length col0)).1 = xs at *
  have e := Z15k xs
  rw [hlen] at e
  rw [← e] at c1
  have := Z15i l r2 xs (List.replicate l.length col0) (by rw [hlen, List.length_replicate]) c1
  rw [← this.2, e]
theorem Z15n {t : Ty} {rows : List Vl} (h : (Z11u t rows).2 = 0) : (Z11u t rows).1.length = (Zm3 t).length := by
  rw [(Z15l h).2.2.2, Z13x, List.length_replicate]
structure ColOk (k : Int) (c : Col) : Prop where
  good : c.Good k
  rng : c.Rng
  sm : c.Sm
theorem ColOk.fit {k : Int} {c : Col} (h : ColOk k c) : c.Fit := by
  obtain ⟨_, ⟨h1, h2⟩, ⟨s1, s2, s3, s4, s5⟩⟩ := h
  exact ⟨by omega, by omega, by omega, by omega, by omega, h1, fun t ht => by have := h2 t ht; omega⟩
theorem Z15o {t : Ty} {rows : List Vl} (hf : ∀ v ∈ rows, v.Fit) (h : (Z11u t rows).2 = 0) {j : Nat} {c : Col} (hc : (Z11u t rows).1[j]? = some c) : ColOk (kindC (Zm3 t) j) c := by
  obtain ⟨h0, h1, h2, h3⟩ := Z15l h
  have hok := Z11w h1
  rw [h3] at hc
  generalize Zm3 t = l at *
  have hz : ∀ j c, (List.replicate l.length col0)[j]? = some c → c = col0 := fun j c e => List.eq_of_mem_replicate (List.mem_of_getElem? e)
  have hq : ∀ v ∈ rows, v.Sht := fun v hv => Z140 v t (hf v hv) (hok v hv).1
  have hqk : ∀ v : Vl, v.Sht → ∀ k ∈ v.kids, k.Sht := fun v hv k hk => by cases hv with | mk _ _ h => exact h k hk
  refine ⟨?_, ?_, ?_⟩
  · exact Z13w l (fun j c => c.Good (kindC l j)) Vl.Sht hqk (fun j c h => Z144 h) (fun j c v h _ _ => Z145 h) rows _ hq (fun j c e => by rw [hz j c e]; exact Z146 _) j c hc
  · exact Z13w l (fun _ c => c.Rng) Vl.Sht hqk (fun j c h => ⟨h.1, h.2⟩) (fun j c v h hv _ => Z142 h hv) rows _ hq (fun j c e => by rw [hz j c e]; exact ⟨by simp [col0], by simp [col0]⟩) j c hc
  · refine Z13y l rows _ (fun c hc => ?_) c (List.mem_of_getElem? hc)
    rw [List.eq_of_mem_replicate hc]
    exact ⟨by simp [col0], by simp [col0], by simp [col0], by simp [col0], by simp [col0]⟩
theorem Good.n {k : Int} {c : Col} (h : c.Good k) : (Zma k = true ∧ c.ints = [] ∧ c.ns = [] ∧ colN c = c.texts.length) ∨ (c.texts = [] ∧ colN c = c.ints.length ∧ (c.ns = [] ∨ c.ns.length = c.ints.length) ∧ (c.ns = [] ↔ (k ≠ 9 ∨ c.ints = []))) := by
  obtain ⟨h1, h2, h3, h4⟩ := h
  unfold colN
  cases ht : Zma k with
  | true =>
    have := Z143 ht
    rw [if_pos (.inl ht)] at h2
    rw [if_neg (by omega)] at h3
    exact .inl ⟨rfl, List.length_eq_zero_iff.1 h2, List.length_eq_zero_iff.1 h3, by omega⟩
  | false =>
    rw [if_neg (by simp [ht])] at h1
    refine .inr ⟨List.length_eq_zero_iff.1 h1, by omega, ?_, ?_⟩
    · by_cases h9 : k = 9
      · rw [if_pos h9] at h3
        rw [if_neg (by rw [ht]; simp; omega)] at h2
        exact .inr (by omega)
      · rw [if_neg h9] at h3
        exact .inl (List.length_eq_zero_iff.1 h3)
    · by_cases h9 : k = 9
      · rw [if_pos h9] at h3
        rw [if_neg (by rw [ht]; simp; omega)] at h2
        rw [← List.length_eq_zero_iff, ← List.length_eq_zero_iff, h3, h2]
        simp [h9]
      · rw [if_neg h9] at h3
        simp [List.length_eq_zero_iff.1 h3, h9]
theorem Z15p {α : Type} (a b : List α) (d : α) (i : Nat) : (a ++ b).getD i d = if i < a.length then a.getD i d else b.getD (i - a.length) d := by
  simp only [List.getD_eq_getElem?_getD, List.getElem?_append]
  split <;> rfl
theorem Z15q {k : Int} {a b : Col} (ha : a.Good k) (hb : b.Good k) : valsC (appC a b) = valsC a ++ valsC b := by
  have key : colN (appC a b) = colN a + colN b ∧ (∀ i, i < colN a → getV (appC a b) i = getV a i ∧ getA (appC a b) i = getA a i) ∧ (∀ i, i < colN b → getV (appC a b) (colN a + i) = getV b i ∧ getA (appC a b) (colN a + i) = getA b i) := by
    rcases Good.n ha with ⟨t1, i1, n1, c1⟩ | ⟨t1, c1, n1, m1⟩ <;> rcases Good.n hb with ⟨t2, i2, n2, c2⟩ | ⟨t2, c2, n2, m2⟩
    · refine ⟨by simp [colN, appC, i1, i2], fun i hi => ?_, fun i hi => ?_⟩
      · rw [c1] at hi
        simp only [getV, getA, appC, i1, i2, n1, n2, List.append_nil, List.length_append, Z15p, if_pos hi, if_pos (show i < a.texts.length + b.texts.length by omega)]
        constructor <;> trivial
      · rw [c2] at hi
        simp only [getV, getA, appC, i1, i2, n1, n2, c1, List.append_nil, List.length_append, Z15p, if_neg (show ¬ a.texts.length + i < a.texts.length by omega), Nat.add_sub_cancel_left, if_pos (show a.texts.length + i < a.texts.length + b.texts.length by omega), if_pos hi]
        constructor <;> trivial
    · have e := hb.texts
      rw [if_pos t1, t2] at e
      have e2 := hb.ints
      rw [if_pos (.inl t1)] at e2
      have e2 := List.length_eq_zero_iff.1 e2
      have e3 := m2.2 (.inr e2)
      refine ⟨by simp [colN, appC, i1, t2, e2], fun i hi => ?_, fun i hi => ?_⟩
      · rw [c1] at hi
        simp only [getV, getA, appC, i1, e2, t2, n1, e3, List.append_nil]
        constructor <;> trivial
      · rw [c2, e2] at hi; cases hi
    · have e := ha.texts
      rw [if_pos t2, t1] at e
      have e2 := ha.ints
      rw [if_pos (.inl t2)] at e2
      have e2 := List.length_eq_zero_iff.1 e2
      have e3 := m1.2 (.inr e2)
      have e4 : colN a = 0 := by rw [c1, e2]; rfl
      refine ⟨by simp [colN, appC, i2, t1, e2], fun i hi => by omega, fun i hi => ?_⟩
      simp only [getV, getA, appC, i2, e2, t1, n2, e3, List.nil_append, e4, Nat.zero_add]
      constructor <;> trivial
    · refine ⟨by simp [colN, appC, t1, t2], fun i hi => ?_, fun i hi => ?_⟩
      · rw [c1] at hi
        have hns : (a.ns ++ b.ns).getD i 0 = a.ns.getD i 0 := by
          rw [Z15p]
          rcases n1 with n1 | n1
          · have : k ≠ 9 := by
              rcases m1.1 n1 with h | h
              · exact h
              · rw [h] at hi; cases hi
            rw [n1, m2.2 (.inl this)]; simp
          · rw [if_pos (by omega)]
        simp only [getV, getA, appC, t1, t2, List.append_nil, hns, Z15p, if_pos hi]
        constructor <;> trivial
      · rw [c2] at hi
        have hns : (a.ns ++ b.ns).getD (a.ints.length + i) 0 = b.ns.getD i 0 := by
          rw [Z15p]
          rcases n1 with n1 | n1
          · by_cases h9 : k = 9
            · have e := m1.1 n1
              have : a.ints = [] := by rcases e with h | h; exact absurd h9 h; exact h
              rw [n1, this]; simp
            · rw [n1, m2.2 (.inl h9)]; simp
          · rw [if_neg (by omega), n1, Nat.add_sub_cancel_left]
        simp only [getV, getA, appC, t1, t2, c1, List.append_nil, hns, Z15p, if_neg (show ¬ a.ints.length + i < a.ints.length by omega), Nat.add_sub_cancel_left]
        constructor <;> trivial
  obtain ⟨h1, h2, h3⟩ := key
  unfold valsC getsC
  rw [h1, List.range_add, List.map_append, List.map_map]
  congr 1
  · refine List.map_congr_left fun i hi => ?_
    have := h2 i (List.mem_range.1 hi)
    rw [this.1, this.2]
  · refine List.map_congr_left fun i hi => ?_
    have := h3 i (List.mem_range.1 hi)
    simp only [Function.comp_apply]
    rw [this.1, this.2]
theorem Z15r (a b : Col) : hasF (appC a b) = (hasF a || hasF b) := by simp [hasF, appC]
def Z15s (k : Int) (a b : Stt) : Stt :=
  ⟨IntKind.wrap .i64 (a.count + b.count), a.null || b.null, a.has || b.has,
   if a.has = false then b.min else if b.has = true ∧ (cmpV k b.min a.min).1 < 0 then b.min else a.min,
   if a.has = false then b.max else if b.has = true ∧ 0 < (cmpV k b.max a.max).1 then b.max else a.max,
   if a.sums = true ∧ b.sums = true then (addF a.sum b.sum).2 else false,
   if a.sums = true ∧ b.sums = true then (addF a.sum b.sum).1 else 0⟩
theorem Z15t (x y : Stt) (hx : -9223372036854775808 ≤ x.sum ∧ x.sum ≤ 9223372036854775807) : ((Zz7 x y).sums, (Zz7 x y).sum) = (if x.sums = true ∧ y.sums = true then (addF x.sum y.sum).2 else false, if x.sums = true ∧ y.sums = true then (addF x.sum y.sum).1 else 0) := by
  have h0 : addF 0 x.sum = (x.sum, true) := by rw [addF, if_pos (by omega)]; simp
  unfold Zz7 Zz6 Zyo
  cases hxs : x.sums <;> cases hys : y.sums <;> simp [h0]
theorem Z15u (k : Int) (x y : Stt) (hx : x.has = false → spOf x = sp0) (hy : y.has = false → spOf y = sp0) (hs : -9223372036854775808 ≤ x.sum ∧ x.sum ≤ 9223372036854775807) : Zz9 k x y = Z15s k x y := by
  have hm := Z15t x y hs
  simp only [Prod.mk.injEq] at hm
  rw [Z157 k x y hx, Z15s, hm.1, hm.2]
  have e : (if y.has = true then spOf y else sp0) = spOf y := by
    split
    · rfl
    · rename_i h; exact (hy (by simpa using h)).symm
  rw [e]
  cases hxh : x.has with
  | false => simp [Z152, spOf, hxh]
  | true =>
    cases hyh : y.has with
    | false => simp [Z152, spOf, hxh, hyh]
    | true => simp [Z152, spOf, hxh, hyh]
theorem Z15v (k : Int) (c : Col) : spOf (ofF k c) = spC k c := by rw [Z14x]; rfl
theorem Z15w {k : Int} {a b : Col} (ha : a.Good k) (hb : b.Good k) : Z152 k (spC k a) (spC k b) = spC k (appC a b) := by
  have h1 := Z151 k a
  have h2 : Z152 k (spC k a) sp0 = spC k a := Z156 k _ h1.zero
  show Z152 k (spC k a) (((valsC b).map (·.1)).foldl (Z14t k) sp0) = ((valsC (appC a b)).map (·.1)).foldl (Z14t k) sp0
  rw [Z155 (k := k) _ h1.nmin h1.nmax _ sp0 rfl rfl (Z150 b), h2, Z15q ha hb, List.map_append, List.foldl_append]
  rfl
end Go.Abs
namespace Go.Abs
open Go Go.Proofs
set_option linter.unusedVariables false
set_option linter.unusedSimpArgs false
set_option maxHeartbeats 4000000
attribute [local irreducible] AWp aops KP
mutual
def Z15x : Vl → Vl → Bool
  | .mk nu i n b ks, w => (nu == w.null) && (decide (i = w.i) && (decide (n = w.n) && (decide (b = w.b) && (decide (ks.length = w.kids.length) && Z15y ks w.kids))))
def Z15y : List Vl → List Vl → Bool
  | [], _ => true
  | v :: vs, ws => Z15x v (ws.getD 0 default) && Z15y vs (ws.drop 1)
end
theorem Z15z : ∀ v : Vl, Z15x v v = true := by
  refine Vl.ind fun nu i n b ks ih => ?_
  have hL : ∀ (ks : List Vl), (∀ v ∈ ks, Z15x v v = true) → Z15y ks ks = true := by
    intro ks
    induction ks with
    | nil => intro _; rfl
    | cons v vs ih2 => intro h; rw [Z15y]; simp [h v (by simp), ih2 (fun v hv => h v (by simp [hv]))]
  rw [Z15x]
  simp [Vl.null, Vl.i, Vl.n, Vl.b, Vl.kids, hL ks ih]
theorem Z160 : ∀ (ks ws : List Vl) (j : Nat) (v w : Vl), ks[j]? = some v → ws[j]? = some w → Z15y (ks.drop j) (ws.drop j) = (Z15x v w && Z15y (ks.drop (j + 1)) (ws.drop (j + 1))) := by
  intro ks ws j v w h1 h2
  obtain ⟨h1', rfl⟩ := List.getElem?_eq_some_iff.1 h1
  obtain ⟨h2', rfl⟩ := List.getElem?_eq_some_iff.1 h2
  rw [List.drop_eq_getElem_cons h1', Z15y, List.drop_eq_getElem_cons h2']
  simp [h2']
theorem Z161 : ∀ (a : Vl), a.Fit → ∀ (b : Vl) (σ : Zc), Z1q Try.prog Zd1 [encV a, encV b] σ fun r σ' => r = .bool (Z15x a b) ∧ σ' = σ := by
  refine Vl.ind fun nu i n bs ks ih hf b σ => ?_
  cases hf with
  | mk _ hb hk hks =>
  have hk : ks.length ≤ 9223372036854775807 := hk
  rw [Zm6, Zm6]
  obtain ⟨bn, bi, b_n, bb, bk⟩ := b
  refine Z8t rfl Z13t (Nat.le_of_ble_eq_true rfl) ?_
  refine Z9z ?_
  refine Z9j rfl (Z0.fit_iff.1 rfl) fun b2 hb2 => ?_
  refine Z9j rfl (Z0.fit_iff.1 rfl) fun b3 hb3 => ?_
  (repeat (refine st_q rfl rfl rfl ?_))
  (refine Z8y ?_; (repeat (first | refine Z9v rfl ?_ | refine Z9w ?_)); refine Z9u ?_)
  refine Zb3 (d := 3) (cs := [.bool bn, .int .i64 bi, .int .i64 b_n, .slc 1 (bytes bb) false, .slc 5 (Zm4 bk) false]) rfl ?_
  refine Zb3 (d := 2) (cs := [.bool nu, .int .i64 i, .int .i64 n, .slc 1 (bytes bs) false, .slc 5 (Zm4 ks) false]) rfl ?_
  generalize hX : Z15x (.mk nu i n bs ks) (.mk bn bi b_n bb bk) = X
  simp only [Z15x, Vl.null, Vl.i, Vl.n, Vl.b, Vl.kids] at hX
  have eL : ∀ l : List Vl, (Zm4 l).length = l.length := Zm8
  cases q0 : (nu == bn) with
  | false =>
    have q0' : (!(nu == bn)) = true := by rw [q0]; rfl
    (repeat (first | refine st_q rfl rfl rfl ?_ | refine Z8v rfl (st_q rfl rfl rfl ?_) | refine Z92 rfl Z8z rfl rfl ?_ | refine Z8v rfl (Z92 rfl Z8z rfl rfl ?_) | refine Zby rfl rfl ?_ | refine Z8v rfl (Zby rfl rfl ?_) | refine Z8w rfl ?_ | refine Z8x rfl ?_ | (refine Z8y ?_; (repeat (first | refine Z9v rfl ?_ | refine Z9w ?_)); refine Z9u ?_) | refine awp_seq ?_ | refine Zbm (fun _ _ => rfl) ?_ | refine Z8h ?_ | refine Zbn (fun _ _ => rfl) ?_ | refine Zbo (fun _ _ => rfl) ?_ | refine Z8f (t := true) rfl (fun _ => ?_) (fun e => by cases e) | refine Z8f (t := false) rfl (fun e => by cases e) (fun _ => ?_)))
    rw [q0']
    (repeat (first | refine st_q rfl rfl rfl ?_ | refine Z8v rfl (st_q rfl rfl rfl ?_) | refine Z92 rfl Z8z rfl rfl ?_ | refine Z8v rfl (Z92 rfl Z8z rfl rfl ?_) | refine Zby rfl rfl ?_ | refine Z8v rfl (Zby rfl rfl ?_) | refine Z8w rfl ?_ | refine Z8x rfl ?_ | (refine Z8y ?_; (repeat (first | refine Z9v rfl ?_ | refine Z9w ?_)); refine Z9u ?_) | refine awp_seq ?_ | refine Zbm (fun _ _ => rfl) ?_ | refine Z8h ?_ | refine Zbn (fun _ _ => rfl) ?_ | refine Zbo (fun _ _ => rfl) ?_ | refine Z8f (t := true) rfl (fun _ => ?_) (fun e => by cases e) | refine Z8f (t := false) rfl (fun e => by cases e) (fun _ => ?_)))
    (refine Z8d ?_; exact ares rfl (HSub.refl _) ⟨(by rw [← hX, q0]; rfl), rfl⟩)
  | true =>
  have q0' : (!(nu == bn)) = false := by rw [q0]; rfl
  (repeat (first | refine st_q rfl rfl rfl ?_ | refine Z8v rfl (st_q rfl rfl rfl ?_) | refine Z92 rfl Z8z rfl rfl ?_ | refine Z8v rfl (Z92 rfl Z8z rfl rfl ?_) | refine Zby rfl rfl ?_ | refine Z8v rfl (Zby rfl rfl ?_) | refine Z8w rfl ?_ | refine Z8x rfl ?_ | (refine Z8y ?_; (repeat (first | refine Z9v rfl ?_ | refine Z9w ?_)); refine Z9u ?_) | refine awp_seq ?_ | refine Zbm (fun _ _ => rfl) ?_ | refine Z8h ?_ | refine Zbn (fun _ _ => rfl) ?_ | refine Zbo (fun _ _ => rfl) ?_ | refine Z8f (t := true) rfl (fun _ => ?_) (fun e => by cases e) | refine Z8f (t := false) rfl (fun e => by cases e) (fun _ => ?_)))
  rw [q0']
  (repeat (first | refine st_q rfl rfl rfl ?_ | refine Z8v rfl (st_q rfl rfl rfl ?_) | refine Z92 rfl Z8z rfl rfl ?_ | refine Z8v rfl (Z92 rfl Z8z rfl rfl ?_) | refine Zby rfl rfl ?_ | refine Z8v rfl (Zby rfl rfl ?_) | refine Z8w rfl ?_ | refine Z8x rfl ?_ | (refine Z8y ?_; (repeat (first | refine Z9v rfl ?_ | refine Z9w ?_)); refine Z9u ?_) | refine awp_seq ?_ | refine Zbm (fun _ _ => rfl) ?_ | refine Z8h ?_ | refine Zbn (fun _ _ => rfl) ?_ | refine Zbo (fun _ _ => rfl) ?_ | refine Z8f (t := true) rfl (fun _ => ?_) (fun e => by cases e) | refine Z8f (t := false) rfl (fun e => by cases e) (fun _ => ?_)))
  by_cases q1 : i = bi
  rotate_left
  · (rw [show decide (i ≠ bi) = true from decide_eq_true (by omega)])
    (repeat (first | refine st_q rfl rfl rfl ?_ | refine Z8v rfl (st_q rfl rfl rfl ?_) | refine Z92 rfl Z8z rfl rfl ?_ | refine Z8v rfl (Z92 rfl Z8z rfl rfl ?_) | refine Zby rfl rfl ?_ | refine Z8v rfl (Zby rfl rfl ?_) | refine Z8w rfl ?_ | refine Z8x rfl ?_ | (refine Z8y ?_; (repeat (first | refine Z9v rfl ?_ | refine Z9w ?_)); refine Z9u ?_) | refine awp_seq ?_ | refine Zbm (fun _ _ => rfl) ?_ | refine Z8h ?_ | refine Zbn (fun _ _ => rfl) ?_ | refine Zbo (fun _ _ => rfl) ?_ | refine Z8f (t := true) rfl (fun _ => ?_) (fun e => by cases e) | refine Z8f (t := false) rfl (fun e => by cases e) (fun _ => ?_)))
    (refine Z8d ?_; exact ares rfl (HSub.refl _) ⟨(by rw [← hX]; simp [q1, Z8m]), rfl⟩)
  (rw [show decide (i ≠ bi) = false from decide_eq_false (by omega)])
  (repeat (first | refine st_q rfl rfl rfl ?_ | refine Z8v rfl (st_q rfl rfl rfl ?_) | refine Z92 rfl Z8z rfl rfl ?_ | refine Z8v rfl (Z92 rfl Z8z rfl rfl ?_) | refine Zby rfl rfl ?_ | refine Z8v rfl (Zby rfl rfl ?_) | refine Z8w rfl ?_ | refine Z8x rfl ?_ | (refine Z8y ?_; (repeat (first | refine Z9v rfl ?_ | refine Z9w ?_)); refine Z9u ?_) | refine awp_seq ?_ | refine Zbm (fun _ _ => rfl) ?_ | refine Z8h ?_ | refine Zbn (fun _ _ => rfl) ?_ | refine Zbo (fun _ _ => rfl) ?_ | refine Z8f (t := true) rfl (fun _ => ?_) (fun e => by cases e) | refine Z8f (t := false) rfl (fun e => by cases e) (fun _ => ?_)))
  by_cases q2 : n = b_n
  rotate_left
  · (rw [show decide (n ≠ b_n) = true from decide_eq_true (by omega)])
    (repeat (first | refine st_q rfl rfl rfl ?_ | refine Z8v rfl (st_q rfl rfl rfl ?_) | refine Z92 rfl Z8z rfl rfl ?_ | refine Z8v rfl (Z92 rfl Z8z rfl rfl ?_) | refine Zby rfl rfl ?_ | refine Z8v rfl (Zby rfl rfl ?_) | refine Z8w rfl ?_ | refine Z8x rfl ?_ | (refine Z8y ?_; (repeat (first | refine Z9v rfl ?_ | refine Z9w ?_)); refine Z9u ?_) | refine awp_seq ?_ | refine Zbm (fun _ _ => rfl) ?_ | refine Z8h ?_ | refine Zbn (fun _ _ => rfl) ?_ | refine Zbo (fun _ _ => rfl) ?_ | refine Z8f (t := true) rfl (fun _ => ?_) (fun e => by cases e) | refine Z8f (t := false) rfl (fun e => by cases e) (fun _ => ?_)))
    (refine Z8d ?_; exact ares rfl (HSub.refl _) ⟨(by rw [← hX]; simp [q2, Z8m]), rfl⟩)
  (rw [show decide (n ≠ b_n) = false from decide_eq_false (by omega)])
  (repeat (first | refine st_q rfl rfl rfl ?_ | refine Z8v rfl (st_q rfl rfl rfl ?_) | refine Z92 rfl Z8z rfl rfl ?_ | refine Z8v rfl (Z92 rfl Z8z rfl rfl ?_) | refine Zby rfl rfl ?_ | refine Z8v rfl (Zby rfl rfl ?_) | refine Z8w rfl ?_ | refine Z8x rfl ?_ | (refine Z8y ?_; (repeat (first | refine Z9v rfl ?_ | refine Z9w ?_)); refine Z9u ?_) | refine awp_seq ?_ | refine Zbm (fun _ _ => rfl) ?_ | refine Z8h ?_ | refine Zbn (fun _ _ => rfl) ?_ | refine Zbo (fun _ _ => rfl) ?_ | refine Z8f (t := true) rfl (fun _ => ?_) (fun e => by cases e) | refine Z8f (t := false) rfl (fun e => by cases e) (fun _ => ?_)))
  by_cases q3 : bs = bb
  rotate_left
  · rw [show decide (bs ≠ bb) = true from decide_eq_true q3]
    (repeat (first | refine st_q rfl rfl rfl ?_ | refine Z8v rfl (st_q rfl rfl rfl ?_) | refine Z92 rfl Z8z rfl rfl ?_ | refine Z8v rfl (Z92 rfl Z8z rfl rfl ?_) | refine Zby rfl rfl ?_ | refine Z8v rfl (Zby rfl rfl ?_) | refine Z8w rfl ?_ | refine Z8x rfl ?_ | (refine Z8y ?_; (repeat (first | refine Z9v rfl ?_ | refine Z9w ?_)); refine Z9u ?_) | refine awp_seq ?_ | refine Zbm (fun _ _ => rfl) ?_ | refine Z8h ?_ | refine Zbn (fun _ _ => rfl) ?_ | refine Zbo (fun _ _ => rfl) ?_ | refine Z8f (t := true) rfl (fun _ => ?_) (fun e => by cases e) | refine Z8f (t := false) rfl (fun e => by cases e) (fun _ => ?_)))
    (refine Z8d ?_; exact ares rfl (HSub.refl _) ⟨(by rw [← hX]; simp [q3, Z8m]), rfl⟩)
  rw [show decide (bs ≠ bb) = false from decide_eq_false (fun h => h q3)]
  (repeat (first | refine st_q rfl rfl rfl ?_ | refine Z8v rfl (st_q rfl rfl rfl ?_) | refine Z92 rfl Z8z rfl rfl ?_ | refine Z8v rfl (Z92 rfl Z8z rfl rfl ?_) | refine Zby rfl rfl ?_ | refine Z8v rfl (Zby rfl rfl ?_) | refine Z8w rfl ?_ | refine Z8x rfl ?_ | (refine Z8y ?_; (repeat (first | refine Z9v rfl ?_ | refine Z9w ?_)); refine Z9u ?_) | refine awp_seq ?_ | refine Zbm (fun _ _ => rfl) ?_ | refine Z8h ?_ | refine Zbn (fun _ _ => rfl) ?_ | refine Zbo (fun _ _ => rfl) ?_ | refine Z8f (t := true) rfl (fun _ => ?_) (fun e => by cases e) | refine Z8f (t := false) rfl (fun e => by cases e) (fun _ => ?_)))
  rw [eL, eL]
  by_cases q4 : ks.length = bk.length
  rotate_left
  · (rw [show decide ((ks.length : Int) ≠ (bk.length : Int)) = true from decide_eq_true (by omega)])
    (repeat (first | refine st_q rfl rfl rfl ?_ | refine Z8v rfl (st_q rfl rfl rfl ?_) | refine Z92 rfl Z8z rfl rfl ?_ | refine Z8v rfl (Z92 rfl Z8z rfl rfl ?_) | refine Zby rfl rfl ?_ | refine Z8v rfl (Zby rfl rfl ?_) | refine Z8w rfl ?_ | refine Z8x rfl ?_ | (refine Z8y ?_; (repeat (first | refine Z9v rfl ?_ | refine Z9w ?_)); refine Z9u ?_) | refine awp_seq ?_ | refine Zbm (fun _ _ => rfl) ?_ | refine Z8h ?_ | refine Zbn (fun _ _ => rfl) ?_ | refine Zbo (fun _ _ => rfl) ?_ | refine Z8f (t := true) rfl (fun _ => ?_) (fun e => by cases e) | refine Z8f (t := false) rfl (fun e => by cases e) (fun _ => ?_)))
    (refine Z8d ?_; exact ares rfl (HSub.refl _) ⟨(by rw [← hX]; simp [q4, Z8m]), rfl⟩)
  (rw [show decide ((ks.length : Int) ≠ (bk.length : Int)) = false from decide_eq_false (by omega)])
  (repeat (first | refine st_q rfl rfl rfl ?_ | refine Z8v rfl (st_q rfl rfl rfl ?_) | refine Z92 rfl Z8z rfl rfl ?_ | refine Z8v rfl (Z92 rfl Z8z rfl rfl ?_) | refine Zby rfl rfl ?_ | refine Z8v rfl (Zby rfl rfl ?_) | refine Z8w rfl ?_ | refine Z8x rfl ?_ | (refine Z8y ?_; (repeat (first | refine Z9v rfl ?_ | refine Z9w ?_)); refine Z9u ?_) | refine awp_seq ?_ | refine Zbm (fun _ _ => rfl) ?_ | refine Z8h ?_ | refine Zbn (fun _ _ => rfl) ?_ | refine Zbo (fun _ _ => rfl) ?_ | refine Z8f (t := true) rfl (fun _ => ?_) (fun e => by cases e) | refine Z8f (t := false) rfl (fun e => by cases e) (fun _ => ?_)))
  have hX : Z15y ks bk = X := by rw [← hX]; simp [q0, q1, q2, q3, q4]
  refine Zaa (fun m F σ' => ∃ (j : Nat), F = fset 2 (some (.iptr [.bool nu, .int .i64 i, .int .i64 n, .slc 1 (bytes bs) false, .slc 5 (Zm4 ks) false])) (fset 3 (some (.iptr [.bool bn, .int .i64 bi, .int .i64 b_n, .slc 1 (bytes bb) false, .slc 5 (Zm4 bk) false])) (fset 5 (some (.int .i64 (j : Int))) Z27)) ∧
    σ = σ' ∧ j ≤ ks.length ∧ Z15y (ks.drop j) (bk.drop j) = X ∧ m = ks.length - j) (n := ks.length) ⟨0, rfl, rfl, by omega, hX, rfl⟩ ?_
  rintro m F σ' ⟨j, rfl, rfl, hj, hXj, rfl⟩
  (repeat (first | refine st_q rfl rfl rfl ?_ | refine Z8v rfl (st_q rfl rfl rfl ?_) | refine Z92 rfl Z8z rfl rfl ?_ | refine Z8v rfl (Z92 rfl Z8z rfl rfl ?_) | refine Zby rfl rfl ?_ | refine Z8v rfl (Zby rfl rfl ?_) | refine Z8w rfl ?_ | refine Z8x rfl ?_ | (refine Z8y ?_; (repeat (first | refine Z9v rfl ?_ | refine Z9w ?_)); refine Z9u ?_) | refine awp_seq ?_ | refine Zbm (fun _ _ => rfl) ?_ | refine Z8h ?_ | refine Zbn (fun _ _ => rfl) ?_ | refine Zbo (fun _ _ => rfl) ?_ | refine Z8f (t := true) rfl (fun _ => ?_) (fun e => by cases e) | refine Z8f (t := false) rfl (fun e => by cases e) (fun _ => ?_)))
  rw [eL]
  refine Za3 (p := (j : Int) < (ks.length : Int)) rfl (fun h5 => ?_) (fun h5 => ?_)
  · have hjl : j < ks.length := by omega
    have hjl2 : j < bk.length := by omega
    have h1 : (Zm4 ks)[((j : Nat) : Int).toNat]? = some (.agg (Zm5 ks[j])) := by rw [← Zm6]; exact Zm9 (by rw [Int.toNat_natCast, List.getElem?_eq_getElem hjl])
    have h2 : (Zm4 bk)[((j : Nat) : Int).toNat]? = some (.agg (Zm5 bk[j])) := by rw [← Zm6]; exact Zm9 (by rw [Int.toNat_natCast, List.getElem?_eq_getElem hjl2])
    rw [Z160 ks bk j ks[j] bk[j] (List.getElem?_eq_getElem hjl) (List.getElem?_eq_getElem hjl2)] at hXj
    have hc := ih ks[j] (List.getElem_mem hjl) (hks _ (List.getElem_mem hjl)) bk[j]
    rw [Zm6, Zm6] at hc
    (repeat (first | refine st_q rfl rfl rfl ?_ | refine Z8v rfl (st_q rfl rfl rfl ?_) | refine Z92 rfl Z8z rfl rfl ?_ | refine Z8v rfl (Z92 rfl Z8z rfl rfl ?_) | refine Zby rfl rfl ?_ | refine Z8v rfl (Zby rfl rfl ?_) | refine Z8w rfl ?_ | refine Z8x rfl ?_ | (refine Z8y ?_; (repeat (first | refine Z9v rfl ?_ | refine Z9w ?_)); refine Z9u ?_) | refine awp_seq ?_ | refine Zbm (fun _ _ => rfl) ?_ | refine Z8h ?_ | refine Zbn (fun _ _ => rfl) ?_ | refine Zbo (fun _ _ => rfl) ?_ | refine Z8f (t := true) rfl (fun _ => ?_) (fun e => by cases e) | refine Z8f (t := false) rfl (fun e => by cases e) (fun _ => ?_)))
    refine Z93 rfl (by omega) h1 ?_
    (repeat (first | refine st_q rfl rfl rfl ?_ | refine Z8v rfl (st_q rfl rfl rfl ?_) | refine Z92 rfl Z8z rfl rfl ?_ | refine Z8v rfl (Z92 rfl Z8z rfl rfl ?_) | refine Zby rfl rfl ?_ | refine Z8v rfl (Zby rfl rfl ?_) | refine Z8w rfl ?_ | refine Z8x rfl ?_ | (refine Z8y ?_; (repeat (first | refine Z9v rfl ?_ | refine Z9w ?_)); refine Z9u ?_) | refine awp_seq ?_ | refine Zbm (fun _ _ => rfl) ?_ | refine Z8h ?_ | refine Zbn (fun _ _ => rfl) ?_ | refine Zbo (fun _ _ => rfl) ?_ | refine Z8f (t := true) rfl (fun _ => ?_) (fun e => by cases e) | refine Z8f (t := false) rfl (fun e => by cases e) (fun _ => ?_)))
    refine Z93 rfl (by omega) h2 ?_
    (repeat (first | refine st_q rfl rfl rfl ?_ | refine Z8v rfl (st_q rfl rfl rfl ?_) | refine Z92 rfl Z8z rfl rfl ?_ | refine Z8v rfl (Z92 rfl Z8z rfl rfl ?_) | refine Zby rfl rfl ?_ | refine Z8v rfl (Zby rfl rfl ?_) | refine Z8w rfl ?_ | refine Z8x rfl ?_ | (refine Z8y ?_; (repeat (first | refine Z9v rfl ?_ | refine Z9w ?_)); refine Z9u ?_) | refine awp_seq ?_ | refine Zbm (fun _ _ => rfl) ?_ | refine Z8h ?_ | refine Zbn (fun _ _ => rfl) ?_ | refine Zbo (fun _ _ => rfl) ?_ | refine Z8f (t := true) rfl (fun _ => ?_) (fun e => by cases e) | refine Z8f (t := false) rfl (fun e => by cases e) (fun _ => ?_)))
    (first | refine Z9t rfl (hc _) ?_ | refine Z8v rfl (Z9t rfl (hc _) ?_) | refine Zbw rfl hc ?_ | refine Z8v rfl (Zbw rfl hc ?_))
    cases hs : Z15x ks[j] bk[j] with
    | false =>
      rw [hs, Bool.false_and] at hXj
      (repeat (first | refine st_q rfl rfl rfl ?_ | refine Z8v rfl (st_q rfl rfl rfl ?_) | refine Z92 rfl Z8z rfl rfl ?_ | refine Z8v rfl (Z92 rfl Z8z rfl rfl ?_) | refine Zby rfl rfl ?_ | refine Z8v rfl (Zby rfl rfl ?_) | refine Z8w rfl ?_ | refine Z8x rfl ?_ | (refine Z8y ?_; (repeat (first | refine Z9v rfl ?_ | refine Z9w ?_)); refine Z9u ?_) | refine awp_seq ?_ | refine Zbm (fun _ _ => rfl) ?_ | refine Z8h ?_ | refine Zbn (fun _ _ => rfl) ?_ | refine Zbo (fun _ _ => rfl) ?_ | refine Z8f (t := true) rfl (fun _ => ?_) (fun e => by cases e) | refine Z8f (t := false) rfl (fun e => by cases e) (fun _ => ?_)))
      (refine Z8d ?_; exact ares rfl (HSub.refl _) ⟨(by rw [← hXj]; rfl), rfl⟩)
    | true =>
      rw [hs, Bool.true_and] at hXj
      (repeat (first | refine st_q rfl rfl rfl ?_ | refine Z8v rfl (st_q rfl rfl rfl ?_) | refine Z92 rfl Z8z rfl rfl ?_ | refine Z8v rfl (Z92 rfl Z8z rfl rfl ?_) | refine Zby rfl rfl ?_ | refine Z8v rfl (Zby rfl rfl ?_) | refine Z8w rfl ?_ | refine Z8x rfl ?_ | (refine Z8y ?_; (repeat (first | refine Z9v rfl ?_ | refine Z9w ?_)); refine Z9u ?_) | refine awp_seq ?_ | refine Zbm (fun _ _ => rfl) ?_ | refine Z8h ?_ | refine Zbn (fun _ _ => rfl) ?_ | refine Zbo (fun _ _ => rfl) ?_ | refine Z8f (t := true) rfl (fun _ => ?_) (fun e => by cases e) | refine Z8f (t := false) rfl (fun e => by cases e) (fun _ => ?_)))
      refine Zbp ?_
      (repeat (refine st_q rfl rfl rfl ?_))
      rw [show IntKind.wrap .i64 ((j : Int) + 1) = ((j + 1 : Nat) : Int) by rw [w64 _ (by omega) (by omega)]; omega]
      (refine Z8y ?_; (repeat (first | refine Z9v rfl ?_ | refine Z9w ?_)); refine Z9u ?_)
      exact ⟨_, ks.length - (j + 1), HSub.refl _, ⟨j + 1, rfl, rfl, by omega, hXj, rfl⟩, by omega⟩
  · (repeat (first | refine st_q rfl rfl rfl ?_ | refine Z8v rfl (st_q rfl rfl rfl ?_) | refine Z92 rfl Z8z rfl rfl ?_ | refine Z8v rfl (Z92 rfl Z8z rfl rfl ?_) | refine Zby rfl rfl ?_ | refine Z8v rfl (Zby rfl rfl ?_) | refine Z8w rfl ?_ | refine Z8x rfl ?_ | (refine Z8y ?_; (repeat (first | refine Z9v rfl ?_ | refine Z9w ?_)); refine Z9u ?_) | refine awp_seq ?_ | refine Zbm (fun _ _ => rfl) ?_ | refine Z8h ?_ | refine Zbn (fun _ _ => rfl) ?_ | refine Zbo (fun _ _ => rfl) ?_ | refine Z8f (t := true) rfl (fun _ => ?_) (fun e => by cases e) | refine Z8f (t := false) rfl (fun e => by cases e) (fun _ => ?_)))
    rw [List.drop_of_length_le (by omega), Z15y] at hXj
    (refine Z8d ?_; exact ares rfl (HSub.refl _) ⟨(by rw [← hXj]; rfl), rfl⟩)
theorem Z162 : ∀ a b : List UInt8, Lib.compareBytes a b = 0 ↔ a = b
  | [], [] => by simp [Lib.compareBytes]
  | [], _ :: _ => by simp [Lib.compareBytes]
  | _ :: _, [] => by simp [Lib.compareBytes]
  | a :: xs, b :: ys => by
    simp only [Lib.compareBytes, u8_lt]
    have := Z162 xs ys
    have e : a = b ↔ a.toNat = b.toNat := ⟨fun h => by rw [h], fun h => UInt8.toNat_inj.1 h⟩
    split
    · simp [e]; omega
    · split
      · simp [e]; omega
      · simp [this, e]; omega
theorem Z163 : ∀ a b : List UInt8, Op.bytesLess a b = decide (Lib.compareBytes a b < 0)
  | [], [] => by simp [Lib.compareBytes, Op.bytesLess]
  | [], _ :: _ => by simp [Lib.compareBytes, Op.bytesLess]
  | _ :: _, [] => by simp [Lib.compareBytes, Op.bytesLess]
  | a :: xs, b :: ys => by
    simp only [Lib.compareBytes, Op.bytesLess, Z163 xs ys]
    have e : a = b ↔ a.toNat = b.toNat := ⟨fun h => by rw [h], fun h => UInt8.toNat_inj.1 h⟩
    by_cases h1 : a < b
    · simp [h1]
    · by_cases h2 : b < a
      · have : a ≠ b := by rw [u8_lt] at h2; intro h; rw [h] at h2; omega
        simp [h1, h2, this]
      · have : a = b := by rw [u8_lt] at h1 h2; rw [e]; omega
        simp [this]
theorem Z164 (a b : List UInt8) : Lib.compareBytes a b = -1 ∨ Lib.compareBytes a b = 0 ∨ Lib.compareBytes a b = 1 := by
  induction a generalizing b with
  | nil => cases b <;> simp [Lib.compareBytes]
  | cons a xs ih =>
    cases b with
    | nil => simp [Lib.compareBytes]
    | cons b ys =>
      simp only [Lib.compareBytes]
      split
      · simp
      · split
        · simp
        · exact ih ys
theorem Z165 (t : List Z0) (k : Int) (ht : t.length = 6) (hk : t[0]? = some (.int .i64 k)) (ht1 : ∀ c ∈ t, c.one = true) (a b : Vl) (σ : Zc) : Z1q Try.prog Zec [.agg t, encV a, encV b] σ fun r σ' => r = .tup [.int .i64 (cmpV k a b).1, .bool (cmpV k a b).2] ∧ σ' = σ := by
  match t, ht with
  | [t0, t1, t2, t3, t4, t5], _ =>
  simp only [List.getElem?_cons_zero, Option.some.injEq] at hk
  subst hk
  obtain ⟨an, ai, a_n, ab, ak⟩ := a
  obtain ⟨bn, bi, b_n, bb, bk⟩ := b
  simp only [encV]
  refine Z8t rfl Z13u (Nat.le_of_ble_eq_true rfl) ?_
  refine Z9z ?_
  refine Z9j rfl ⟨rfl, ht1⟩ fun b1 hb1 => ?_
  refine Z9j rfl (Z0.fit_iff.1 rfl) fun b2 hb2 => ?_
  refine Z9j rfl (Z0.fit_iff.1 rfl) fun b3 hb3 => ?_
  (repeat (refine st_q rfl rfl rfl ?_))
  (refine Z8y ?_; (repeat (first | refine Z9v rfl ?_ | refine Z9w ?_)); refine Z9u ?_)
  refine Zb3 (d := 5) (cs := [.bool bn, .int .i64 bi, .int .i64 b_n, .slc 1 (bytes bb) false, .slc 5 (Zm4 bk) false]) rfl ?_
  refine Zb3 (d := 4) (cs := [.bool an, .int .i64 ai, .int .i64 a_n, .slc 1 (bytes ab) false, .slc 5 (Zm4 ak) false]) rfl ?_
  refine Zb3 (d := 3) (cs := [.int .i64 k, t1, t2, t3, t4, t5]) rfl ?_
  cases an with
  | true =>
    (repeat (first | refine st_q rfl rfl rfl ?_ | refine Z8v rfl (st_q rfl rfl rfl ?_) | refine Z92 rfl Z8z rfl rfl ?_ | refine Z8v rfl (Z92 rfl Z8z rfl rfl ?_) | refine Zby rfl rfl ?_ | refine Z8v rfl (Zby rfl rfl ?_) | refine Z8w rfl ?_ | refine Z8x rfl ?_ | (refine Z8y ?_; (repeat (first | refine Z9v rfl ?_ | refine Z9w ?_)); refine Z9u ?_) | refine awp_seq ?_ | refine Zbm (fun _ _ => rfl) ?_ | refine Z8h ?_ | refine Zbn (fun _ _ => rfl) ?_ | refine Zbo (fun _ _ => rfl) ?_ | refine Z8f (t := true) rfl (fun _ => ?_) (fun e => by cases e) | refine Z8f (t := false) rfl (fun e => by cases e) (fun _ => ?_)))
    (refine Z8d ?_; exact ares rfl (HSub.refl _) ⟨(by rw [cmpV, if_pos (.inr (.inl rfl))]; rfl), rfl⟩)
  | false =>
  cases bn with
  | true =>
    (repeat (first | refine st_q rfl rfl rfl ?_ | refine Z8v rfl (st_q rfl rfl rfl ?_) | refine Z92 rfl Z8z rfl rfl ?_ | refine Z8v rfl (Z92 rfl Z8z rfl rfl ?_) | refine Zby rfl rfl ?_ | refine Z8v rfl (Zby rfl rfl ?_) | refine Z8w rfl ?_ | refine Z8x rfl ?_ | (refine Z8y ?_; (repeat (first | refine Z9v rfl ?_ | refine Z9w ?_)); refine Z9u ?_) | refine awp_seq ?_ | refine Zbm (fun _ _ => rfl) ?_ | refine Z8h ?_ | refine Zbn (fun _ _ => rfl) ?_ | refine Zbo (fun _ _ => rfl) ?_ | refine Z8f (t := true) rfl (fun _ => ?_) (fun e => by cases e) | refine Z8f (t := false) rfl (fun e => by cases e) (fun _ => ?_)))
    (refine Z8d ?_; exact ares rfl (HSub.refl _) ⟨(by rw [cmpV, if_pos (.inr (.inr rfl))]; rfl), rfl⟩)
  | false =>
  (repeat (first | refine st_q rfl rfl rfl ?_ | refine Z8v rfl (st_q rfl rfl rfl ?_) | refine Z92 rfl Z8z rfl rfl ?_ | refine Z8v rfl (Z92 rfl Z8z rfl rfl ?_) | refine Zby rfl rfl ?_ | refine Z8v rfl (Zby rfl rfl ?_) | refine Z8w rfl ?_ | refine Z8x rfl ?_ | (refine Z8y ?_; (repeat (first | refine Z9v rfl ?_ | refine Z9w ?_)); refine Z9u ?_) | refine awp_seq ?_ | refine Zbm (fun _ _ => rfl) ?_ | refine Z8h ?_ | refine Zbn (fun _ _ => rfl) ?_ | refine Zbo (fun _ _ => rfl) ?_ | refine Z8f (t := true) rfl (fun _ => ?_) (fun e => by cases e) | refine Z8f (t := false) rfl (fun e => by cases e) (fun _ => ?_)))
  (first | refine Z9t rfl ((Ztl k) _) ?_ | refine Z8v rfl (Z9t rfl ((Ztl k) _) ?_) | refine Zbw rfl (Ztl k) ?_ | refine Z8v rfl (Zbw rfl (Ztl k) ?_))
  cases hl : Zls k with
  | false =>
    (repeat (first | refine st_q rfl rfl rfl ?_ | refine Z8v rfl (st_q rfl rfl rfl ?_) | refine Z92 rfl Z8z rfl rfl ?_ | refine Z8v rfl (Z92 rfl Z8z rfl rfl ?_) | refine Zby rfl rfl ?_ | refine Z8v rfl (Zby rfl rfl ?_) | refine Z8w rfl ?_ | refine Z8x rfl ?_ | (refine Z8y ?_; (repeat (first | refine Z9v rfl ?_ | refine Z9w ?_)); refine Z9u ?_) | refine awp_seq ?_ | refine Zbm (fun _ _ => rfl) ?_ | refine Z8h ?_ | refine Zbn (fun _ _ => rfl) ?_ | refine Zbo (fun _ _ => rfl) ?_ | refine Z8f (t := true) rfl (fun _ => ?_) (fun e => by cases e) | refine Z8f (t := false) rfl (fun e => by cases e) (fun _ => ?_)))
    (refine Z8d ?_; exact ares rfl (HSub.refl _) ⟨(by rw [cmpV, if_pos (.inl hl)]; rfl), rfl⟩)
  | true =>
  have hc : ¬ (Zls k = false ∨ (Vl.mk false ai a_n ab ak).null = true ∨ (Vl.mk false bi b_n bb bk).null = true) := by simp [hl, Vl.null]
  rw [cmpV, if_neg hc]
  simp only [Vl.i, Vl.n, Vl.b]
  (repeat (first | refine st_q rfl rfl rfl ?_ | refine Z8v rfl (st_q rfl rfl rfl ?_) | refine Z92 rfl Z8z rfl rfl ?_ | refine Z8v rfl (Z92 rfl Z8z rfl rfl ?_) | refine Zby rfl rfl ?_ | refine Z8v rfl (Zby rfl rfl ?_) | refine Z8w rfl ?_ | refine Z8x rfl ?_ | (refine Z8y ?_; (repeat (first | refine Z9v rfl ?_ | refine Z9w ?_)); refine Z9u ?_) | refine awp_seq ?_ | refine Zbm (fun _ _ => rfl) ?_ | refine Z8h ?_ | refine Zbn (fun _ _ => rfl) ?_ | refine Zbo (fun _ _ => rfl) ?_ | refine Z8f (t := true) rfl (fun _ => ?_) (fun e => by cases e) | refine Z8f (t := false) rfl (fun e => by cases e) (fun _ => ?_)))
  (first | refine Z9t rfl ((Ztk k) _) ?_ | refine Z8v rfl (Z9t rfl ((Ztk k) _) ?_) | refine Zbw rfl (Ztk k) ?_ | refine Z8v rfl (Zbw rfl (Ztk k) ?_))
  cases ht : Zma k with
  | true =>
    have hv := Z164 ab bb
    have h0 := Z162 ab bb
    have hless := Z163 ab bb
    (repeat (first | refine st_q rfl rfl rfl ?_ | refine Z8v rfl (st_q rfl rfl rfl ?_) | refine Z92 rfl Z8z rfl rfl ?_ | refine Z8v rfl (Z92 rfl Z8z rfl rfl ?_) | refine Zby rfl rfl ?_ | refine Z8v rfl (Zby rfl rfl ?_) | refine Z8w rfl ?_ | refine Z8x rfl ?_ | (refine Z8y ?_; (repeat (first | refine Z9v rfl ?_ | refine Z9w ?_)); refine Z9u ?_) | refine awp_seq ?_ | refine Zbm (fun _ _ => rfl) ?_ | refine Z8h ?_ | refine Zbn (fun _ _ => rfl) ?_ | refine Zbo (fun _ _ => rfl) ?_ | refine Z8f (t := true) rfl (fun _ => ?_) (fun e => by cases e) | refine Z8f (t := false) rfl (fun e => by cases e) (fun _ => ?_)))
    by_cases h1 : Lib.compareBytes ab bb < 0
    · rw [decide_eq_true h1] at hless
      rw [hless]
      (repeat (first | refine st_q rfl rfl rfl ?_ | refine Z8v rfl (st_q rfl rfl rfl ?_) | refine Z92 rfl Z8z rfl rfl ?_ | refine Z8v rfl (Z92 rfl Z8z rfl rfl ?_) | refine Zby rfl rfl ?_ | refine Z8v rfl (Zby rfl rfl ?_) | refine Z8w rfl ?_ | refine Z8x rfl ?_ | (refine Z8y ?_; (repeat (first | refine Z9v rfl ?_ | refine Z9w ?_)); refine Z9u ?_) | refine awp_seq ?_ | refine Zbm (fun _ _ => rfl) ?_ | refine Z8h ?_ | refine Zbn (fun _ _ => rfl) ?_ | refine Zbo (fun _ _ => rfl) ?_ | refine Z8f (t := true) rfl (fun _ => ?_) (fun e => by cases e) | refine Z8f (t := false) rfl (fun e => by cases e) (fun _ => ?_)))
      (refine Z8d ?_; exact ares rfl (HSub.refl _) ⟨(by rw [show Lib.compareBytes ab bb = -1 by omega]; rfl), rfl⟩)
    · rw [decide_eq_false h1] at hless
      rw [hless]
      (repeat (first | refine st_q rfl rfl rfl ?_ | refine Z8v rfl (st_q rfl rfl rfl ?_) | refine Z92 rfl Z8z rfl rfl ?_ | refine Z8v rfl (Z92 rfl Z8z rfl rfl ?_) | refine Zby rfl rfl ?_ | refine Z8v rfl (Zby rfl rfl ?_) | refine Z8w rfl ?_ | refine Z8x rfl ?_ | (refine Z8y ?_; (repeat (first | refine Z9v rfl ?_ | refine Z9w ?_)); refine Z9u ?_) | refine awp_seq ?_ | refine Zbm (fun _ _ => rfl) ?_ | refine Z8h ?_ | refine Zbn (fun _ _ => rfl) ?_ | refine Zbo (fun _ _ => rfl) ?_ | refine Z8f (t := true) rfl (fun _ => ?_) (fun e => by cases e) | refine Z8f (t := false) rfl (fun e => by cases e) (fun _ => ?_)))
      rw [hless]
      by_cases h2 : ab = bb
      · rw [show (!(false || decide (ab = bb))) = false by simp [h2]]
        (repeat (first | refine st_q rfl rfl rfl ?_ | refine Z8v rfl (st_q rfl rfl rfl ?_) | refine Z92 rfl Z8z rfl rfl ?_ | refine Z8v rfl (Z92 rfl Z8z rfl rfl ?_) | refine Zby rfl rfl ?_ | refine Z8v rfl (Zby rfl rfl ?_) | refine Z8w rfl ?_ | refine Z8x rfl ?_ | (refine Z8y ?_; (repeat (first | refine Z9v rfl ?_ | refine Z9w ?_)); refine Z9u ?_) | refine awp_seq ?_ | refine Zbm (fun _ _ => rfl) ?_ | refine Z8h ?_ | refine Zbn (fun _ _ => rfl) ?_ | refine Zbo (fun _ _ => rfl) ?_ | refine Z8f (t := true) rfl (fun _ => ?_) (fun e => by cases e) | refine Z8f (t := false) rfl (fun e => by cases e) (fun _ => ?_)))
        (refine Z8d ?_; exact ares rfl (HSub.refl _) ⟨(by rw [h0.2 h2]; rfl), rfl⟩)
      · rw [show (!(false || decide (ab = bb))) = true by simp [h2]]
        (repeat (first | refine st_q rfl rfl rfl ?_ | refine Z8v rfl (st_q rfl rfl rfl ?_) | refine Z92 rfl Z8z rfl rfl ?_ | refine Z8v rfl (Z92 rfl Z8z rfl rfl ?_) | refine Zby rfl rfl ?_ | refine Z8v rfl (Zby rfl rfl ?_) | refine Z8w rfl ?_ | refine Z8x rfl ?_ | (refine Z8y ?_; (repeat (first | refine Z9v rfl ?_ | refine Z9w ?_)); refine Z9u ?_) | refine awp_seq ?_ | refine Zbm (fun _ _ => rfl) ?_ | refine Z8h ?_ | refine Zbn (fun _ _ => rfl) ?_ | refine Zbo (fun _ _ => rfl) ?_ | refine Z8f (t := true) rfl (fun _ => ?_) (fun e => by cases e) | refine Z8f (t := false) rfl (fun e => by cases e) (fun _ => ?_)))
        (refine Z8d ?_; exact ares rfl (HSub.refl _) ⟨(by rw [show Lib.compareBytes ab bb = 1 by have := mt h0.1 h2; omega]; rfl), rfl⟩)
  | false =>
    simp only [Bool.false_eq_true, if_false]
    (repeat (first | refine st_q rfl rfl rfl ?_ | refine Z8v rfl (st_q rfl rfl rfl ?_) | refine Z92 rfl Z8z rfl rfl ?_ | refine Z8v rfl (Z92 rfl Z8z rfl rfl ?_) | refine Zby rfl rfl ?_ | refine Z8v rfl (Zby rfl rfl ?_) | refine Z8w rfl ?_ | refine Z8x rfl ?_ | (refine Z8y ?_; (repeat (first | refine Z9v rfl ?_ | refine Z9w ?_)); refine Z9u ?_) | refine awp_seq ?_ | refine Zbm (fun _ _ => rfl) ?_ | refine Z8h ?_ | refine Zbn (fun _ _ => rfl) ?_ | refine Zbo (fun _ _ => rfl) ?_ | refine Z8f (t := true) rfl (fun _ => ?_) (fun e => by cases e) | refine Z8f (t := false) rfl (fun e => by cases e) (fun _ => ?_)))
    by_cases h1 : ai < bi
    · (rw [show decide (ai < bi) = true from decide_eq_true (by omega)])
      (repeat (first | refine st_q rfl rfl rfl ?_ | refine Z8v rfl (st_q rfl rfl rfl ?_) | refine Z92 rfl Z8z rfl rfl ?_ | refine Z8v rfl (Z92 rfl Z8z rfl rfl ?_) | refine Zby rfl rfl ?_ | refine Z8v rfl (Zby rfl rfl ?_) | refine Z8w rfl ?_ | refine Z8x rfl ?_ | (refine Z8y ?_; (repeat (first | refine Z9v rfl ?_ | refine Z9w ?_)); refine Z9u ?_) | refine awp_seq ?_ | refine Zbm (fun _ _ => rfl) ?_ | refine Z8h ?_ | refine Zbn (fun _ _ => rfl) ?_ | refine Zbo (fun _ _ => rfl) ?_ | refine Z8f (t := true) rfl (fun _ => ?_) (fun e => by cases e) | refine Z8f (t := false) rfl (fun e => by cases e) (fun _ => ?_)))
      (refine Z8d ?_; exact ares rfl (HSub.refl _) ⟨(by simp [cmpI, h1, Z8m]), rfl⟩)
    (rw [show decide (ai < bi) = false from decide_eq_false (by omega)])
    (repeat (first | refine st_q rfl rfl rfl ?_ | refine Z8v rfl (st_q rfl rfl rfl ?_) | refine Z92 rfl Z8z rfl rfl ?_ | refine Z8v rfl (Z92 rfl Z8z rfl rfl ?_) | refine Zby rfl rfl ?_ | refine Z8v rfl (Zby rfl rfl ?_) | refine Z8w rfl ?_ | refine Z8x rfl ?_ | (refine Z8y ?_; (repeat (first | refine Z9v rfl ?_ | refine Z9w ?_)); refine Z9u ?_) | refine awp_seq ?_ | refine Zbm (fun _ _ => rfl) ?_ | refine Z8h ?_ | refine Zbn (fun _ _ => rfl) ?_ | refine Zbo (fun _ _ => rfl) ?_ | refine Z8f (t := true) rfl (fun _ => ?_) (fun e => by cases e) | refine Z8f (t := false) rfl (fun e => by cases e) (fun _ => ?_)))
    by_cases h2 : ai = bi
    · (rw [show decide (ai = bi) = true from decide_eq_true (by omega)])
      (repeat (first | refine st_q rfl rfl rfl ?_ | refine Z8v rfl (st_q rfl rfl rfl ?_) | refine Z92 rfl Z8z rfl rfl ?_ | refine Z8v rfl (Z92 rfl Z8z rfl rfl ?_) | refine Zby rfl rfl ?_ | refine Z8v rfl (Zby rfl rfl ?_) | refine Z8w rfl ?_ | refine Z8x rfl ?_ | (refine Z8y ?_; (repeat (first | refine Z9v rfl ?_ | refine Z9w ?_)); refine Z9u ?_) | refine awp_seq ?_ | refine Zbm (fun _ _ => rfl) ?_ | refine Z8h ?_ | refine Zbn (fun _ _ => rfl) ?_ | refine Zbo (fun _ _ => rfl) ?_ | refine Z8f (t := true) rfl (fun _ => ?_) (fun e => by cases e) | refine Z8f (t := false) rfl (fun e => by cases e) (fun _ => ?_)))
      by_cases h3 : a_n < b_n
      · (rw [show decide (a_n < b_n) = true from decide_eq_true (by omega)])
        (repeat (first | refine st_q rfl rfl rfl ?_ | refine Z8v rfl (st_q rfl rfl rfl ?_) | refine Z92 rfl Z8z rfl rfl ?_ | refine Z8v rfl (Z92 rfl Z8z rfl rfl ?_) | refine Zby rfl rfl ?_ | refine Z8v rfl (Zby rfl rfl ?_) | refine Z8w rfl ?_ | refine Z8x rfl ?_ | (refine Z8y ?_; (repeat (first | refine Z9v rfl ?_ | refine Z9w ?_)); refine Z9u ?_) | refine awp_seq ?_ | refine Zbm (fun _ _ => rfl) ?_ | refine Z8h ?_ | refine Zbn (fun _ _ => rfl) ?_ | refine Zbo (fun _ _ => rfl) ?_ | refine Z8f (t := true) rfl (fun _ => ?_) (fun e => by cases e) | refine Z8f (t := false) rfl (fun e => by cases e) (fun _ => ?_)))
        (refine Z8d ?_; exact ares rfl (HSub.refl _) ⟨(by simp [cmpI, h2, h3, Z8m]), rfl⟩)
      (rw [show decide (a_n < b_n) = false from decide_eq_false (by omega)])
      (repeat (first | refine st_q rfl rfl rfl ?_ | refine Z8v rfl (st_q rfl rfl rfl ?_) | refine Z92 rfl Z8z rfl rfl ?_ | refine Z8v rfl (Z92 rfl Z8z rfl rfl ?_) | refine Zby rfl rfl ?_ | refine Z8v rfl (Zby rfl rfl ?_) | refine Z8w rfl ?_ | refine Z8x rfl ?_ | (refine Z8y ?_; (repeat (first | refine Z9v rfl ?_ | refine Z9w ?_)); refine Z9u ?_) | refine awp_seq ?_ | refine Zbm (fun _ _ => rfl) ?_ | refine Z8h ?_ | refine Zbn (fun _ _ => rfl) ?_ | refine Zbo (fun _ _ => rfl) ?_ | refine Z8f (t := true) rfl (fun _ => ?_) (fun e => by cases e) | refine Z8f (t := false) rfl (fun e => by cases e) (fun _ => ?_)))
      (rw [show decide (bi < ai) = false from decide_eq_false (by omega)])
      (repeat (first | refine st_q rfl rfl rfl ?_ | refine Z8v rfl (st_q rfl rfl rfl ?_) | refine Z92 rfl Z8z rfl rfl ?_ | refine Z8v rfl (Z92 rfl Z8z rfl rfl ?_) | refine Zby rfl rfl ?_ | refine Z8v rfl (Zby rfl rfl ?_) | refine Z8w rfl ?_ | refine Z8x rfl ?_ | (refine Z8y ?_; (repeat (first | refine Z9v rfl ?_ | refine Z9w ?_)); refine Z9u ?_) | refine awp_seq ?_ | refine Zbm (fun _ _ => rfl) ?_ | refine Z8h ?_ | refine Zbn (fun _ _ => rfl) ?_ | refine Zbo (fun _ _ => rfl) ?_ | refine Z8f (t := true) rfl (fun _ => ?_) (fun e => by cases e) | refine Z8f (t := false) rfl (fun e => by cases e) (fun _ => ?_)))
      by_cases h4 : b_n < a_n
      · (rw [show decide (b_n < a_n) = true from decide_eq_true (by omega)])
        (repeat (first | refine st_q rfl rfl rfl ?_ | refine Z8v rfl (st_q rfl rfl rfl ?_) | refine Z92 rfl Z8z rfl rfl ?_ | refine Z8v rfl (Z92 rfl Z8z rfl rfl ?_) | refine Zby rfl rfl ?_ | refine Z8v rfl (Zby rfl rfl ?_) | refine Z8w rfl ?_ | refine Z8x rfl ?_ | (refine Z8y ?_; (repeat (first | refine Z9v rfl ?_ | refine Z9w ?_)); refine Z9u ?_) | refine awp_seq ?_ | refine Zbm (fun _ _ => rfl) ?_ | refine Z8h ?_ | refine Zbn (fun _ _ => rfl) ?_ | refine Zbo (fun _ _ => rfl) ?_ | refine Z8f (t := true) rfl (fun _ => ?_) (fun e => by cases e) | refine Z8f (t := false) rfl (fun e => by cases e) (fun _ => ?_)))
        (refine Z8d ?_; exact ares rfl (HSub.refl _) ⟨(by simp [cmpI, h2, h3, h4, Z8m]), rfl⟩)
      · (rw [show decide (b_n < a_n) = false from decide_eq_false (by omega)])
        (repeat (first | refine st_q rfl rfl rfl ?_ | refine Z8v rfl (st_q rfl rfl rfl ?_) | refine Z92 rfl Z8z rfl rfl ?_ | refine Z8v rfl (Z92 rfl Z8z rfl rfl ?_) | refine Zby rfl rfl ?_ | refine Z8v rfl (Zby rfl rfl ?_) | refine Z8w rfl ?_ | refine Z8x rfl ?_ | (refine Z8y ?_; (repeat (first | refine Z9v rfl ?_ | refine Z9w ?_)); refine Z9u ?_) | refine awp_seq ?_ | refine Zbm (fun _ _ => rfl) ?_ | refine Z8h ?_ | refine Zbn (fun _ _ => rfl) ?_ | refine Zbo (fun _ _ => rfl) ?_ | refine Z8f (t := true) rfl (fun _ => ?_) (fun e => by cases e) | refine Z8f (t := false) rfl (fun e => by cases e) (fun _ => ?_)))
        (refine Z8d ?_; exact ares rfl (HSub.refl _) ⟨(by simp [cmpI, h2, h3, h4, Z8m]), rfl⟩)
    · (rw [show decide (ai = bi) = false from decide_eq_false (by omega)])
      (repeat (first | refine st_q rfl rfl rfl ?_ | refine Z8v rfl (st_q rfl rfl rfl ?_) | refine Z92 rfl Z8z rfl rfl ?_ | refine Z8v rfl (Z92 rfl Z8z rfl rfl ?_) | refine Zby rfl rfl ?_ | refine Z8v rfl (Zby rfl rfl ?_) | refine Z8w rfl ?_ | refine Z8x rfl ?_ | (refine Z8y ?_; (repeat (first | refine Z9v rfl ?_ | refine Z9w ?_)); refine Z9u ?_) | refine awp_seq ?_ | refine Zbm (fun _ _ => rfl) ?_ | refine Z8h ?_ | refine Zbn (fun _ _ => rfl) ?_ | refine Zbo (fun _ _ => rfl) ?_ | refine Z8f (t := true) rfl (fun _ => ?_) (fun e => by cases e) | refine Z8f (t := false) rfl (fun e => by cases e) (fun _ => ?_)))
      (rw [show decide (bi < ai) = true from decide_eq_true (by omega)])
      (repeat (first | refine st_q rfl rfl rfl ?_ | refine Z8v rfl (st_q rfl rfl rfl ?_) | refine Z92 rfl Z8z rfl rfl ?_ | refine Z8v rfl (Z92 rfl Z8z rfl rfl ?_) | refine Zby rfl rfl ?_ | refine Z8v rfl (Zby rfl rfl ?_) | refine Z8w rfl ?_ | refine Z8x rfl ?_ | (refine Z8y ?_; (repeat (first | refine Z9v rfl ?_ | refine Z9w ?_)); refine Z9u ?_) | refine awp_seq ?_ | refine Zbm (fun _ _ => rfl) ?_ | refine Z8h ?_ | refine Zbn (fun _ _ => rfl) ?_ | refine Zbo (fun _ _ => rfl) ?_ | refine Z8f (t := true) rfl (fun _ => ?_) (fun e => by cases e) | refine Z8f (t := false) rfl (fun e => by cases e) (fun _ => ?_)))
      (refine Z8d ?_; exact ares rfl (HSub.refl _) ⟨(by simp [cmpI, h1, show bi < ai by omega, Z8m]), rfl⟩)
end Go.Abs
namespace Go.Abs
open Go Go.Proofs
set_option linter.unusedVariables false
set_option linter.unusedSimpArgs false
set_option maxHeartbeats 4000000
attribute [local irreducible] AWp aops KP
theorem Z166 (k : Int) (σ : Zc) : Z1q Try.prog Ze8 [.int .i64 k] σ fun r σ' => r = .bool (Zyh k) ∧ σ' = σ := by
  refine Z8t rfl Z13r (Nat.le_of_ble_eq_true rfl) ?_
  by_cases h0 : k = 0
  · subst h0; (repeat (first | refine st_q rfl rfl rfl ?_ | refine Z8v rfl (st_q rfl rfl rfl ?_) | refine Z8w rfl ?_ | refine Z8x rfl ?_ | (refine Z8y ?_; (repeat (first | refine Z9v rfl ?_ | refine Z9w ?_)); refine Z9u ?_) | refine awp_seq ?_ | refine Zbm (fun _ _ => rfl) ?_ | refine Z8h ?_ | refine Zbn (fun _ _ => rfl) ?_ | refine Zbo (fun _ _ => rfl) ?_ | refine Z8f (t := true) rfl (fun _ => ?_) (fun e => by cases e) | refine Z8f (t := false) rfl (fun e => by cases e) (fun _ => ?_))); refine Z8d ?_; exact ares rfl (HSub.refl _) ⟨rfl, rfl⟩
  by_cases h1 : k = 1
  · subst h1; (repeat (first | refine st_q rfl rfl rfl ?_ | refine Z8v rfl (st_q rfl rfl rfl ?_) | refine Z8w rfl ?_ | refine Z8x rfl ?_ | (refine Z8y ?_; (repeat (first | refine Z9v rfl ?_ | refine Z9w ?_)); refine Z9u ?_) | refine awp_seq ?_ | refine Zbm (fun _ _ => rfl) ?_ | refine Z8h ?_ | refine Zbn (fun _ _ => rfl) ?_ | refine Zbo (fun _ _ => rfl) ?_ | refine Z8f (t := true) rfl (fun _ => ?_) (fun e => by cases e) | refine Z8f (t := false) rfl (fun e => by cases e) (fun _ => ?_))); refine Z8d ?_; exact ares rfl (HSub.refl _) ⟨rfl, rfl⟩
  by_cases h2 : k = 2
  · subst h2; (repeat (first | refine st_q rfl rfl rfl ?_ | refine Z8v rfl (st_q rfl rfl rfl ?_) | refine Z8w rfl ?_ | refine Z8x rfl ?_ | (refine Z8y ?_; (repeat (first | refine Z9v rfl ?_ | refine Z9w ?_)); refine Z9u ?_) | refine awp_seq ?_ | refine Zbm (fun _ _ => rfl) ?_ | refine Z8h ?_ | refine Zbn (fun _ _ => rfl) ?_ | refine Zbo (fun _ _ => rfl) ?_ | refine Z8f (t := true) rfl (fun _ => ?_) (fun e => by cases e) | refine Z8f (t := false) rfl (fun e => by cases e) (fun _ => ?_))); refine Z8d ?_; exact ares rfl (HSub.refl _) ⟨rfl, rfl⟩
  by_cases h3 : k = 3
  · subst h3; (repeat (first | refine st_q rfl rfl rfl ?_ | refine Z8v rfl (st_q rfl rfl rfl ?_) | refine Z8w rfl ?_ | refine Z8x rfl ?_ | (refine Z8y ?_; (repeat (first | refine Z9v rfl ?_ | refine Z9w ?_)); refine Z9u ?_) | refine awp_seq ?_ | refine Zbm (fun _ _ => rfl) ?_ | refine Z8h ?_ | refine Zbn (fun _ _ => rfl) ?_ | refine Zbo (fun _ _ => rfl) ?_ | refine Z8f (t := true) rfl (fun _ => ?_) (fun e => by cases e) | refine Z8f (t := false) rfl (fun e => by cases e) (fun _ => ?_))); refine Z8d ?_; exact ares rfl (HSub.refl _) ⟨rfl, rfl⟩
  by_cases h4 : k = 4
  · subst h4; (repeat (first | refine st_q rfl rfl rfl ?_ | refine Z8v rfl (st_q rfl rfl rfl ?_) | refine Z8w rfl ?_ | refine Z8x rfl ?_ | (refine Z8y ?_; (repeat (first | refine Z9v rfl ?_ | refine Z9w ?_)); refine Z9u ?_) | refine awp_seq ?_ | refine Zbm (fun _ _ => rfl) ?_ | refine Z8h ?_ | refine Zbn (fun _ _ => rfl) ?_ | refine Zbo (fun _ _ => rfl) ?_ | refine Z8f (t := true) rfl (fun _ => ?_) (fun e => by cases e) | refine Z8f (t := false) rfl (fun e => by cases e) (fun _ => ?_))); refine Z8d ?_; exact ares rfl (HSub.refl _) ⟨rfl, rfl⟩
  by_cases h7 : k = 7
  · subst h7; (repeat (first | refine st_q rfl rfl rfl ?_ | refine Z8v rfl (st_q rfl rfl rfl ?_) | refine Z8w rfl ?_ | refine Z8x rfl ?_ | (refine Z8y ?_; (repeat (first | refine Z9v rfl ?_ | refine Z9w ?_)); refine Z9u ?_) | refine awp_seq ?_ | refine Zbm (fun _ _ => rfl) ?_ | refine Z8h ?_ | refine Zbn (fun _ _ => rfl) ?_ | refine Zbo (fun _ _ => rfl) ?_ | refine Z8f (t := true) rfl (fun _ => ?_) (fun e => by cases e) | refine Z8f (t := false) rfl (fun e => by cases e) (fun _ => ?_))); refine Z8d ?_; exact ares rfl (HSub.refl _) ⟨rfl, rfl⟩
  by_cases h16 : k = 16
  · subst h16; (repeat (first | refine st_q rfl rfl rfl ?_ | refine Z8v rfl (st_q rfl rfl rfl ?_) | refine Z8w rfl ?_ | refine Z8x rfl ?_ | (refine Z8y ?_; (repeat (first | refine Z9v rfl ?_ | refine Z9w ?_)); refine Z9u ?_) | refine awp_seq ?_ | refine Zbm (fun _ _ => rfl) ?_ | refine Z8h ?_ | refine Zbn (fun _ _ => rfl) ?_ | refine Zbo (fun _ _ => rfl) ?_ | refine Z8f (t := true) rfl (fun _ => ?_) (fun e => by cases e) | refine Z8f (t := false) rfl (fun e => by cases e) (fun _ => ?_))); refine Z8d ?_; exact ares rfl (HSub.refl _) ⟨rfl, rfl⟩
  by_cases h17 : k = 17
  · subst h17; (repeat (first | refine st_q rfl rfl rfl ?_ | refine Z8v rfl (st_q rfl rfl rfl ?_) | refine Z8w rfl ?_ | refine Z8x rfl ?_ | (refine Z8y ?_; (repeat (first | refine Z9v rfl ?_ | refine Z9w ?_)); refine Z9u ?_) | refine awp_seq ?_ | refine Zbm (fun _ _ => rfl) ?_ | refine Z8h ?_ | refine Zbn (fun _ _ => rfl) ?_ | refine Zbo (fun _ _ => rfl) ?_ | refine Z8f (t := true) rfl (fun _ => ?_) (fun e => by cases e) | refine Z8f (t := false) rfl (fun e => by cases e) (fun _ => ?_))); refine Z8d ?_; exact ares rfl (HSub.refl _) ⟨rfl, rfl⟩
  by_cases h8 : k = 8
  · subst h8; (repeat (first | refine st_q rfl rfl rfl ?_ | refine Z8v rfl (st_q rfl rfl rfl ?_) | refine Z8w rfl ?_ | refine Z8x rfl ?_ | (refine Z8y ?_; (repeat (first | refine Z9v rfl ?_ | refine Z9w ?_)); refine Z9u ?_) | refine awp_seq ?_ | refine Zbm (fun _ _ => rfl) ?_ | refine Z8h ?_ | refine Zbn (fun _ _ => rfl) ?_ | refine Zbo (fun _ _ => rfl) ?_ | refine Z8f (t := true) rfl (fun _ => ?_) (fun e => by cases e) | refine Z8f (t := false) rfl (fun e => by cases e) (fun _ => ?_))); refine Z8d ?_; exact ares rfl (HSub.refl _) ⟨rfl, rfl⟩
  by_cases h14 : k = 14
  · subst h14; (repeat (first | refine st_q rfl rfl rfl ?_ | refine Z8v rfl (st_q rfl rfl rfl ?_) | refine Z8w rfl ?_ | refine Z8x rfl ?_ | (refine Z8y ?_; (repeat (first | refine Z9v rfl ?_ | refine Z9w ?_)); refine Z9u ?_) | refine awp_seq ?_ | refine Zbm (fun _ _ => rfl) ?_ | refine Z8h ?_ | refine Zbn (fun _ _ => rfl) ?_ | refine Zbo (fun _ _ => rfl) ?_ | refine Z8f (t := true) rfl (fun _ => ?_) (fun e => by cases e) | refine Z8f (t := false) rfl (fun e => by cases e) (fun _ => ?_))); refine Z8d ?_; exact ares rfl (HSub.refl _) ⟨rfl, rfl⟩
  (repeat (first | refine st_q rfl rfl rfl ?_ | refine Z8v rfl (st_q rfl rfl rfl ?_) | refine Z8w rfl ?_ | refine Z8x rfl ?_ | (refine Z8y ?_; (repeat (first | refine Z9v rfl ?_ | refine Z9w ?_)); refine Z9u ?_) | refine awp_seq ?_ | refine Zbm (fun _ _ => rfl) ?_ | refine Z8h ?_ | refine Zbn (fun _ _ => rfl) ?_ | refine Zbo (fun _ _ => rfl) ?_ | refine Z8f (t := true) rfl (fun _ => ?_) (fun e => by cases e) | refine Z8f (t := false) rfl (fun e => by cases e) (fun _ => ?_)))
  (rw [show decide (k = 0) = false from decide_eq_false (by omega)])
  (repeat (first | refine st_q rfl rfl rfl ?_ | refine Z8v rfl (st_q rfl rfl rfl ?_) | refine Z8w rfl ?_ | refine Z8x rfl ?_ | (refine Z8y ?_; (repeat (first | refine Z9v rfl ?_ | refine Z9w ?_)); refine Z9u ?_) | refine awp_seq ?_ | refine Zbm (fun _ _ => rfl) ?_ | refine Z8h ?_ | refine Zbn (fun _ _ => rfl) ?_ | refine Zbo (fun _ _ => rfl) ?_ | refine Z8f (t := true) rfl (fun _ => ?_) (fun e => by cases e) | refine Z8f (t := false) rfl (fun e => by cases e) (fun _ => ?_)))
  (rw [show decide (k = 1) = false from decide_eq_false (by omega)])
  (repeat (first | refine st_q rfl rfl rfl ?_ | refine Z8v rfl (st_q rfl rfl rfl ?_) | refine Z8w rfl ?_ | refine Z8x rfl ?_ | (refine Z8y ?_; (repeat (first | refine Z9v rfl ?_ | refine Z9w ?_)); refine Z9u ?_) | refine awp_seq ?_ | refine Zbm (fun _ _ => rfl) ?_ | refine Z8h ?_ | refine Zbn (fun _ _ => rfl) ?_ | refine Zbo (fun _ _ => rfl) ?_ | refine Z8f (t := true) rfl (fun _ => ?_) (fun e => by cases e) | refine Z8f (t := false) rfl (fun e => by cases e) (fun _ => ?_)))
  (rw [show decide (k = 2) = false from decide_eq_false (by omega)])
  (repeat (first | refine st_q rfl rfl rfl ?_ | refine Z8v rfl (st_q rfl rfl rfl ?_) | refine Z8w rfl ?_ | refine Z8x rfl ?_ | (refine Z8y ?_; (repeat (first | refine Z9v rfl ?_ | refine Z9w ?_)); refine Z9u ?_) | refine awp_seq ?_ | refine Zbm (fun _ _ => rfl) ?_ | refine Z8h ?_ | refine Zbn (fun _ _ => rfl) ?_ | refine Zbo (fun _ _ => rfl) ?_ | refine Z8f (t := true) rfl (fun _ => ?_) (fun e => by cases e) | refine Z8f (t := false) rfl (fun e => by cases e) (fun _ => ?_)))
  (rw [show decide (k = 3) = false from decide_eq_false (by omega)])
  (repeat (first | refine st_q rfl rfl rfl ?_ | refine Z8v rfl (st_q rfl rfl rfl ?_) | refine Z8w rfl ?_ | refine Z8x rfl ?_ | (refine Z8y ?_; (repeat (first | refine Z9v rfl ?_ | refine Z9w ?_)); refine Z9u ?_) | refine awp_seq ?_ | refine Zbm (fun _ _ => rfl) ?_ | refine Z8h ?_ | refine Zbn (fun _ _ => rfl) ?_ | refine Zbo (fun _ _ => rfl) ?_ | refine Z8f (t := true) rfl (fun _ => ?_) (fun e => by cases e) | refine Z8f (t := false) rfl (fun e => by cases e) (fun _ => ?_)))
  (rw [show decide (k = 4) = false from decide_eq_false (by omega)])
  (repeat (first | refine st_q rfl rfl rfl ?_ | refine Z8v rfl (st_q rfl rfl rfl ?_) | refine Z8w rfl ?_ | refine Z8x rfl ?_ | (refine Z8y ?_; (repeat (first | refine Z9v rfl ?_ | refine Z9w ?_)); refine Z9u ?_) | refine awp_seq ?_ | refine Zbm (fun _ _ => rfl) ?_ | refine Z8h ?_ | refine Zbn (fun _ _ => rfl) ?_ | refine Zbo (fun _ _ => rfl) ?_ | refine Z8f (t := true) rfl (fun _ => ?_) (fun e => by cases e) | refine Z8f (t := false) rfl (fun e => by cases e) (fun _ => ?_)))
  (rw [show decide (k = 7) = false from decide_eq_false (by omega)])
  (repeat (first | refine st_q rfl rfl rfl ?_ | refine Z8v rfl (st_q rfl rfl rfl ?_) | refine Z8w rfl ?_ | refine Z8x rfl ?_ | (refine Z8y ?_; (repeat (first | refine Z9v rfl ?_ | refine Z9w ?_)); refine Z9u ?_) | refine awp_seq ?_ | refine Zbm (fun _ _ => rfl) ?_ | refine Z8h ?_ | refine Zbn (fun _ _ => rfl) ?_ | refine Zbo (fun _ _ => rfl) ?_ | refine Z8f (t := true) rfl (fun _ => ?_) (fun e => by cases e) | refine Z8f (t := false) rfl (fun e => by cases e) (fun _ => ?_)))
  (rw [show decide (k = 16) = false from decide_eq_false (by omega)])
  (repeat (first | refine st_q rfl rfl rfl ?_ | refine Z8v rfl (st_q rfl rfl rfl ?_) | refine Z8w rfl ?_ | refine Z8x rfl ?_ | (refine Z8y ?_; (repeat (first | refine Z9v rfl ?_ | refine Z9w ?_)); refine Z9u ?_) | refine awp_seq ?_ | refine Zbm (fun _ _ => rfl) ?_ | refine Z8h ?_ | refine Zbn (fun _ _ => rfl) ?_ | refine Zbo (fun _ _ => rfl) ?_ | refine Z8f (t := true) rfl (fun _ => ?_) (fun e => by cases e) | refine Z8f (t := false) rfl (fun e => by cases e) (fun _ => ?_)))
  (rw [show decide (k = 17) = false from decide_eq_false (by omega)])
  (repeat (first | refine st_q rfl rfl rfl ?_ | refine Z8v rfl (st_q rfl rfl rfl ?_) | refine Z8w rfl ?_ | refine Z8x rfl ?_ | (refine Z8y ?_; (repeat (first | refine Z9v rfl ?_ | refine Z9w ?_)); refine Z9u ?_) | refine awp_seq ?_ | refine Zbm (fun _ _ => rfl) ?_ | refine Z8h ?_ | refine Zbn (fun _ _ => rfl) ?_ | refine Zbo (fun _ _ => rfl) ?_ | refine Z8f (t := true) rfl (fun _ => ?_) (fun e => by cases e) | refine Z8f (t := false) rfl (fun e => by cases e) (fun _ => ?_)))
  (rw [show decide (k = 8) = false from decide_eq_false (by omega)])
  (repeat (first | refine st_q rfl rfl rfl ?_ | refine Z8v rfl (st_q rfl rfl rfl ?_) | refine Z8w rfl ?_ | refine Z8x rfl ?_ | (refine Z8y ?_; (repeat (first | refine Z9v rfl ?_ | refine Z9w ?_)); refine Z9u ?_) | refine awp_seq ?_ | refine Zbm (fun _ _ => rfl) ?_ | refine Z8h ?_ | refine Zbn (fun _ _ => rfl) ?_ | refine Zbo (fun _ _ => rfl) ?_ | refine Z8f (t := true) rfl (fun _ => ?_) (fun e => by cases e) | refine Z8f (t := false) rfl (fun e => by cases e) (fun _ => ?_)))
  (rw [show decide (k = 14) = false from decide_eq_false (by omega)])
  (repeat (first | refine st_q rfl rfl rfl ?_ | refine Z8v rfl (st_q rfl rfl rfl ?_) | refine Z8w rfl ?_ | refine Z8x rfl ?_ | (refine Z8y ?_; (repeat (first | refine Z9v rfl ?_ | refine Z9w ?_)); refine Z9u ?_) | refine awp_seq ?_ | refine Zbm (fun _ _ => rfl) ?_ | refine Z8h ?_ | refine Zbn (fun _ _ => rfl) ?_ | refine Zbo (fun _ _ => rfl) ?_ | refine Z8f (t := true) rfl (fun _ => ?_) (fun e => by cases e) | refine Z8f (t := false) rfl (fun e => by cases e) (fun _ => ?_)))
  refine Z8d ?_
  exact ares rfl (HSub.refl _) ⟨by simp [Zyh, Z8m, h0, h1, h2, h3, h4, h7, h16, h17, h8, h14], rfl⟩
theorem Z167 (k : Int) (σ : Zc) : Z1q Try.prog Zeb [.int .i64 k] σ fun r σ' => r = .bool (Zyi k) ∧ σ' = σ := by
  refine Z8t rfl Z13s (Nat.le_of_ble_eq_true rfl) ?_
  (repeat (first | refine st_q rfl rfl rfl ?_ | refine Z8v rfl (st_q rfl rfl rfl ?_) | refine Z8w rfl ?_ | refine Z8x rfl ?_ | (refine Z8y ?_; (repeat (first | refine Z9v rfl ?_ | refine Z9w ?_)); refine Z9u ?_) | refine awp_seq ?_ | refine Zbm (fun _ _ => rfl) ?_ | refine Z8h ?_ | refine Zbn (fun _ _ => rfl) ?_ | refine Zbo (fun _ _ => rfl) ?_ | refine Z8f (t := true) rfl (fun _ => ?_) (fun e => by cases e) | refine Z8f (t := false) rfl (fun e => by cases e) (fun _ => ?_)))
  refine Z9t rfl (Ztl k _) ?_
  cases hl : Zls k with
  | false =>
    (repeat (first | refine st_q rfl rfl rfl ?_ | refine Z8v rfl (st_q rfl rfl rfl ?_) | refine Z8w rfl ?_ | refine Z8x rfl ?_ | (refine Z8y ?_; (repeat (first | refine Z9v rfl ?_ | refine Z9w ?_)); refine Z9u ?_) | refine awp_seq ?_ | refine Zbm (fun _ _ => rfl) ?_ | refine Z8h ?_ | refine Zbn (fun _ _ => rfl) ?_ | refine Zbo (fun _ _ => rfl) ?_ | refine Z8f (t := true) rfl (fun _ => ?_) (fun e => by cases e) | refine Z8f (t := false) rfl (fun e => by cases e) (fun _ => ?_)))
    refine Z8d ?_
    exact ares rfl (HSub.refl _) ⟨by simp [Zyi, Z8m, hl], rfl⟩
  | true =>
    (repeat (first | refine st_q rfl rfl rfl ?_ | refine Z8v rfl (st_q rfl rfl rfl ?_) | refine Z8w rfl ?_ | refine Z8x rfl ?_ | (refine Z8y ?_; (repeat (first | refine Z9v rfl ?_ | refine Z9w ?_)); refine Z9u ?_) | refine awp_seq ?_ | refine Zbm (fun _ _ => rfl) ?_ | refine Z8h ?_ | refine Zbn (fun _ _ => rfl) ?_ | refine Zbo (fun _ _ => rfl) ?_ | refine Z8f (t := true) rfl (fun _ => ?_) (fun e => by cases e) | refine Z8f (t := false) rfl (fun e => by cases e) (fun _ => ?_)))
    by_cases h0 : k = 0
    · (rw [show decide (k ≠ 0) = false from decide_eq_false (by omega)])
      (repeat (first | refine st_q rfl rfl rfl ?_ | refine Z8v rfl (st_q rfl rfl rfl ?_) | refine Z8w rfl ?_ | refine Z8x rfl ?_ | (refine Z8y ?_; (repeat (first | refine Z9v rfl ?_ | refine Z9w ?_)); refine Z9u ?_) | refine awp_seq ?_ | refine Zbm (fun _ _ => rfl) ?_ | refine Z8h ?_ | refine Zbn (fun _ _ => rfl) ?_ | refine Zbo (fun _ _ => rfl) ?_ | refine Z8f (t := true) rfl (fun _ => ?_) (fun e => by cases e) | refine Z8f (t := false) rfl (fun e => by cases e) (fun _ => ?_)))
      refine Z8d ?_
      exact ares rfl (HSub.refl _) ⟨by simp [Zyi, Z8m, h0], rfl⟩
    · (rw [show decide (k ≠ 0) = true from decide_eq_true (by omega)])
      (repeat (first | refine st_q rfl rfl rfl ?_ | refine Z8v rfl (st_q rfl rfl rfl ?_) | refine Z8w rfl ?_ | refine Z8x rfl ?_ | (refine Z8y ?_; (repeat (first | refine Z9v rfl ?_ | refine Z9w ?_)); refine Z9u ?_) | refine awp_seq ?_ | refine Zbm (fun _ _ => rfl) ?_ | refine Z8h ?_ | refine Zbn (fun _ _ => rfl) ?_ | refine Zbo (fun _ _ => rfl) ?_ | refine Z8f (t := true) rfl (fun _ => ?_) (fun e => by cases e) | refine Z8f (t := false) rfl (fun e => by cases e) (fun _ => ?_)))
      refine Z8d ?_
      exact ares rfl (HSub.refl _) ⟨by simp [Zyi, Z8m, hl, h0], rfl⟩
def Z168 (a b : Stt) : Bool := decide (a.count = b.count) && ((a.null == b.null) && ((a.has == b.has) && (Z15x a.min b.min && (Z15x a.max b.max && ((a.sums == b.sums) && decide (a.sum = b.sum))))))
theorem Z169 (a : Stt) : Z168 a a = true := by simp [Z168, Z15z]
theorem Z16a (x y : Stt) (hx1 : x.min.Fit) (hx2 : x.max.Fit) (σ : Zc) : Z1q Try.prog Zcu [encS x, encS y] σ fun r σ' => r = .bool (Z168 x y) ∧ σ' = σ := by
  have hmin := Z161 x.min hx1 y.min
  have hmax := Z161 x.max hx2 y.max
  simp only [Zm6] at hmin hmax
  refine Z8t rfl Z13p (Nat.le_of_ble_eq_true rfl) ?_
  refine Z9z ?_
  refine Z9j rfl (Z0.fit_iff.1 rfl) fun b2 hb2 => ?_
  refine Z9j rfl (Z0.fit_iff.1 rfl) fun b3 hb3 => ?_
  (repeat (refine st_q rfl rfl rfl ?_))
  (refine Z8y ?_; (repeat (first | refine Z9v rfl ?_ | refine Z9w ?_)); refine Z9u ?_)
  refine Zb3 (d := 3) (cs := Zyn y) rfl ?_
  refine Zb3 (d := 2) (cs := Zyn x) rfl ?_
  refine Z9z ?_
  (repeat (first | refine st_q rfl rfl rfl ?_ | refine Z8v rfl (st_q rfl rfl rfl ?_) | refine Z8w rfl ?_ | refine Z8x rfl ?_))
  unfold Z168
  generalize decide (x.count = y.count) = q
  cases q with
  | false =>
    (repeat (first | refine st_q rfl rfl rfl ?_ | refine Z8v rfl (st_q rfl rfl rfl ?_) | refine Z8w rfl ?_ | refine Z8x rfl ?_))
    (refine Z8y ?_; (repeat (first | refine Z9v rfl ?_ | refine Z9w ?_)); refine Z9u ?_)
    (refine Z8d ?_; exact ares rfl (HSub.refl _) ⟨rfl, rfl⟩)
  | true =>
  (repeat (first | refine st_q rfl rfl rfl ?_ | refine Z8v rfl (st_q rfl rfl rfl ?_) | refine Z8w rfl ?_ | refine Z8x rfl ?_))
  generalize (x.null == y.null) = q
  cases q with
  | false =>
    (repeat (first | refine st_q rfl rfl rfl ?_ | refine Z8v rfl (st_q rfl rfl rfl ?_) | refine Z8w rfl ?_ | refine Z8x rfl ?_))
    (refine Z8y ?_; (repeat (first | refine Z9v rfl ?_ | refine Z9w ?_)); refine Z9u ?_)
    (refine Z8d ?_; exact ares rfl (HSub.refl _) ⟨rfl, rfl⟩)
  | true =>
  (repeat (first | refine st_q rfl rfl rfl ?_ | refine Z8v rfl (st_q rfl rfl rfl ?_) | refine Z8w rfl ?_ | refine Z8x rfl ?_))
  generalize (x.has == y.has) = q
  cases q with
  | false =>
    (repeat (first | refine st_q rfl rfl rfl ?_ | refine Z8v rfl (st_q rfl rfl rfl ?_) | refine Z8w rfl ?_ | refine Z8x rfl ?_))
    (refine Z8y ?_; (repeat (first | refine Z9v rfl ?_ | refine Z9w ?_)); refine Z9u ?_)
    (refine Z8d ?_; exact ares rfl (HSub.refl _) ⟨rfl, rfl⟩)
  | true =>
  (repeat (first | refine st_q rfl rfl rfl ?_ | refine Z8v rfl (st_q rfl rfl rfl ?_) | refine Z8w rfl ?_ | refine Z8x rfl ?_))
  refine Z8v rfl (Z9t rfl (hmin _) ?_)
  generalize Z15x x.min y.min = q
  cases q with
  | false =>
    (repeat (first | refine st_q rfl rfl rfl ?_ | refine Z8v rfl (st_q rfl rfl rfl ?_) | refine Z8w rfl ?_ | refine Z8x rfl ?_))
    (refine Z8y ?_; (repeat (first | refine Z9v rfl ?_ | refine Z9w ?_)); refine Z9u ?_)
    (refine Z8d ?_; exact ares rfl (HSub.refl _) ⟨rfl, rfl⟩)
  | true =>
  (repeat (first | refine st_q rfl rfl rfl ?_ | refine Z8v rfl (st_q rfl rfl rfl ?_) | refine Z8w rfl ?_ | refine Z8x rfl ?_))
  refine Z8v rfl (Z9t rfl (hmax _) ?_)
  generalize Z15x x.max y.max = q
  cases q with
  | false =>
    (repeat (first | refine st_q rfl rfl rfl ?_ | refine Z8v rfl (st_q rfl rfl rfl ?_) | refine Z8w rfl ?_ | refine Z8x rfl ?_))
    (refine Z8y ?_; (repeat (first | refine Z9v rfl ?_ | refine Z9w ?_)); refine Z9u ?_)
    (refine Z8d ?_; exact ares rfl (HSub.refl _) ⟨rfl, rfl⟩)
  | true =>
  (repeat (first | refine st_q rfl rfl rfl ?_ | refine Z8v rfl (st_q rfl rfl rfl ?_) | refine Z8w rfl ?_ | refine Z8x rfl ?_))
  generalize (x.sums == y.sums) = q
  cases q with
  | false =>
    (repeat (first | refine st_q rfl rfl rfl ?_ | refine Z8v rfl (st_q rfl rfl rfl ?_) | refine Z8w rfl ?_ | refine Z8x rfl ?_))
    (refine Z8y ?_; (repeat (first | refine Z9v rfl ?_ | refine Z9w ?_)); refine Z9u ?_)
    (refine Z8d ?_; exact ares rfl (HSub.refl _) ⟨rfl, rfl⟩)
  | true =>
  (repeat (first | refine st_q rfl rfl rfl ?_ | refine Z8v rfl (st_q rfl rfl rfl ?_) | refine Z8w rfl ?_ | refine Z8x rfl ?_))
  (refine Z8y ?_; (repeat (first | refine Z9v rfl ?_ | refine Z9w ?_)); refine Z9u ?_)
  (refine Z8d ?_; exact ares rfl (HSub.refl _) ⟨(by simp [Z8m]), rfl⟩)
theorem Z16b (t : List Z0) (k : Int) (ht : t.length = 6) (hk : t[0]? = some (.int .i64 k)) (ht1 : ∀ c ∈ t, c.one = true) (x y : Stt) (hx : -9223372036854775808 ≤ x.sum ∧ x.sum ≤ 9223372036854775807) (hy : -9223372036854775808 ≤ y.sum ∧ y.sum ≤ 9223372036854775807) (σ : Zc) :
    Z1q Try.prog Zd0 [.agg t, encS x, encS y] σ fun r σ' => r = encS (Z15s k x y) ∧ σ' = σ := by
  match t, ht with
  | [t0, t1, t2, t3, t4, t5], _ =>
  simp only [List.getElem?_cons_zero, Option.some.injEq] at hk
  subst hk
  have hc1 := Z165 [.int .i64 k, t1, t2, t3, t4, t5] k rfl rfl ht1 y.min x.min
  have hc2 := Z165 [.int .i64 k, t1, t2, t3, t4, t5] k rfl rfl ht1 y.max x.max
  simp only [Zm6] at hc1 hc2
  refine Z8t rfl Z13q (Nat.le_of_ble_eq_true rfl) ?_
  refine Z9z ?_
  refine Z9j rfl ⟨rfl, ht1⟩ fun b3 hb3 => ?_
  refine Z9j rfl (Z0.fit_iff.1 rfl) fun b4 hb4 => ?_
  refine Z9j rfl (Z0.fit_iff.1 rfl) fun b5 hb5 => ?_
  refine Z9k (by simp [Z0.cells, Z0.one]) fun b6 hb6 => ?_
  (refine Z8y ?_; (repeat (first | refine Z9v rfl ?_ | refine Z9w ?_)); refine Z9u ?_)
  refine Z8a (FSub.refl _) (HSub.swap _ _ _) ?_
  refine Zb3 (d := 5) (cs := Zyn y) rfl ?_
  refine Z8a (FSub.refl _) (HSub.swap _ _ _) ?_
  refine Zb3 (d := 4) (cs := Zyn x) rfl ?_
  refine Z8a (FSub.refl _) (HSub.swap _ _ _) ?_
  refine Zb3 (d := 3) (cs := [.int .i64 k, t1, t2, t3, t4, t5]) rfl ?_
  have main : ∀ z : Zb, z = .cells 15 [.agg [.int .i64 0, .bool false, .bool false, .bool false, .int .i64 0, .int .i64 0, .slc 0 [] true, .slc 0 [] true, .bool false, .int .i64 0, .int .i64 0, .slc 0 [] true, .slc 0 [] true, .bool false, .int .i64 0]] →
      AWp Try.prog Z12g.n (Z12g.code.snd 1) (ARet Z12g.res fun r σ' => r = encS (Z15s k x y) ∧ σ' = σ)
        (fset 3 (some (.iptr [.int .i64 k, t1, t2, t3, t4, t5])) (fset 4 (some (.iptr (Zyn x))) (fset 5 (some (.iptr (Zyn y))) (fset 6 (some (.ptr b6 0 0)) Z27)))) ((b6, z) :: σ) := by
    intro z hz
    have last : ∀ (s : Stt) (b7 : Nat), s = Z15s k x y → b7 ∉ Zh ((b6, z) :: σ) → AWp Try.prog Z12g.n (Z12g.code.snd 4) (ARet Z12g.res fun r σ' => r = encS (Z15s k x y) ∧ σ' = σ)
        (fset 6 (some (.ptr b6 0 0)) (fset 7 (some (.ptr b7 0 0)) Z27)) ((b7, .cells 15 [encS s]) :: (b6, z) :: σ) := by
      intro s b7 hs hb7
      subst hz
      refine Z9z ?_
      refine Z92 rfl Z8z rfl rfl ?_
      refine Z9a rfl (Z90 (fun e => hb7 (by rw [e]; simp [Zh])) Z8z) rfl (by decide) (Z0.fit_iff.1 rfl) (fun h => by cases h) (Z9c (fun e => hb7 (by rw [e]; simp [Zh])) Z9b) ?_
      (refine Z8y ?_; (repeat (first | refine Z9v rfl ?_ | refine Z9w ?_)); refine Z9u ?_)
      refine Z8a (FSub.refl _) (HSub.tail _ _) ?_
      refine Z8d ?_
      exact ares (vs := [encS s]) (Zz2 rfl Z8z rfl) (HSub.tail _ _) ⟨by rw [hs]; rfl, rfl⟩
    have spans : ∀ (s : Stt) (b7 : Nat), s = { Z15s k x y with min := x.min, max := x.max } → b7 ∉ Zh ((b6, z) :: σ) → AWp Try.prog Z12g.n (Z12g.code.snd 3) (ARet Z12g.res fun r σ' => r = encS (Z15s k x y) ∧ σ' = σ)
        (fset 3 (some (.iptr [.int .i64 k, t1, t2, t3, t4, t5])) (fset 4 (some (.iptr (Zyn x))) (fset 5 (some (.iptr (Zyn y))) (fset 6 (some (.ptr b6 0 0)) (fset 7 (some (.ptr b7 0 0)) Z27))))) ((b7, .cells 15 [encS s]) :: (b6, z) :: σ) := by
      intro s b7 hs hb7
      (repeat (first | refine st_q rfl rfl rfl ?_ | refine Z8v rfl (st_q rfl rfl rfl ?_) | refine Z92 rfl Z8z rfl rfl ?_ | refine Z8v rfl (Z92 rfl Z8z rfl rfl ?_) | refine Zby rfl rfl ?_ | refine Z8v rfl (Zby rfl rfl ?_) | refine Z8w rfl ?_ | refine Z8x rfl ?_ | (refine Z8y ?_; (repeat (first | refine Z9v rfl ?_ | refine Z9w ?_)); refine Z9u ?_) | refine awp_seq ?_ | refine Zbm (fun _ _ => rfl) ?_ | refine Z8h ?_ | refine Zbn (fun _ _ => rfl) ?_ | refine Zbo (fun _ _ => rfl) ?_ | refine Z8f (t := true) rfl (fun _ => ?_) (fun e => by cases e) | refine Z8f (t := false) rfl (fun e => by cases e) (fun _ => ?_)))
      cases hxh : x.has with
      | false =>
        (repeat (first | refine st_q rfl rfl rfl ?_ | refine Z8v rfl (st_q rfl rfl rfl ?_) | refine Z92 rfl Z8z rfl rfl ?_ | refine Z8v rfl (Z92 rfl Z8z rfl rfl ?_) | refine Zby rfl rfl ?_ | refine Z8v rfl (Zby rfl rfl ?_) | refine Z8w rfl ?_ | refine Z8x rfl ?_ | (refine Z8y ?_; (repeat (first | refine Z9v rfl ?_ | refine Z9w ?_)); refine Z9u ?_) | refine awp_seq ?_ | refine Zbm (fun _ _ => rfl) ?_ | refine Z8h ?_ | refine Zbn (fun _ _ => rfl) ?_ | refine Zbo (fun _ _ => rfl) ?_ | refine Z8f (t := true) rfl (fun _ => ?_) (fun e => by cases e) | refine Z8f (t := false) rfl (fun e => by cases e) (fun _ => ?_)))
        (first | refine Z9a rfl Z8z rfl (by decide) (Z0.fit_iff.1 rfl) (fun h => by cases h) Z9b ?_ | refine Z8v rfl (Z9a rfl Z8z rfl (by decide) (Z0.fit_iff.1 rfl) (fun h => by cases h) Z9b ?_))
        (repeat (first | refine st_q rfl rfl rfl ?_ | refine Z8v rfl (st_q rfl rfl rfl ?_) | refine Z92 rfl Z8z rfl rfl ?_ | refine Z8v rfl (Z92 rfl Z8z rfl rfl ?_) | refine Zby rfl rfl ?_ | refine Z8v rfl (Zby rfl rfl ?_) | refine Z8w rfl ?_ | refine Z8x rfl ?_ | (refine Z8y ?_; (repeat (first | refine Z9v rfl ?_ | refine Z9w ?_)); refine Z9u ?_) | refine awp_seq ?_ | refine Zbm (fun _ _ => rfl) ?_ | refine Z8h ?_ | refine Zbn (fun _ _ => rfl) ?_ | refine Zbo (fun _ _ => rfl) ?_ | refine Z8f (t := true) rfl (fun _ => ?_) (fun e => by cases e) | refine Z8f (t := false) rfl (fun e => by cases e) (fun _ => ?_)))
        (first | refine Z9a rfl Z8z rfl (by decide) (Z0.fit_iff.1 rfl) (fun h => by cases h) Z9b ?_ | refine Z8v rfl (Z9a rfl Z8z rfl (by decide) (Z0.fit_iff.1 rfl) (fun h => by cases h) Z9b ?_))
        (refine Z8y ?_; (repeat (first | refine Z9v rfl ?_ | refine Z9w ?_)); refine Z9u ?_)
        exact last { s with min := y.min, max := y.max } b7 (by rw [hs]; simp [Z15s, hxh]) hb7
      | true =>
        (repeat (first | refine st_q rfl rfl rfl ?_ | refine Z8v rfl (st_q rfl rfl rfl ?_) | refine Z92 rfl Z8z rfl rfl ?_ | refine Z8v rfl (Z92 rfl Z8z rfl rfl ?_) | refine Zby rfl rfl ?_ | refine Z8v rfl (Zby rfl rfl ?_) | refine Z8w rfl ?_ | refine Z8x rfl ?_ | (refine Z8y ?_; (repeat (first | refine Z9v rfl ?_ | refine Z9w ?_)); refine Z9u ?_) | refine awp_seq ?_ | refine Zbm (fun _ _ => rfl) ?_ | refine Z8h ?_ | refine Zbn (fun _ _ => rfl) ?_ | refine Zbo (fun _ _ => rfl) ?_ | refine Z8f (t := true) rfl (fun _ => ?_) (fun e => by cases e) | refine Z8f (t := false) rfl (fun e => by cases e) (fun _ => ?_)))
        cases hyh : y.has with
        | false =>
          (refine Z8f (t := false) rfl (fun e => by cases e) (fun _ => ?_); refine Zbn (fun _ _ => rfl) ?_)
          (refine Z9y (keep := [6, 7]) ?_; ((repeat (first | refine Z9v rfl ?_ | refine Z9w ?_)); refine Z9u ?_))
          exact last s b7 (by rw [hs]; simp [Z15s, hxh, hyh]) hb7
        | true =>
          (repeat (first | refine st_q rfl rfl rfl ?_ | refine Z8v rfl (st_q rfl rfl rfl ?_) | refine Z92 rfl Z8z rfl rfl ?_ | refine Z8v rfl (Z92 rfl Z8z rfl rfl ?_) | refine Zby rfl rfl ?_ | refine Z8v rfl (Zby rfl rfl ?_) | refine Z8w rfl ?_ | refine Z8x rfl ?_ | (refine Z8y ?_; (repeat (first | refine Z9v rfl ?_ | refine Z9w ?_)); refine Z9u ?_) | refine awp_seq ?_ | refine Zbm (fun _ _ => rfl) ?_ | refine Z8h ?_ | refine Zbn (fun _ _ => rfl) ?_ | refine Zbo (fun _ _ => rfl) ?_ | refine Z8f (t := true) rfl (fun _ => ?_) (fun e => by cases e) | refine Z8f (t := false) rfl (fun e => by cases e) (fun _ => ?_)))
          (first | refine Z9t rfl (hc1 _) ?_ | refine Z8v rfl (Z9t rfl (hc1 _) ?_) | refine Zbw rfl hc1 ?_ | refine Z8v rfl (Zbw rfl hc1 ?_))
          (repeat (first | refine st_q rfl rfl rfl ?_ | refine Z8v rfl (st_q rfl rfl rfl ?_) | refine Z92 rfl Z8z rfl rfl ?_ | refine Z8v rfl (Z92 rfl Z8z rfl rfl ?_) | refine Zby rfl rfl ?_ | refine Z8v rfl (Zby rfl rfl ?_) | refine Z8w rfl ?_ | refine Z8x rfl ?_ | (refine Z8y ?_; (repeat (first | refine Z9v rfl ?_ | refine Z9w ?_)); refine Z9u ?_) | refine awp_seq ?_ | refine Zbm (fun _ _ => rfl) ?_ | refine Z8h ?_ | refine Zbn (fun _ _ => rfl) ?_ | refine Zbo (fun _ _ => rfl) ?_ | refine Z8f (t := true) rfl (fun _ => ?_) (fun e => by cases e) | refine Z8f (t := false) rfl (fun e => by cases e) (fun _ => ?_)))
          (first | refine Z9t rfl (hc2 _) ?_ | refine Z8v rfl (Z9t rfl (hc2 _) ?_) | refine Zbw rfl hc2 ?_ | refine Z8v rfl (Zbw rfl hc2 ?_))
          (repeat (first | refine st_q rfl rfl rfl ?_ | refine Z8v rfl (st_q rfl rfl rfl ?_) | refine Z92 rfl Z8z rfl rfl ?_ | refine Z8v rfl (Z92 rfl Z8z rfl rfl ?_) | refine Zby rfl rfl ?_ | refine Z8v rfl (Zby rfl rfl ?_) | refine Z8w rfl ?_ | refine Z8x rfl ?_ | (refine Z8y ?_; (repeat (first | refine Z9v rfl ?_ | refine Z9w ?_)); refine Z9u ?_) | refine awp_seq ?_ | refine Zbm (fun _ _ => rfl) ?_ | refine Z8h ?_ | refine Zbn (fun _ _ => rfl) ?_ | refine Zbo (fun _ _ => rfl) ?_ | refine Z8f (t := true) rfl (fun _ => ?_) (fun e => by cases e) | refine Z8f (t := false) rfl (fun e => by cases e) (fun _ => ?_)))
          have step2 : ∀ s1 : Stt, s1 = { Z15s k x y with max := x.max } → AWp Try.prog Z12g.n (.seq (.region Z12d [5, 6, 7, 85]) (.cond (.t 85) (.region Z12e [6, 7]) .skip)) (Z8e Try.prog Z12g.n (Z12g.code.snd 4) (ARet Z12g.res fun r σ' => r = encS (Z15s k x y) ∧ σ' = σ))
              (fset 5 (some (.iptr (Zyn y))) (fset 6 (some (.ptr b6 0 0)) (fset 7 (some (.ptr b7 0 0)) (fset 10 (some (.int .i64 (cmpV k y.max x.max).1)) Z27)))) ((b7, .cells 15 [encS s1]) :: (b6, z) :: σ) := by
            intro s1 hs1
            refine awp_seq ?_
            refine Zbm (fun _ _ => rfl) ?_
            (repeat (refine st_q rfl rfl rfl ?_))
            (refine Z8y ?_; (repeat (first | refine Z9v rfl ?_ | refine Z9w ?_)); refine Z9u ?_)
            refine Za3 (p := 0 < (cmpV k y.max x.max).1) rfl (fun h => ?_) (fun h => ?_)
            · refine Zbm (fun _ _ => rfl) ?_
              (repeat (refine st_q rfl rfl rfl ?_))
              (first | refine Z9a rfl Z8z rfl (by decide) (Z0.fit_iff.1 rfl) (fun h => by cases h) Z9b ?_ | refine Z8v rfl (Z9a rfl Z8z rfl (by decide) (Z0.fit_iff.1 rfl) (fun h => by cases h) Z9b ?_))
              (refine Z8y ?_; (repeat (first | refine Z9v rfl ?_ | refine Z9w ?_)); refine Z9u ?_)
              exact last { s1 with max := y.max } b7 (by rw [hs1]; simp [Z15s, hxh, hyh, h]) hb7
            · refine Zbn (fun _ _ => rfl) ?_
              (refine Z9y (keep := [6, 7]) ?_; ((repeat (first | refine Z9v rfl ?_ | refine Z9w ?_)); refine Z9u ?_))
              exact last s1 b7 (by rw [hs1]; simp [Z15s, hxh, hyh, h]) hb7
          refine Za3 (p := (cmpV k y.min x.min).1 < 0) rfl (fun h => ?_) (fun h => ?_)
          · refine Zbm (fun _ _ => rfl) ?_
            (repeat (refine st_q rfl rfl rfl ?_))
            (first | refine Z9a rfl Z8z rfl (by decide) (Z0.fit_iff.1 rfl) (fun h => by cases h) Z9b ?_ | refine Z8v rfl (Z9a rfl Z8z rfl (by decide) (Z0.fit_iff.1 rfl) (fun h => by cases h) Z9b ?_))
            (refine Z8y ?_; (repeat (first | refine Z9v rfl ?_ | refine Z9w ?_)); refine Z9u ?_)
            exact step2 { s with min := y.min } (by rw [hs]; simp [Z15s, hxh, hyh, h])
          · refine Zbn (fun _ _ => rfl) ?_
            (refine Z9y (keep := [5, 6, 7, 10]) ?_; ((repeat (first | refine Z9v rfl ?_ | refine Z9w ?_)); refine Z9u ?_))
            exact step2 s (by rw [hs]; simp [Z15s, hxh, hyh, h])
    have sums : ∀ (nn hh : Bool) (b7 : Nat), nn = (x.null || y.null) → hh = (x.has || y.has) → b7 ∉ Zh ((b6, z) :: σ) → AWp Try.prog Z12g.n (Z12g.code.snd 2) (ARet Z12g.res fun r σ' => r = encS (Z15s k x y) ∧ σ' = σ)
        (fset 3 (some (.iptr [.int .i64 k, t1, t2, t3, t4, t5])) (fset 4 (some (.iptr (Zyn x))) (fset 5 (some (.iptr (Zyn y))) (fset 6 (some (.ptr b6 0 0)) (fset 7 (some (.ptr b7 0 0)) Z27))))) ((b7, .cells 15 [encS ⟨IntKind.wrap .i64 (x.count + y.count), nn, hh, x.min, x.max, false, 0⟩]) :: (b6, z) :: σ) := by
      intro nn hh b7 e1 e2 hb7
      subst e1 e2
      (repeat (first | refine st_q rfl rfl rfl ?_ | refine Z8v rfl (st_q rfl rfl rfl ?_) | refine Z92 rfl Z8z rfl rfl ?_ | refine Z8v rfl (Z92 rfl Z8z rfl rfl ?_) | refine Zby rfl rfl ?_ | refine Z8v rfl (Zby rfl rfl ?_) | refine Z8w rfl ?_ | refine Z8x rfl ?_ | (refine Z8y ?_; (repeat (first | refine Z9v rfl ?_ | refine Z9w ?_)); refine Z9u ?_) | refine awp_seq ?_ | refine Zbm (fun _ _ => rfl) ?_ | refine Z8h ?_ | refine Zbn (fun _ _ => rfl) ?_ | refine Zbo (fun _ _ => rfl) ?_ | refine Z8f (t := true) rfl (fun _ => ?_) (fun e => by cases e) | refine Z8f (t := false) rfl (fun e => by cases e) (fun _ => ?_)))
      cases hxs : x.sums with
      | false =>
        (repeat (first | refine st_q rfl rfl rfl ?_ | refine Z8v rfl (st_q rfl rfl rfl ?_) | refine Z8w rfl ?_ | refine Z8x rfl ?_))
        (refine Z8y ?_; (repeat (first | refine Z9v rfl ?_ | refine Z9w ?_)); refine Z9u ?_)
        (refine Z8f (t := false) rfl (fun e => by cases e) (fun _ => ?_); refine Zbn (fun _ _ => rfl) ?_)
        (refine Z9y (keep := [3, 4, 5, 6, 7]) ?_; ((repeat (first | refine Z9v rfl ?_ | refine Z9w ?_)); refine Z9u ?_))
        exact spans _ b7 (by simp [Z15s, hxs]) hb7
      | true =>
        (repeat (first | refine st_q rfl rfl rfl ?_ | refine Z8v rfl (st_q rfl rfl rfl ?_) | refine Z92 rfl Z8z rfl rfl ?_ | refine Z8v rfl (Z92 rfl Z8z rfl rfl ?_) | refine Zby rfl rfl ?_ | refine Z8v rfl (Zby rfl rfl ?_) | refine Z8w rfl ?_ | refine Z8x rfl ?_ | (refine Z8y ?_; (repeat (first | refine Z9v rfl ?_ | refine Z9w ?_)); refine Z9u ?_) | refine awp_seq ?_ | refine Zbm (fun _ _ => rfl) ?_ | refine Z8h ?_ | refine Zbn (fun _ _ => rfl) ?_ | refine Zbo (fun _ _ => rfl) ?_ | refine Z8f (t := true) rfl (fun _ => ?_) (fun e => by cases e) | refine Z8f (t := false) rfl (fun e => by cases e) (fun _ => ?_)))
        cases hys : y.sums with
        | false =>
          (refine Z8f (t := false) rfl (fun e => by cases e) (fun _ => ?_); refine Zbn (fun _ _ => rfl) ?_)
          (refine Z9y (keep := [3, 4, 5, 6, 7]) ?_; ((repeat (first | refine Z9v rfl ?_ | refine Z9w ?_)); refine Z9u ?_))
          exact spans _ b7 (by simp [Z15s, hxs, hys]) hb7
        | true =>
          (repeat (first | refine st_q rfl rfl rfl ?_ | refine Z8v rfl (st_q rfl rfl rfl ?_) | refine Z92 rfl Z8z rfl rfl ?_ | refine Z8v rfl (Z92 rfl Z8z rfl rfl ?_) | refine Zby rfl rfl ?_ | refine Z8v rfl (Zby rfl rfl ?_) | refine Z8w rfl ?_ | refine Z8x rfl ?_ | (refine Z8y ?_; (repeat (first | refine Z9v rfl ?_ | refine Z9w ?_)); refine Z9u ?_) | refine awp_seq ?_ | refine Zbm (fun _ _ => rfl) ?_ | refine Z8h ?_ | refine Zbn (fun _ _ => rfl) ?_ | refine Zbo (fun _ _ => rfl) ?_ | refine Z8f (t := true) rfl (fun _ => ?_) (fun e => by cases e) | refine Z8f (t := false) rfl (fun e => by cases e) (fun _ => ?_)))
          (first | refine Z9t rfl ((Zym x.sum y.sum hx hy) _) ?_ | refine Z8v rfl (Z9t rfl ((Zym x.sum y.sum hx hy) _) ?_) | refine Zbw rfl (Zym x.sum y.sum hx hy) ?_ | refine Z8v rfl (Zbw rfl (Zym x.sum y.sum hx hy) ?_))
          (repeat (refine st_q rfl rfl rfl ?_))
          (first | refine Z9a rfl Z8z rfl (by decide) (Z0.fit_iff.1 rfl) (fun h => by cases h) Z9b ?_ | refine Z8v rfl (Z9a rfl Z8z rfl (by decide) (Z0.fit_iff.1 rfl) (fun h => by cases h) Z9b ?_))
          (repeat (refine st_q rfl rfl rfl ?_))
          (first | refine Z9a rfl Z8z rfl (by decide) (Z0.fit_iff.1 rfl) (fun h => by cases h) Z9b ?_ | refine Z8v rfl (Z9a rfl Z8z rfl (by decide) (Z0.fit_iff.1 rfl) (fun h => by cases h) Z9b ?_))
          (refine Z8y ?_; (repeat (first | refine Z9v rfl ?_ | refine Z9w ?_)); refine Z9u ?_)
          exact spans ⟨IntKind.wrap .i64 (x.count + y.count), x.null || y.null, x.has || y.has, x.min, x.max, (addF x.sum y.sum).2, (addF x.sum y.sum).1⟩ b7 (by simp [Z15s, hxs, hys]) hb7
    (repeat (first | refine st_q rfl rfl rfl ?_ | refine Z8v rfl (st_q rfl rfl rfl ?_) | refine Z92 rfl Z8z rfl rfl ?_ | refine Z8v rfl (Z92 rfl Z8z rfl rfl ?_) | refine Zby rfl rfl ?_ | refine Z8v rfl (Zby rfl rfl ?_) | refine Z8w rfl ?_ | refine Z8x rfl ?_ | (refine Z8y ?_; (repeat (first | refine Z9v rfl ?_ | refine Z9w ?_)); refine Z9u ?_) | refine awp_seq ?_ | refine Zbm (fun _ _ => rfl) ?_ | refine Z8h ?_ | refine Zbn (fun _ _ => rfl) ?_ | refine Zbo (fun _ _ => rfl) ?_ | refine Z8f (t := true) rfl (fun _ => ?_) (fun e => by cases e) | refine Z8f (t := false) rfl (fun e => by cases e) (fun _ => ?_)))
    cases hxn : x.null with
    | true =>
      (repeat (first | refine st_q rfl rfl rfl ?_ | refine Z8v rfl (st_q rfl rfl rfl ?_) | refine Z92 rfl Z8z rfl rfl ?_ | refine Z8v rfl (Z92 rfl Z8z rfl rfl ?_) | refine Zby rfl rfl ?_ | refine Z8v rfl (Zby rfl rfl ?_) | refine Z8w rfl ?_ | refine Z8x rfl ?_ | (refine Z8y ?_; (repeat (first | refine Z9v rfl ?_ | refine Z9w ?_)); refine Z9u ?_) | refine awp_seq ?_ | refine Zbm (fun _ _ => rfl) ?_ | refine Z8h ?_ | refine Zbn (fun _ _ => rfl) ?_ | refine Zbo (fun _ _ => rfl) ?_ | refine Z8f (t := true) rfl (fun _ => ?_) (fun e => by cases e) | refine Z8f (t := false) rfl (fun e => by cases e) (fun _ => ?_)))
      cases hxh : x.has with
      | true =>
        (repeat (first | refine st_q rfl rfl rfl ?_ | refine Z8v rfl (st_q rfl rfl rfl ?_) | refine Z92 rfl Z8z rfl rfl ?_ | refine Z8v rfl (Z92 rfl Z8z rfl rfl ?_) | refine Zby rfl rfl ?_ | refine Z8v rfl (Zby rfl rfl ?_) | refine Z8w rfl ?_ | refine Z8x rfl ?_ | (refine Z8y ?_; (repeat (first | refine Z9v rfl ?_ | refine Z9w ?_)); refine Z9u ?_) | refine awp_seq ?_ | refine Zbm (fun _ _ => rfl) ?_ | refine Z8h ?_ | refine Zbn (fun _ _ => rfl) ?_ | refine Zbo (fun _ _ => rfl) ?_ | refine Z8f (t := true) rfl (fun _ => ?_) (fun e => by cases e) | refine Z8f (t := false) rfl (fun e => by cases e) (fun _ => ?_)))
        refine Z9k (by simp [Z0.cells, Z0.one]) fun b7 hb7 => ?_
        (first | refine Z9a rfl Z8z rfl (by decide) (Z0.fit_iff.1 rfl) (fun h => by cases h) Z9b ?_ | refine Z8v rfl (Z9a rfl Z8z rfl (by decide) (Z0.fit_iff.1 rfl) (fun h => by cases h) Z9b ?_))
        (refine Z8y ?_; (repeat (first | refine Z9v rfl ?_ | refine Z9w ?_)); refine Z9u ?_)
        exact sums _ _ b7 (by rw [hxn]; rfl) (by rw [hxh]; rfl) hb7
      | false =>
        (repeat (first | refine st_q rfl rfl rfl ?_ | refine Z8v rfl (st_q rfl rfl rfl ?_) | refine Z92 rfl Z8z rfl rfl ?_ | refine Z8v rfl (Z92 rfl Z8z rfl rfl ?_) | refine Zby rfl rfl ?_ | refine Z8v rfl (Zby rfl rfl ?_) | refine Z8w rfl ?_ | refine Z8x rfl ?_ | (refine Z8y ?_; (repeat (first | refine Z9v rfl ?_ | refine Z9w ?_)); refine Z9u ?_) | refine awp_seq ?_ | refine Zbm (fun _ _ => rfl) ?_ | refine Z8h ?_ | refine Zbn (fun _ _ => rfl) ?_ | refine Zbo (fun _ _ => rfl) ?_ | refine Z8f (t := true) rfl (fun _ => ?_) (fun e => by cases e) | refine Z8f (t := false) rfl (fun e => by cases e) (fun _ => ?_)))
        refine Z9k (by simp [Z0.cells, Z0.one]) fun b7 hb7 => ?_
        (first | refine Z9a rfl Z8z rfl (by decide) (Z0.fit_iff.1 rfl) (fun h => by cases h) Z9b ?_ | refine Z8v rfl (Z9a rfl Z8z rfl (by decide) (Z0.fit_iff.1 rfl) (fun h => by cases h) Z9b ?_))
        (refine Z8y ?_; (repeat (first | refine Z9v rfl ?_ | refine Z9w ?_)); refine Z9u ?_)
        exact sums _ _ b7 (by rw [hxn]; rfl) (by rw [hxh]; rfl) hb7
    | false =>
      (repeat (first | refine st_q rfl rfl rfl ?_ | refine Z8v rfl (st_q rfl rfl rfl ?_) | refine Z92 rfl Z8z rfl rfl ?_ | refine Z8v rfl (Z92 rfl Z8z rfl rfl ?_) | refine Zby rfl rfl ?_ | refine Z8v rfl (Zby rfl rfl ?_) | refine Z8w rfl ?_ | refine Z8x rfl ?_ | (refine Z8y ?_; (repeat (first | refine Z9v rfl ?_ | refine Z9w ?_)); refine Z9u ?_) | refine awp_seq ?_ | refine Zbm (fun _ _ => rfl) ?_ | refine Z8h ?_ | refine Zbn (fun _ _ => rfl) ?_ | refine Zbo (fun _ _ => rfl) ?_ | refine Z8f (t := true) rfl (fun _ => ?_) (fun e => by cases e) | refine Z8f (t := false) rfl (fun e => by cases e) (fun _ => ?_)))
      cases hxh : x.has with
      | true =>
        (repeat (first | refine st_q rfl rfl rfl ?_ | refine Z8v rfl (st_q rfl rfl rfl ?_) | refine Z92 rfl Z8z rfl rfl ?_ | refine Z8v rfl (Z92 rfl Z8z rfl rfl ?_) | refine Zby rfl rfl ?_ | refine Z8v rfl (Zby rfl rfl ?_) | refine Z8w rfl ?_ | refine Z8x rfl ?_ | (refine Z8y ?_; (repeat (first | refine Z9v rfl ?_ | refine Z9w ?_)); refine Z9u ?_) | refine awp_seq ?_ | refine Zbm (fun _ _ => rfl) ?_ | refine Z8h ?_ | refine Zbn (fun _ _ => rfl) ?_ | refine Zbo (fun _ _ => rfl) ?_ | refine Z8f (t := true) rfl (fun _ => ?_) (fun e => by cases e) | refine Z8f (t := false) rfl (fun e => by cases e) (fun _ => ?_)))
        refine Z9k (by simp [Z0.cells, Z0.one]) fun b7 hb7 => ?_
        (first | refine Z9a rfl Z8z rfl (by decide) (Z0.fit_iff.1 rfl) (fun h => by cases h) Z9b ?_ | refine Z8v rfl (Z9a rfl Z8z rfl (by decide) (Z0.fit_iff.1 rfl) (fun h => by cases h) Z9b ?_))
        (refine Z8y ?_; (repeat (first | refine Z9v rfl ?_ | refine Z9w ?_)); refine Z9u ?_)
        exact sums _ _ b7 (by rw [hxn]; rfl) (by rw [hxh]; rfl) hb7
      | false =>
        (repeat (first | refine st_q rfl rfl rfl ?_ | refine Z8v rfl (st_q rfl rfl rfl ?_) | refine Z92 rfl Z8z rfl rfl ?_ | refine Z8v rfl (Z92 rfl Z8z rfl rfl ?_) | refine Zby rfl rfl ?_ | refine Z8v rfl (Zby rfl rfl ?_) | refine Z8w rfl ?_ | refine Z8x rfl ?_ | (refine Z8y ?_; (repeat (first | refine Z9v rfl ?_ | refine Z9w ?_)); refine Z9u ?_) | refine awp_seq ?_ | refine Zbm (fun _ _ => rfl) ?_ | refine Z8h ?_ | refine Zbn (fun _ _ => rfl) ?_ | refine Zbo (fun _ _ => rfl) ?_ | refine Z8f (t := true) rfl (fun _ => ?_) (fun e => by cases e) | refine Z8f (t := false) rfl (fun e => by cases e) (fun _ => ?_)))
        refine Z9k (by simp [Z0.cells, Z0.one]) fun b7 hb7 => ?_
        (first | refine Z9a rfl Z8z rfl (by decide) (Z0.fit_iff.1 rfl) (fun h => by cases h) Z9b ?_ | refine Z8v rfl (Z9a rfl Z8z rfl (by decide) (Z0.fit_iff.1 rfl) (fun h => by cases h) Z9b ?_))
        (refine Z8y ?_; (repeat (first | refine Z9v rfl ?_ | refine Z9w ?_)); refine Z9u ?_)
        exact sums _ _ b7 (by rw [hxn]; rfl) (by rw [hxh]; rfl) hb7
  (refine Z9y (keep := [3, 4, 5, 6]) ?_; ((repeat (first | refine Z9v rfl ?_ | refine Z9w ?_)); refine Z9u ?_))
  exact main _ rfl
end Go.Abs

