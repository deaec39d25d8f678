/- Part K of a proof: merged by program. -/
import Derived.Test.YtgmefkhincnajaaPkG
import Derived.Test.YtgmefkhincnajaaProg
import Derived.KernelRfl
namespace Go.Abs
open Go
def Z139 : List Z2a := [
  ⟨some 6, .mov, [.c (.bool false)], none⟩]
def Z13a : List Z2a := [
  ⟨some 9, .mov, [.t 1], none⟩,
  ⟨some 10, .lens, [.t 9], none⟩,
  ⟨some 11, .mov, [.c (.int .i64 0)], none⟩]
def Z13b : List Z2a := [
  ⟨some 12, (.bin .lss), [.t 11, .t 10], none⟩]
def Z13c : List Z2a := [
  ⟨some 13, (.iad 7), [.t 9, .t 11], none⟩,
  ⟨some 14, (.load true 7), [.t 13], none⟩,
  ⟨some 8, (.alloc (.agg [(.int .i64 0), (.int .i64 0), (.bool false), (.int .i64 0), (.int .i64 0), (.slc 0 [] true), (.slc 0 [] true)])), [], none⟩,
  ⟨none, (.store 7), [.t 8, .t 14], none⟩]
def Z13d : List Z2a := [
  ⟨some 15, .mov, [.t 0], none⟩,
  ⟨some 16, (.fad 0), [.t 8], none⟩,
  ⟨some 17, (.load false 1), [.t 16], none⟩,
  ⟨some 18, (.call Zeh), [.t 15, .t 17], none⟩,
  ⟨some 19, .mov, [.t 18], none⟩,
  ⟨some 20, (.fad 0), [.t 8], some (19, true)⟩,
  ⟨some 21, (.load false 1), [.t 20], some (19, true)⟩,
  ⟨some 22, .mov, [.t 2], some (19, true)⟩,
  ⟨some 23, .lens, [.t 22], some (19, true)⟩,
  ⟨some 24, (.bin .lss), [.t 21, .t 23], some (19, true)⟩,
  ⟨some 25, .pick, [.t 19, .t 24, .c (.bool false)], none⟩,
  ⟨some 26, .mov, [.t 25], none⟩,
  ⟨some 27, .mov, [.t 0], some (26, true)⟩,
  ⟨some 28, (.load true 7), [.t 8], some (26, true)⟩,
  ⟨some 29, .mov, [.t 2], some (26, true)⟩,
  ⟨some 30, (.call Zei), [.t 27, .t 28, .t 29], some (26, true)⟩,
  ⟨some 31, .unot, [.t 30], some (26, true)⟩,
  ⟨some 32, .pick, [.t 26, .t 31, .c (.bool false)], none⟩]
def Z13e : List Z2a := [
  ⟨some 6, .mov, [.c (.bool false)], none⟩]
def Z13f : List Z2a := [
  ⟨some 33, (.bin .add), [.t 11, .c (.int .i64 1)], none⟩,
  ⟨some 11, .mov, [.t 33], none⟩]
def Z13g : Z2b := (.seq (.region Z13b [0, 2, 9, 10, 11, 12]) (.seq (.cond (.t 12) .skip (.exit 0)) (.seq (.block 1 (.seq (.region Z13c [0, 2, 8, 9, 10, 11]) (.seq (.region Z13d [0, 2, 9, 10, 11, 32]) (.cond (.t 32) (.seq (.region Z13e [6]) .ret) .skip)))) (.region Z13f [0, 2, 9, 10, 11]))))
def Z13h : List Z2a := [
  ⟨some 6, .mov, [.c (.bool true)], none⟩]
def Z13i : Z2y := ⟨34, (.seq (.region Z139 [0, 1, 2]) (.seq (.seq (.region Z13a [0, 2, 9, 10, 11]) (.block 0 (.loop Z13g))) (.seq (.region Z13h [6]) .ret))), [.t 6]⟩
def Z13j : List Z2a := [
  ⟨some 5, (.box 5), [.t 2], none⟩,
  ⟨some 6, .mov, [.c (.int .i64 0)], none⟩]
def Z13k : List Z2a := [
  ⟨some 7, .mov, [.c (.int .i64 1)], none⟩]
def Z13l : List Z2a := [
  ⟨some 14, .mov, [.t 1], none⟩,
  ⟨some 15, .lens, [.t 14], none⟩,
  ⟨some 16, .mov, [.c (.int .i64 0)], none⟩]
def Z13m : List Z2a := [
  ⟨some 17, (.bin .lss), [.t 16, .t 15], none⟩]
def Z13n : List Z2a := [
  ⟨some 18, (.iad 7), [.t 14, .t 16], none⟩,
  ⟨some 19, (.load true 7), [.t 18], none⟩,
  ⟨some 9, (.alloc (.agg [(.int .i64 0), (.int .i64 0), (.bool false), (.int .i64 0), (.int .i64 0), (.slc 0 [] true), (.slc 0 [] true)])), [], none⟩,
  ⟨none, (.store 7), [.t 9, .t 19], none⟩]
def Z13o : List Z2a := [
  ⟨some 20, .mov, [.t 0], none⟩,
  ⟨some 21, (.fad 0), [.t 9], none⟩,
  ⟨some 22, (.load false 1), [.t 21], none⟩,
  ⟨some 23, (.call Zeh), [.t 20, .t 22], none⟩,
  ⟨some 24, .unot, [.t 23], none⟩]
def Z13p : List Z2a := [
  ⟨some 6, .mov, [.c (.int .i64 0)], none⟩]
def Z13q : List Z2a := [
  ⟨some 25, .mov, [.t 0], none⟩,
  ⟨some 26, (.fad 0), [.t 9], none⟩,
  ⟨some 27, (.load false 1), [.t 26], none⟩,
  ⟨some 28, (.load true 5), [.t 5], none⟩,
  ⟨some 29, (.call Zek), [.t 25, .t 27, .t 28], none⟩,
  ⟨some 10, (.alloc (.agg [(.bool false), (.int .i64 0), (.int .i64 0), (.slc 0 [] true), (.slc 0 [] true)])), [], none⟩,
  ⟨none, (.store 5), [.t 10, .t 29], none⟩]
def Z13r : List Z2a := [
  ⟨some 11, .mov, [.c (.bool false)], none⟩]
def Z13s : List Z2a := [
  ⟨some 48, (.fad 1), [.t 9], none⟩,
  ⟨some 49, (.load false 1), [.t 48], none⟩,
  ⟨some 50, (.bin .eql), [.t 49, .c (.int .i64 7)], none⟩,
  ⟨some 47, .mov, [.t 50], none⟩]
def Z13t : List Z2a := [
  ⟨some 51, (.fad 0), [.t 10], none⟩,
  ⟨some 52, (.load false 1), [.t 51], none⟩,
  ⟨some 11, .mov, [.t 52], none⟩]
def Z13u : List Z2a := [
  ⟨some 54, (.fad 1), [.t 9], none⟩,
  ⟨some 55, (.load false 1), [.t 54], none⟩,
  ⟨some 56, (.bin .eql), [.t 55, .c (.int .i64 8)], none⟩,
  ⟨some 53, .mov, [.t 56], none⟩]
def Z13v : List Z2a := [
  ⟨some 57, (.fad 0), [.t 10], none⟩,
  ⟨some 58, (.load false 1), [.t 57], none⟩,
  ⟨some 59, .unot, [.t 58], none⟩,
  ⟨some 11, .mov, [.t 59], none⟩]
def Z13w : List Z2a := [
  ⟨some 61, (.fad 0), [.t 10], none⟩,
  ⟨some 62, (.load false 1), [.t 61], none⟩,
  ⟨some 60, .mov, [.t 62], none⟩]
def Z13x : List Z2a := [
  ⟨some 7, .mov, [.c (.int .i64 2)], none⟩]
def Z13y : List Z2a := [
  ⟨some 31, .mov, [.t 0], none⟩,
  ⟨some 32, (.fad 0), [.t 9], none⟩,
  ⟨some 33, (.load false 1), [.t 32], none⟩,
  ⟨some 34, (.iad 8), [.t 31, .t 33], none⟩,
  ⟨some 35, (.load true 8), [.t 34], none⟩,
  ⟨some 36, (.callp Zem), [.t 35], none⟩,
  ⟨some 37, (.load true 5), [.t 10], none⟩,
  ⟨some 38, (.fad 2), [.t 9], none⟩,
  ⟨some 39, (.load true 5), [.t 38], none⟩,
  ⟨some 40, (.call Zel), [.t 36, .t 37, .t 39], none⟩,
  ⟨some 30, .mov, [.t 40], none⟩,
  ⟨some 41, (.ext 0), [.t 30], none⟩,
  ⟨some 42, (.ext 1), [.t 30], none⟩,
  ⟨some 12, .mov, [.t 41], none⟩,
  ⟨some 13, .mov, [.t 42], none⟩]
def Z13z : List Z2a := [
  ⟨some 43, (.fad 1), [.t 9], none⟩,
  ⟨some 44, (.load false 1), [.t 43], none⟩,
  ⟨some 45, .mov, [.t 12], none⟩,
  ⟨some 46, (.call Zen), [.t 44, .t 45], none⟩,
  ⟨some 11, .mov, [.t 46], none⟩]
def Z140 : List Z2a := [
  ⟨some 63, .mov, [.t 11], none⟩,
  ⟨some 64, .unot, [.t 63], none⟩]
def Z141 : List Z2a := [
  ⟨some 6, .mov, [.c (.int .i64 0)], none⟩]
def Z142 : List Z2a := [
  ⟨some 65, (.bin .add), [.t 16, .c (.int .i64 1)], none⟩,
  ⟨some 16, .mov, [.t 65], none⟩]
def Z143 : Z2b := (.seq (.region Z13m [0, 5, 7, 14, 15, 16, 17]) (.seq (.cond (.t 17) .skip (.exit 0)) (.seq (.block 1 (.seq (.region Z13n [0, 5, 7, 9, 14, 15, 16]) (.seq (.seq (.region Z13o [0, 5, 7, 9, 14, 15, 16, 24]) (.cond (.t 24) (.seq (.region Z13p [6]) .ret) .skip)) (.seq (.region Z13q [0, 5, 7, 9, 10, 14, 15, 16]) (.seq (.region Z13r [0, 5, 7, 9, 10, 14, 15, 16]) (.seq (.block 2 (.seq (.region Z13s [0, 5, 7, 9, 10, 14, 15, 16, 47]) (.cond (.t 47) (.region Z13t [0, 5, 7, 11, 14, 15, 16]) (.seq (.region Z13u [0, 5, 7, 9, 10, 14, 15, 16, 53]) (.cond (.t 53) (.region Z13v [0, 5, 7, 11, 14, 15, 16]) (.seq (.region Z13w [0, 5, 7, 9, 10, 14, 15, 16, 60]) (.cond (.t 60) (.seq (.region Z13x [0, 5, 7, 14, 15, 16]) (.exit 1)) (.seq (.region Z13y [0, 5, 7, 9, 12, 14, 15, 16]) (.region Z13z [0, 5, 7, 11, 14, 15, 16]))))))))) (.seq (.region Z140 [0, 5, 7, 14, 15, 16, 64]) (.cond (.t 64) (.seq (.region Z141 [6]) .ret) .skip)))))))) (.region Z142 [0, 5, 7, 14, 15, 16]))))
def Z144 : List Z2a := [
  ⟨some 66, .mov, [.t 7], none⟩,
  ⟨some 6, .mov, [.t 66], none⟩]
def Z145 : Z2y := ⟨67, (.seq (.region Z13j [0, 1, 5]) (.seq (.region Z13k [0, 1, 5, 7]) (.seq (.seq (.region Z13l [0, 5, 7, 14, 15, 16]) (.block 0 (.loop Z143))) (.seq (.region Z144 [6]) .ret)))), [.t 6]⟩
def Z146 : List Z2a := [
  ⟨some 5, (.box 5), [.t 2], none⟩,
  ⟨some 6, (.alloc (.agg [(.bool false), (.int .i64 0), (.int .i64 0), (.slc 0 [] true), (.slc 0 [] true)])), [], none⟩,
  ⟨some 7, .mov, [.c (.bool false)], none⟩]
def Z147 : List Z2a := [
  ⟨some 8, .mov, [.t 0], none⟩,
  ⟨some 9, .mov, [.t 1], none⟩,
  ⟨some 10, (.call Zeh), [.t 8, .t 9], none⟩,
  ⟨some 11, .unot, [.t 10], none⟩]
def Z148 : List Z2a := [
  ⟨some 12, (.bld [(.bool false), (.int .i64 0), (.int .i64 0), (.slc 0 [] true), (.slc 0 [] true)] []), [], none⟩,
  ⟨none, (.store 5), [.t 6, .t 12], none⟩,
  ⟨some 7, .mov, [.c (.bool false)], none⟩]
def Z149 : List Z2a := [
  ⟨some 13, .mov, [.t 0], none⟩,
  ⟨some 14, .mov, [.t 1], none⟩,
  ⟨some 15, (.load true 5), [.t 5], none⟩,
  ⟨some 16, (.call Zek), [.t 13, .t 14, .t 15], none⟩,
  ⟨some 17, (.call Zer), [.t 16], none⟩,
  ⟨none, (.store 5), [.t 6, .t 17], none⟩,
  ⟨some 7, .mov, [.c (.bool true)], none⟩]
def Z14a : Z2y := ⟨18, (.seq (.region Z146 [0, 1, 5, 6]) (.seq (.seq (.region Z147 [0, 1, 5, 6, 11]) (.cond (.t 11) (.seq (.region Z148 [6, 7]) .ret) .skip)) (.seq (.region Z149 [6, 7]) .ret))), [.cell 6 true 5, .t 7]⟩
def Z14b : List Z2a := [
  ⟨some 4, .mov, [.c (.int .i64 0)], none⟩]
def Z14c : List Z2a := [
  ⟨some 8, .mov, [.t 1], none⟩,
  ⟨some 9, .lens, [.t 8], none⟩,
  ⟨some 10, (.bin .gtr), [.t 9, .c (.int .i64 16)], none⟩]
def Z14d : List Z2a := [
  ⟨some 4, .mov, [.c (.int .i64 1)], none⟩]
def Z14e : List Z2a := [
  ⟨some 11, .mov, [.t 1], none⟩,
  ⟨some 12, .lens, [.t 11], none⟩,
  ⟨some 13, .mov, [.c (.int .i64 0)], none⟩]
def Z14f : List Z2a := [
  ⟨some 14, (.bin .lss), [.t 13, .t 12], none⟩]
def Z14g : List Z2a := [
  ⟨some 15, (.iad 7), [.t 11, .t 13], none⟩,
  ⟨some 16, (.load true 7), [.t 15], none⟩,
  ⟨some 6, (.alloc (.agg [(.int .i64 0), (.int .i64 0), (.bool false), (.int .i64 0), (.int .i64 0), (.slc 0 [] true), (.slc 0 [] true)])), [], none⟩,
  ⟨none, (.store 7), [.t 6, .t 16], none⟩]
def Z14h : List Z2a := [
  ⟨some 17, .mov, [.t 0], none⟩,
  ⟨some 18, (.fad 0), [.t 6], none⟩,
  ⟨some 19, (.load false 1), [.t 18], none⟩,
  ⟨some 20, (.call Zeh), [.t 17, .t 19], none⟩,
  ⟨some 21, .unot, [.t 20], none⟩]
def Z14i : List Z2a := [
  ⟨some 4, .mov, [.c (.int .i64 1)], none⟩]
def Z14j : List Z2a := [
  ⟨some 7, .mov, [.c (.bool false)], none⟩]
def Z14k : List Z2a := [
  ⟨some 22, (.fad 1), [.t 6], none⟩,
  ⟨some 23, (.load false 1), [.t 22], none⟩]
def Z14l : List Z2a := [
  ⟨some 25, (.bin .eql), [.t 23, .c (.int .i64 7)], none⟩,
  ⟨some 24, .mov, [.t 25], none⟩]
def Z14m : List Z2a := [
  ⟨some 27, (.bin .eql), [.t 23, .c (.int .i64 8)], none⟩,
  ⟨some 26, .mov, [.t 27], none⟩]
def Z14n : List Z2a := [
  ⟨some 29, (.bin .eql), [.t 23, .c (.int .i64 1)], none⟩,
  ⟨some 28, .mov, [.t 29], none⟩]
def Z14o : List Z2a := [
  ⟨some 30, (.bin .eql), [.t 23, .c (.int .i64 2)], none⟩,
  ⟨some 28, .mov, [.t 30], none⟩]
def Z14p : List Z2a := [
  ⟨some 31, (.bin .eql), [.t 23, .c (.int .i64 3)], none⟩,
  ⟨some 28, .mov, [.t 31], none⟩]
def Z14q : List Z2a := [
  ⟨some 32, (.bin .eql), [.t 23, .c (.int .i64 4)], none⟩,
  ⟨some 28, .mov, [.t 32], none⟩]
def Z14r : List Z2a := [
  ⟨some 33, (.bin .eql), [.t 23, .c (.int .i64 5)], none⟩,
  ⟨some 28, .mov, [.t 33], none⟩]
def Z14s : List Z2a := [
  ⟨some 34, (.bin .eql), [.t 23, .c (.int .i64 6)], none⟩,
  ⟨some 28, .mov, [.t 34], none⟩]
def Z14t : List Z2a := [
  ⟨some 35, (.fad 2), [.t 6], none⟩,
  ⟨some 36, (.load true 5), [.t 35], none⟩,
  ⟨some 37, (.call Zes), [.t 36], none⟩,
  ⟨some 7, .mov, [.t 37], none⟩]
def Z14u : List Z2a := [
  ⟨some 38, (.fad 2), [.t 6], none⟩,
  ⟨some 39, (.fad 0), [.t 38], none⟩,
  ⟨some 40, (.load false 1), [.t 39], none⟩,
  ⟨some 41, .unot, [.t 40], none⟩,
  ⟨some 42, .mov, [.t 41], none⟩,
  ⟨some 43, .mov, [.t 0], some (42, true)⟩,
  ⟨some 44, (.fad 0), [.t 6], some (42, true)⟩,
  ⟨some 45, (.load false 1), [.t 44], some (42, true)⟩,
  ⟨some 46, (.iad 8), [.t 43, .t 45], some (42, true)⟩,
  ⟨some 47, (.load true 8), [.t 46], some (42, true)⟩,
  ⟨some 48, (.callp Zem), [.t 47], some (42, true)⟩,
  ⟨some 49, (.fad 2), [.t 6], some (42, true)⟩,
  ⟨some 50, (.load true 5), [.t 49], some (42, true)⟩,
  ⟨some 51, (.call Zet), [.t 48, .t 50], some (42, true)⟩,
  ⟨some 52, (.bin .eql), [.t 51, .c (.int .i64 0)], some (42, true)⟩,
  ⟨some 53, .pick, [.t 42, .t 52, .c (.bool false)], none⟩,
  ⟨some 7, .mov, [.t 53], none⟩]
def Z14v : List Z2a := [
  ⟨some 54, .mov, [.t 7], none⟩,
  ⟨some 55, .unot, [.t 54], none⟩]
def Z14w : List Z2a := [
  ⟨some 4, .mov, [.c (.int .i64 1)], none⟩]
def Z14x : List Z2a := [
  ⟨some 56, (.bin .add), [.t 13, .c (.int .i64 1)], none⟩,
  ⟨some 13, .mov, [.t 56], none⟩]
def Z14y : Z2b := (.seq (.region Z14f [0, 11, 12, 13, 14]) (.seq (.cond (.t 14) .skip (.exit 0)) (.seq (.block 1 (.seq (.region Z14g [0, 6, 11, 12, 13]) (.seq (.seq (.region Z14h [0, 6, 11, 12, 13, 21]) (.cond (.t 21) (.seq (.region Z14i [4]) .ret) .skip)) (.seq (.region Z14j [0, 6, 7, 11, 12, 13]) (.seq (.seq (.region Z14k [0, 6, 7, 11, 12, 13, 23]) (.block 2 (.seq (.block 5 (.seq (.block 4 (.block 3 (.seq (.seq (.seq (.region Z14l [0, 6, 7, 11, 12, 13, 23, 24]) (.cond (.t 24) (.exit 3) .skip)) (.seq (.seq (.region Z14m [0, 6, 7, 11, 12, 13, 23, 26]) (.cond (.t 26) (.exit 4) .skip)) (.seq (.seq (.region Z14n [0, 6, 7, 11, 12, 13, 23, 28]) (.cond (.t 28) .skip (.seq (.region Z14o [0, 6, 7, 11, 12, 13, 23, 28]) (.cond (.t 28) .skip (.seq (.region Z14p [0, 6, 7, 11, 12, 13, 23, 28]) (.cond (.t 28) .skip (.seq (.region Z14q [0, 6, 7, 11, 12, 13, 23, 28]) (.cond (.t 28) .skip (.seq (.region Z14r [0, 6, 7, 11, 12, 13, 23, 28]) (.cond (.t 28) .skip (.region Z14s [0, 6, 7, 11, 12, 13, 28]))))))))))) (.cond (.t 28) (.exit 5) .skip)))) (.exit 2)))) (.seq (.region Z14t [0, 7, 11, 12, 13]) (.exit 2)))) (.seq (.region Z14u [0, 7, 11, 12, 13]) (.exit 2))))) (.seq (.region Z14v [0, 11, 12, 13, 55]) (.cond (.t 55) (.seq (.region Z14w [4]) .ret) .skip))))))) (.region Z14x [0, 11, 12, 13]))))
def Z14z : List Z2a := [
  ⟨some 4, .mov, [.c (.int .i64 0)], none⟩]
def Z150 : Z2y := ⟨57, (.seq (.region Z14b [0, 1]) (.seq (.seq (.region Z14c [0, 1, 10]) (.cond (.t 10) (.seq (.region Z14d [4]) .ret) .skip)) (.seq (.seq (.region Z14e [0, 11, 12, 13]) (.block 0 (.loop Z14y))) (.seq (.region Z14z [4]) .ret)))), [.t 4]⟩
def Z15c : List Z2a := [
  ⟨some 4, (.box 7), [.t 1], none⟩,
  ⟨some 6, .mov, [.c (.bool false)], none⟩]
def Z15d : List Z2a := [
  ⟨some 11, .mov, [.t 2], none⟩,
  ⟨some 12, (.fad 0), [.t 4], none⟩,
  ⟨some 13, (.load false 1), [.t 12], none⟩,
  ⟨some 14, (.iad 15), [.t 11, .t 13], none⟩,
  ⟨some 15, (.load true 15), [.t 14], none⟩,
  ⟨some 16, .mov, [.t 0], none⟩,
  ⟨some 17, (.fad 0), [.t 4], none⟩,
  ⟨some 18, (.loadp false 1), [.t 17], none⟩,
  ⟨some 19, (.iad 8), [.t 16, .t 18], none⟩,
  ⟨some 20, (.loadp true 8), [.t 19], none⟩,
  ⟨some 7, (.alloc (.agg [(.int .i64 0), (.bool false), (.bool false), (.bool false), (.int .i64 0), (.int .i64 0), (.slc 0 [] true), (.slc 0 [] true), (.bool false), (.int .i64 0), (.int .i64 0), (.slc 0 [] true), (.slc 0 [] true), (.bool false), (.int .i64 0)])), [], none⟩,
  ⟨some 8, (.alloc (.agg [(.int .i64 0), (.slc 0 [] true), (.slc 0 [] true), (.int .i64 0), (.int .i64 0), (.int .i64 0), (.int .i64 0), (.int .i64 0)])), [], none⟩,
  ⟨none, (.store 15), [.t 7, .t 15], none⟩,
  ⟨none, (.store 8), [.t 8, .t 20], none⟩]
def Z15e : List Z2a := [
  ⟨some 22, (.fad 1), [.t 4], none⟩,
  ⟨some 23, (.load false 1), [.t 22], none⟩,
  ⟨some 24, (.bin .eql), [.t 23, .c (.int .i64 7)], none⟩,
  ⟨some 21, .mov, [.t 24], none⟩]
def Z15f : List Z2a := [
  ⟨some 25, (.fad 1), [.t 7], none⟩,
  ⟨some 26, (.load false 1), [.t 25], none⟩,
  ⟨some 27, .mov, [.t 26], none⟩,
  ⟨some 28, (.fad 0), [.t 7], some (27, false)⟩,
  ⟨some 29, (.load false 1), [.t 28], some (27, false)⟩,
  ⟨some 30, .mov, [.t 2], some (27, false)⟩,
  ⟨some 31, (.iad 15), [.t 30, .c (.int .i64 0)], some (27, false)⟩,
  ⟨some 32, (.fad 0), [.t 31], some (27, false)⟩,
  ⟨some 33, (.load false 1), [.t 32], some (27, false)⟩,
  ⟨some 34, (.bin .neq), [.t 29, .t 33], some (27, false)⟩,
  ⟨some 35, .pick, [.t 27, .c (.bool true), .t 34], none⟩,
  ⟨some 6, .mov, [.t 35], none⟩]
def Z15g : List Z2a := [
  ⟨some 37, (.fad 0), [.t 7], none⟩,
  ⟨some 38, (.load false 1), [.t 37], none⟩,
  ⟨some 39, (.bin .eql), [.t 38, .c (.int .i64 0)], none⟩,
  ⟨some 36, .mov, [.t 39], none⟩]
def Z15h : List Z2a := [
  ⟨some 6, .mov, [.c (.bool false)], none⟩]
def Z15i : List Z2a := [
  ⟨some 41, (.fad 1), [.t 4], none⟩,
  ⟨some 42, (.load false 1), [.t 41], none⟩,
  ⟨some 43, (.bin .eql), [.t 42, .c (.int .i64 8)], none⟩,
  ⟨some 40, .mov, [.t 43], none⟩]
def Z15j : List Z2a := [
  ⟨some 6, .mov, [.c (.bool true)], none⟩]
def Z15k : List Z2a := [
  ⟨some 45, (.fad 2), [.t 7], none⟩,
  ⟨some 46, (.load false 1), [.t 45], none⟩,
  ⟨some 44, .mov, [.t 46], none⟩]
def Z15l : List Z2a := [
  ⟨some 47, (.load true 8), [.t 8], none⟩,
  ⟨some 48, (.callp Zem), [.t 47], none⟩,
  ⟨some 49, (.fad 1), [.t 4], none⟩,
  ⟨some 50, (.load false 1), [.t 49], none⟩,
  ⟨some 51, (.fad 2), [.t 4], none⟩,
  ⟨some 52, (.load true 5), [.t 51], none⟩,
  ⟨some 53, (.fad 3), [.t 7], none⟩,
  ⟨some 54, (.load true 5), [.t 53], none⟩,
  ⟨some 55, (.fad 8), [.t 7], none⟩,
  ⟨some 56, (.load true 5), [.t 55], none⟩,
  ⟨some 57, (.call Zfg), [.t 48, .t 50, .t 52, .t 54, .t 56], none⟩,
  ⟨some 58, .unot, [.t 57], none⟩,
  ⟨some 6, .mov, [.t 58], none⟩]
def Z15m : List Z2a := [
  ⟨some 60, (.fad 0), [.t 8], none⟩,
  ⟨some 61, (.load false 1), [.t 60], none⟩,
  ⟨some 62, (.bin .eql), [.t 61, .c (.int .i64 0)], none⟩,
  ⟨some 63, .mov, [.t 62], none⟩,
  ⟨some 64, (.fad 13), [.t 7], some (63, true)⟩,
  ⟨some 65, (.load false 1), [.t 64], some (63, true)⟩,
  ⟨some 66, .pick, [.t 63, .t 65, .c (.bool false)], none⟩,
  ⟨some 59, .mov, [.t 66], none⟩]
def Z15n : List Z2a := [
  ⟨some 67, (.bld [(.bool false), (.int .i64 0), (.int .i64 0), (.slc 0 [] true), (.slc 0 [] true)] []), [], none⟩,
  ⟨some 68, (.bld [(.bool false), (.int .i64 0), (.int .i64 0), (.slc 0 [] true), (.slc 0 [] true)] [(1, 1)]), [.c (.int .i64 1)], none⟩,
  ⟨some 9, (.alloc (.agg [(.bool false), (.int .i64 0), (.int .i64 0), (.slc 0 [] true), (.slc 0 [] true)])), [], none⟩,
  ⟨some 10, (.alloc (.agg [(.bool false), (.int .i64 0), (.int .i64 0), (.slc 0 [] true), (.slc 0 [] true)])), [], none⟩,
  ⟨none, (.store 5), [.t 9, .t 67], none⟩,
  ⟨none, (.store 5), [.t 10, .t 68], none⟩]
def Z15o : List Z2a := [
  ⟨some 69, (.fad 14), [.t 7], none⟩,
  ⟨some 70, (.load false 1), [.t 69], none⟩,
  ⟨some 71, (.fad 0), [.t 7], none⟩,
  ⟨some 72, (.load false 1), [.t 71], none⟩,
  ⟨some 73, (.bin .eql), [.t 70, .t 72], none⟩]
def Z15p : List Z2a := [
  ⟨some 74, (.fad 1), [.t 9], none⟩,
  ⟨none, (.store 1), [.t 74, .c (.int .i64 1)], none⟩]
def Z15q : List Z2a := [
  ⟨some 75, (.fad 14), [.t 7], none⟩,
  ⟨some 76, (.load false 1), [.t 75], none⟩,
  ⟨some 77, (.bin .eql), [.t 76, .c (.int .i64 0)], none⟩]
def Z15r : List Z2a := [
  ⟨some 78, (.fad 1), [.t 10], none⟩,
  ⟨none, (.store 1), [.t 78, .c (.int .i64 0)], none⟩]
def Z15s : List Z2a := [
  ⟨some 79, (.load true 8), [.t 8], none⟩,
  ⟨some 80, (.callp Zem), [.t 79], none⟩,
  ⟨some 81, (.fad 1), [.t 4], none⟩,
  ⟨some 82, (.load false 1), [.t 81], none⟩,
  ⟨some 83, (.fad 2), [.t 4], none⟩,
  ⟨some 84, (.load true 5), [.t 83], none⟩,
  ⟨some 85, (.load true 5), [.t 9], none⟩,
  ⟨some 86, (.load true 5), [.t 10], none⟩,
  ⟨some 87, (.call Zfg), [.t 80, .t 82, .t 84, .t 85, .t 86], none⟩,
  ⟨some 88, .unot, [.t 87], none⟩,
  ⟨some 6, .mov, [.t 88], none⟩]
def Z15t : List Z2a := [
  ⟨some 6, .mov, [.c (.bool true)], none⟩]
def Z15u : Z2y := ⟨89, (.seq (.region Z15c [0, 2, 4]) (.seq (.region Z15d [2, 4, 7, 8]) (.seq (.block 0 (.seq (.region Z15e [2, 4, 7, 8, 21]) (.cond (.t 21) (.seq (.region Z15f [6]) .ret) (.seq (.region Z15g [4, 7, 8, 36]) (.cond (.t 36) (.seq (.region Z15h [6]) .ret) (.seq (.region Z15i [4, 7, 8, 40]) (.cond (.t 40) (.seq (.region Z15j [6]) .ret) (.seq (.region Z15k [4, 7, 8, 44]) (.cond (.t 44) (.seq (.region Z15l [6]) .ret) (.seq (.region Z15m [4, 7, 8, 59]) (.cond (.t 59) (.seq (.region Z15n [4, 7, 8, 9, 10]) (.seq (.seq (.region Z15o [4, 7, 8, 9, 10, 73]) (.cond (.t 73) (.region Z15p [4, 7, 8, 9, 10]) .skip)) (.seq (.seq (.region Z15q [4, 8, 9, 10, 77]) (.cond (.t 77) (.region Z15r [4, 8, 9, 10]) .skip)) (.seq (.region Z15s [6]) .ret)))) .skip))))))))))) (.seq (.region Z15t [6]) .ret)))), [.t 6]⟩
def Z1nv : List Z2a := [
  ⟨some 5, (.box 6), [.t 0], none⟩,
  ⟨some 7, (.box 5), [.t 2], none⟩,
  ⟨some 8, (.box 5), [.t 3], none⟩,
  ⟨some 9, (.box 5), [.t 4], none⟩,
  ⟨some 10, .mov, [.c (.bool false)], none⟩]
def Z1nw : List Z2a := [
  ⟨some 16, (.load true 6), [.t 5], none⟩,
  ⟨some 17, (.load true 5), [.t 7], none⟩,
  ⟨some 18, (.load true 5), [.t 8], none⟩,
  ⟨some 19, (.call Zed), [.t 16, .t 17, .t 18], none⟩,
  ⟨some 15, .mov, [.t 19], none⟩,
  ⟨some 20, (.ext 0), [.t 15], none⟩,
  ⟨some 21, (.ext 1), [.t 15], none⟩,
  ⟨some 11, .mov, [.t 20], none⟩,
  ⟨some 12, .mov, [.t 21], none⟩]
def Z1nx : List Z2a := [
  ⟨some 23, (.load true 6), [.t 5], none⟩,
  ⟨some 24, (.load true 5), [.t 7], none⟩,
  ⟨some 25, (.load true 5), [.t 9], none⟩,
  ⟨some 26, (.call Zed), [.t 23, .t 24, .t 25], none⟩,
  ⟨some 22, .mov, [.t 26], none⟩,
  ⟨some 27, (.ext 0), [.t 22], none⟩,
  ⟨some 28, (.ext 1), [.t 22], none⟩,
  ⟨some 13, .mov, [.t 27], none⟩,
  ⟨some 14, .mov, [.t 28], none⟩]
def Z1ny : List Z2a := [
  ⟨some 29, .mov, [.t 1], none⟩]
def Z1nz : List Z2a := [
  ⟨some 31, (.bin .eql), [.t 29, .c (.int .i64 1)], none⟩,
  ⟨some 30, .mov, [.t 31], none⟩]
def Z1o0 : List Z2a := [
  ⟨some 32, .mov, [.t 11], none⟩,
  ⟨some 33, (.bin .lss), [.t 32, .c (.int .i64 0)], none⟩,
  ⟨some 34, .mov, [.t 33], none⟩,
  ⟨some 35, .mov, [.t 13], some (34, false)⟩,
  ⟨some 36, (.bin .gtr), [.t 35, .c (.int .i64 0)], some (34, false)⟩,
  ⟨some 37, .pick, [.t 34, .c (.bool true), .t 36], none⟩,
  ⟨some 10, .mov, [.t 37], none⟩]
def Z1o1 : List Z2a := [
  ⟨some 39, (.bin .eql), [.t 29, .c (.int .i64 2)], none⟩,
  ⟨some 38, .mov, [.t 39], none⟩]
def Z1o2 : List Z2a := [
  ⟨some 40, .mov, [.t 11], none⟩,
  ⟨some 41, (.bin .eql), [.t 40, .c (.int .i64 0)], none⟩,
  ⟨some 42, .mov, [.t 41], none⟩,
  ⟨some 43, .mov, [.t 13], some (42, true)⟩,
  ⟨some 44, (.bin .eql), [.t 43, .c (.int .i64 0)], some (42, true)⟩,
  ⟨some 45, .pick, [.t 42, .t 44, .c (.bool false)], none⟩,
  ⟨some 10, .mov, [.t 45], none⟩]
def Z1o3 : List Z2a := [
  ⟨some 47, (.bin .eql), [.t 29, .c (.int .i64 3)], none⟩,
  ⟨some 46, .mov, [.t 47], none⟩]
def Z1o4 : List Z2a := [
  ⟨some 48, .mov, [.t 11], none⟩,
  ⟨some 49, (.bin .leq), [.t 48, .c (.int .i64 0)], none⟩,
  ⟨some 10, .mov, [.t 49], none⟩]
def Z1o5 : List Z2a := [
  ⟨some 51, (.bin .eql), [.t 29, .c (.int .i64 4)], none⟩,
  ⟨some 50, .mov, [.t 51], none⟩]
def Z1o6 : List Z2a := [
  ⟨some 52, .mov, [.t 11], none⟩,
  ⟨some 53, (.bin .lss), [.t 52, .c (.int .i64 0)], none⟩,
  ⟨some 10, .mov, [.t 53], none⟩]
def Z1o7 : List Z2a := [
  ⟨some 55, (.bin .eql), [.t 29, .c (.int .i64 5)], none⟩,
  ⟨some 54, .mov, [.t 55], none⟩]
def Z1o8 : List Z2a := [
  ⟨some 56, .mov, [.t 13], none⟩,
  ⟨some 57, (.bin .geq), [.t 56, .c (.int .i64 0)], none⟩,
  ⟨some 10, .mov, [.t 57], none⟩]
def Z1o9 : List Z2a := [
  ⟨some 58, .mov, [.t 13], none⟩,
  ⟨some 59, (.bin .gtr), [.t 58, .c (.int .i64 0)], none⟩,
  ⟨some 10, .mov, [.t 59], none⟩]
def Z1oa : Z2y := ⟨60, (.seq (.region Z1nv [1, 5, 7, 8, 9]) (.seq (.region Z1nw [1, 5, 7, 9, 11]) (.seq (.region Z1nx [1, 11, 13]) (.seq (.seq (.region Z1ny [11, 13, 29]) (.block 0 (.seq (.region Z1nz [11, 13, 29, 30]) (.cond (.t 30) (.seq (.region Z1o0 [10]) .ret) (.seq (.region Z1o1 [11, 13, 29, 38]) (.cond (.t 38) (.seq (.region Z1o2 [10]) .ret) (.seq (.region Z1o3 [11, 13, 29, 46]) (.cond (.t 46) (.seq (.region Z1o4 [10]) .ret) (.seq (.region Z1o5 [11, 13, 29, 50]) (.cond (.t 50) (.seq (.region Z1o6 [10]) .ret) (.seq (.region Z1o7 [13, 54]) (.cond (.t 54) (.seq (.region Z1o8 [10]) .ret) .skip)))))))))))) (.seq (.region Z1o9 [10]) .ret))))), [.t 10]⟩
def Z16o : List Z2a := [
  ⟨some 5, (.box 6), [.t 0], none⟩,
  ⟨some 7, (.box 5), [.t 2], none⟩,
  ⟨some 8, (.box 5), [.t 3], none⟩,
  ⟨some 9, (.box 5), [.t 4], none⟩,
  ⟨some 10, .mov, [.c (.bool false)], none⟩]
def Z16p : List Z2a := [
  ⟨some 16, (.load true 6), [.t 5], none⟩,
  ⟨some 17, (.load true 5), [.t 7], none⟩,
  ⟨some 18, (.load true 5), [.t 8], none⟩,
  ⟨some 19, (.call Zel), [.t 16, .t 17, .t 18], none⟩,
  ⟨some 15, .mov, [.t 19], none⟩,
  ⟨some 20, (.ext 0), [.t 15], none⟩,
  ⟨some 21, (.ext 1), [.t 15], none⟩,
  ⟨some 11, .mov, [.t 20], none⟩,
  ⟨some 12, .mov, [.t 21], none⟩]
def Z16q : List Z2a := [
  ⟨some 23, (.load true 6), [.t 5], none⟩,
  ⟨some 24, (.load true 5), [.t 7], none⟩,
  ⟨some 25, (.load true 5), [.t 9], none⟩,
  ⟨some 26, (.call Zel), [.t 23, .t 24, .t 25], none⟩,
  ⟨some 22, .mov, [.t 26], none⟩,
  ⟨some 27, (.ext 0), [.t 22], none⟩,
  ⟨some 28, (.ext 1), [.t 22], none⟩,
  ⟨some 13, .mov, [.t 27], none⟩,
  ⟨some 14, .mov, [.t 28], none⟩]
def Z16r : List Z2a := [
  ⟨some 29, .mov, [.t 1], none⟩]
def Z16s : List Z2a := [
  ⟨some 31, (.bin .eql), [.t 29, .c (.int .i64 1)], none⟩,
  ⟨some 30, .mov, [.t 31], none⟩]
def Z16t : List Z2a := [
  ⟨some 32, .mov, [.t 11], none⟩,
  ⟨some 33, (.bin .lss), [.t 32, .c (.int .i64 0)], none⟩,
  ⟨some 34, .mov, [.t 33], none⟩,
  ⟨some 35, .mov, [.t 13], some (34, false)⟩,
  ⟨some 36, (.bin .gtr), [.t 35, .c (.int .i64 0)], some (34, false)⟩,
  ⟨some 37, .pick, [.t 34, .c (.bool true), .t 36], none⟩,
  ⟨some 10, .mov, [.t 37], none⟩]
def Z16u : List Z2a := [
  ⟨some 39, (.bin .eql), [.t 29, .c (.int .i64 2)], none⟩,
  ⟨some 38, .mov, [.t 39], none⟩]
def Z16v : List Z2a := [
  ⟨some 40, .mov, [.t 11], none⟩,
  ⟨some 41, (.bin .eql), [.t 40, .c (.int .i64 0)], none⟩,
  ⟨some 42, .mov, [.t 41], none⟩,
  ⟨some 43, .mov, [.t 13], some (42, true)⟩,
  ⟨some 44, (.bin .eql), [.t 43, .c (.int .i64 0)], some (42, true)⟩,
  ⟨some 45, .pick, [.t 42, .t 44, .c (.bool false)], none⟩,
  ⟨some 10, .mov, [.t 45], none⟩]
def Z16w : List Z2a := [
  ⟨some 47, (.bin .eql), [.t 29, .c (.int .i64 3)], none⟩,
  ⟨some 46, .mov, [.t 47], none⟩]
def Z16x : List Z2a := [
  ⟨some 48, .mov, [.t 11], none⟩,
  ⟨some 49, (.bin .leq), [.t 48, .c (.int .i64 0)], none⟩,
  ⟨some 10, .mov, [.t 49], none⟩]
def Z16y : List Z2a := [
  ⟨some 51, (.bin .eql), [.t 29, .c (.int .i64 4)], none⟩,
  ⟨some 50, .mov, [.t 51], none⟩]
def Z16z : List Z2a := [
  ⟨some 52, .mov, [.t 11], none⟩,
  ⟨some 53, (.bin .lss), [.t 52, .c (.int .i64 0)], none⟩,
  ⟨some 10, .mov, [.t 53], none⟩]
def Z170 : List Z2a := [
  ⟨some 55, (.bin .eql), [.t 29, .c (.int .i64 5)], none⟩,
  ⟨some 54, .mov, [.t 55], none⟩]
def Z171 : List Z2a := [
  ⟨some 56, .mov, [.t 13], none⟩,
  ⟨some 57, (.bin .geq), [.t 56, .c (.int .i64 0)], none⟩,
  ⟨some 10, .mov, [.t 57], none⟩]
def Z172 : List Z2a := [
  ⟨some 58, .mov, [.t 13], none⟩,
  ⟨some 59, (.bin .gtr), [.t 58, .c (.int .i64 0)], none⟩,
  ⟨some 10, .mov, [.t 59], none⟩]
def Z173 : Z2y := ⟨60, (.seq (.region Z16o [1, 5, 7, 8, 9]) (.seq (.region Z16p [1, 5, 7, 9, 11]) (.seq (.region Z16q [1, 11, 13]) (.seq (.seq (.region Z16r [11, 13, 29]) (.block 0 (.seq (.region Z16s [11, 13, 29, 30]) (.cond (.t 30) (.seq (.region Z16t [10]) .ret) (.seq (.region Z16u [11, 13, 29, 38]) (.cond (.t 38) (.seq (.region Z16v [10]) .ret) (.seq (.region Z16w [11, 13, 29, 46]) (.cond (.t 46) (.seq (.region Z16x [10]) .ret) (.seq (.region Z16y [11, 13, 29, 50]) (.cond (.t 50) (.seq (.region Z16z [10]) .ret) (.seq (.region Z170 [13, 54]) (.cond (.t 54) (.seq (.region Z171 [10]) .ret) .skip)))))))))))) (.seq (.region Z172 [10]) .ret))))), [.t 10]⟩
def Z1am : List Z2a := [
  ⟨some 2, (.box 5), [.t 0], none⟩,
  ⟨some 3, (.box 5), [.t 1], none⟩,
  ⟨some 4, .mov, [.c (.bool false)], none⟩]
def Z1an : List Z2a := [
  ⟨some 6, (.fad 0), [.t 2], none⟩,
  ⟨some 7, (.load false 1), [.t 6], none⟩,
  ⟨some 8, (.fad 0), [.t 3], none⟩,
  ⟨some 9, (.load false 1), [.t 8], none⟩,
  ⟨some 10, (.binb .neq), [.t 7, .t 9], none⟩,
  ⟨some 11, .mov, [.t 10], none⟩,
  ⟨some 12, (.fad 1), [.t 2], some (11, false)⟩,
  ⟨some 13, (.load false 1), [.t 12], some (11, false)⟩,
  ⟨some 14, (.fad 1), [.t 3], some (11, false)⟩,
  ⟨some 15, (.load false 1), [.t 14], some (11, false)⟩,
  ⟨some 16, (.bin .neq), [.t 13, .t 15], some (11, false)⟩,
  ⟨some 17, .pick, [.t 11, .c (.bool true), .t 16], none⟩,
  ⟨some 18, .mov, [.t 17], none⟩,
  ⟨some 19, (.fad 2), [.t 2], some (18, false)⟩,
  ⟨some 20, (.load false 1), [.t 19], some (18, false)⟩,
  ⟨some 21, (.fad 2), [.t 3], some (18, false)⟩,
  ⟨some 22, (.load false 1), [.t 21], some (18, false)⟩,
  ⟨some 23, (.bin .neq), [.t 20, .t 22], some (18, false)⟩,
  ⟨some 24, .pick, [.t 18, .c (.bool true), .t 23], none⟩,
  ⟨some 25, .mov, [.t 24], none⟩,
  ⟨some 26, (.fad 3), [.t 2], some (25, false)⟩,
  ⟨some 27, (.load false 1), [.t 26], some (25, false)⟩,
  ⟨some 28, .b2s, [.t 27], some (25, false)⟩,
  ⟨some 29, (.fad 3), [.t 3], some (25, false)⟩,
  ⟨some 30, (.load false 1), [.t 29], some (25, false)⟩,
  ⟨some 31, .b2s, [.t 30], some (25, false)⟩,
  ⟨some 32, (.bin .neq), [.t 28, .t 31], some (25, false)⟩,
  ⟨some 33, .pick, [.t 25, .c (.bool true), .t 32], none⟩,
  ⟨some 34, .mov, [.t 33], none⟩,
  ⟨some 35, (.fad 4), [.t 2], some (34, false)⟩,
  ⟨some 36, (.load false 1), [.t 35], some (34, false)⟩,
  ⟨some 37, .lens, [.t 36], some (34, false)⟩,
  ⟨some 38, (.fad 4), [.t 3], some (34, false)⟩,
  ⟨some 39, (.load false 1), [.t 38], some (34, false)⟩,
  ⟨some 40, .lens, [.t 39], some (34, false)⟩,
  ⟨some 41, (.bin .neq), [.t 37, .t 40], some (34, false)⟩,
  ⟨some 42, .pick, [.t 34, .c (.bool true), .t 41], none⟩]
def Z1ao : List Z2a := [
  ⟨some 4, .mov, [.c (.bool false)], none⟩]
def Z1ap : List Z2a := [
  ⟨some 5, .mov, [.c (.int .i64 0)], none⟩]
def Z1aq : List Z2a := [
  ⟨some 43, .mov, [.t 5], none⟩,
  ⟨some 44, (.fad 4), [.t 2], none⟩,
  ⟨some 45, (.load false 1), [.t 44], none⟩,
  ⟨some 46, .lens, [.t 45], none⟩,
  ⟨some 47, (.bin .lss), [.t 43, .t 46], none⟩]
def Z1ar : List Z2a := [
  ⟨some 50, (.fad 4), [.t 2], none⟩,
  ⟨some 51, (.load false 1), [.t 50], none⟩,
  ⟨some 52, .mov, [.t 5], none⟩,
  ⟨some 53, (.iad 5), [.t 51, .t 52], none⟩,
  ⟨some 54, (.load true 5), [.t 53], none⟩,
  ⟨some 55, (.fad 4), [.t 3], none⟩,
  ⟨some 56, (.load false 1), [.t 55], none⟩,
  ⟨some 57, .mov, [.t 5], none⟩,
  ⟨some 58, (.iad 5), [.t 56, .t 57], none⟩,
  ⟨some 59, (.load true 5), [.t 58], none⟩,
  ⟨some 60, (.call Zd2), [.t 54, .t 59], none⟩,
  ⟨some 61, .unot, [.t 60], none⟩]
def Z1as : List Z2a := [
  ⟨some 4, .mov, [.c (.bool false)], none⟩]
def Z1at : List Z2a := [
  ⟨some 48, .mov, [.t 5], none⟩,
  ⟨some 49, (.bin .add), [.t 48, .c (.int .i64 1)], none⟩,
  ⟨some 5, .mov, [.t 49], none⟩]
def Z1au : Z2b := (.seq (.seq (.region Z1aq [2, 3, 5, 47]) (.cond (.t 47) .skip (.exit 0))) (.seq (.block 1 (.seq (.region Z1ar [2, 3, 5, 61]) (.cond (.t 61) (.seq (.region Z1as [4]) .ret) .skip))) (.region Z1at [2, 3, 5])))
def Z1av : List Z2a := [
  ⟨some 4, .mov, [.c (.bool true)], none⟩]
def Z1aw : Z2y := ⟨62, (.seq (.region Z1am [2, 3, 12, 13, 14, 15, 16, 19, 20, 21, 22, 23, 26, 27, 28, 29, 30, 31, 32, 35, 36, 37, 38, 39, 40, 41]) (.seq (.seq (.region Z1an [2, 3, 42]) (.cond (.t 42) (.seq (.region Z1ao [4]) .ret) .skip)) (.seq (.seq (.region Z1ap [2, 3, 5]) (.block 0 (.loop Z1au))) (.seq (.region Z1av [4]) .ret)))), [.t 4]⟩
def Z1ob : List Z2a := [
  ⟨some 3, (.box 6), [.t 0], none⟩,
  ⟨some 4, (.box 5), [.t 1], none⟩,
  ⟨some 5, (.box 5), [.t 2], none⟩,
  ⟨some 6, .mov, [.c (.int .i64 0)], none⟩,
  ⟨some 7, .mov, [.c (.bool false)], none⟩]
def Z1oc : List Z2a := [
  ⟨some 8, (.fad 0), [.t 4], none⟩,
  ⟨some 9, (.load false 1), [.t 8], none⟩,
  ⟨some 10, .mov, [.t 9], none⟩,
  ⟨some 11, (.fad 0), [.t 5], some (10, false)⟩,
  ⟨some 12, (.load false 1), [.t 11], some (10, false)⟩,
  ⟨some 13, .pick, [.t 10, .c (.bool true), .t 12], none⟩,
  ⟨some 14, .mov, [.t 13], none⟩,
  ⟨some 15, (.fad 0), [.t 3], some (14, false)⟩,
  ⟨some 16, (.load false 1), [.t 15], some (14, false)⟩,
  ⟨some 17, (.call Zeb), [.t 16], some (14, false)⟩,
  ⟨some 18, .unot, [.t 17], some (14, false)⟩,
  ⟨some 19, .pick, [.t 14, .c (.bool true), .t 18], none⟩]
def Z1od : List Z2a := [
  ⟨some 6, .mov, [.c (.int .i64 0)], none⟩,
  ⟨some 7, .mov, [.c (.bool false)], none⟩]
def Z1oe : List Z2a := [
  ⟨some 20, (.fad 0), [.t 3], none⟩,
  ⟨some 21, (.load false 1), [.t 20], none⟩,
  ⟨some 22, (.call Zea), [.t 21], none⟩]
def Z1of : List Z2a := [
  ⟨some 24, (.fad 3), [.t 4], none⟩,
  ⟨some 25, (.load false 1), [.t 24], none⟩,
  ⟨some 26, .b2s, [.t 25], none⟩,
  ⟨some 27, (.fad 3), [.t 5], none⟩,
  ⟨some 28, (.load false 1), [.t 27], none⟩,
  ⟨some 29, .b2s, [.t 28], none⟩,
  ⟨some 30, (.bin .lss), [.t 26, .t 29], none⟩,
  ⟨some 23, .mov, [.t 30], none⟩]
def Z1og : List Z2a := [
  ⟨some 6, .mov, [.c (.int .i64 (-1))], none⟩,
  ⟨some 7, .mov, [.c (.bool true)], none⟩]
def Z1oh : List Z2a := [
  ⟨some 32, (.fad 3), [.t 4], none⟩,
  ⟨some 33, (.load false 1), [.t 32], none⟩,
  ⟨some 34, .b2s, [.t 33], none⟩,
  ⟨some 35, (.fad 3), [.t 5], none⟩,
  ⟨some 36, (.load false 1), [.t 35], none⟩,
  ⟨some 37, .b2s, [.t 36], none⟩,
  ⟨some 38, (.bin .gtr), [.t 34, .t 37], none⟩,
  ⟨some 31, .mov, [.t 38], none⟩]
def Z1oi : List Z2a := [
  ⟨some 6, .mov, [.c (.int .i64 1)], none⟩,
  ⟨some 7, .mov, [.c (.bool true)], none⟩]
def Z1oj : List Z2a := [
  ⟨some 6, .mov, [.c (.int .i64 0)], none⟩,
  ⟨some 7, .mov, [.c (.bool true)], none⟩]
def Z1ok : List Z2a := [
  ⟨some 40, (.fad 1), [.t 4], none⟩,
  ⟨some 41, (.load false 1), [.t 40], none⟩,
  ⟨some 42, (.fad 1), [.t 5], none⟩,
  ⟨some 43, (.load false 1), [.t 42], none⟩,
  ⟨some 44, (.bin .lss), [.t 41, .t 43], none⟩,
  ⟨some 45, .mov, [.t 44], none⟩,
  ⟨some 46, (.fad 1), [.t 4], some (45, false)⟩,
  ⟨some 47, (.load false 1), [.t 46], some (45, false)⟩,
  ⟨some 48, (.fad 1), [.t 5], some (45, false)⟩,
  ⟨some 49, (.load false 1), [.t 48], some (45, false)⟩,
  ⟨some 50, (.bin .eql), [.t 47, .t 49], some (45, false)⟩,
  ⟨some 51, .mov, [.t 50], some (45, false)⟩,
  ⟨some 52, (.fad 2), [.t 4], some (51, true)⟩,
  ⟨some 53, (.load false 1), [.t 52], some (51, true)⟩,
  ⟨some 54, (.fad 2), [.t 5], some (51, true)⟩,
  ⟨some 55, (.load false 1), [.t 54], some (51, true)⟩,
  ⟨some 56, (.bin .lss), [.t 53, .t 55], some (51, true)⟩,
  ⟨some 57, .pick, [.t 51, .t 56, .c (.bool false)], some (45, false)⟩,
  ⟨some 58, .pick, [.t 45, .c (.bool true), .t 57], none⟩,
  ⟨some 39, .mov, [.t 58], none⟩]
def Z1ol : List Z2a := [
  ⟨some 6, .mov, [.c (.int .i64 (-1))], none⟩,
  ⟨some 7, .mov, [.c (.bool true)], none⟩]
def Z1om : List Z2a := [
  ⟨some 60, (.fad 1), [.t 4], none⟩,
  ⟨some 61, (.load false 1), [.t 60], none⟩,
  ⟨some 62, (.fad 1), [.t 5], none⟩,
  ⟨some 63, (.load false 1), [.t 62], none⟩,
  ⟨some 64, (.bin .gtr), [.t 61, .t 63], none⟩,
  ⟨some 65, .mov, [.t 64], none⟩,
  ⟨some 66, (.fad 2), [.t 4], some (65, false)⟩,
  ⟨some 67, (.load false 1), [.t 66], some (65, false)⟩,
  ⟨some 68, (.fad 2), [.t 5], some (65, false)⟩,
  ⟨some 69, (.load false 1), [.t 68], some (65, false)⟩,
  ⟨some 70, (.bin .gtr), [.t 67, .t 69], some (65, false)⟩,
  ⟨some 71, .pick, [.t 65, .c (.bool true), .t 70], none⟩,
  ⟨some 59, .mov, [.t 71], none⟩]
def Z1on : List Z2a := [
  ⟨some 6, .mov, [.c (.int .i64 1)], none⟩,
  ⟨some 7, .mov, [.c (.bool true)], none⟩]
def Z1oo : List Z2a := [
  ⟨some 6, .mov, [.c (.int .i64 0)], none⟩,
  ⟨some 7, .mov, [.c (.bool true)], none⟩]
def Z1op : Z2y := ⟨72, (.seq (.region Z1ob [3, 4, 5, 11, 12, 15, 16, 17, 18, 46, 47, 48, 49, 50, 51, 52, 53, 54, 55, 56, 57, 66, 67, 68, 69, 70]) (.seq (.seq (.region Z1oc [3, 4, 5, 19, 46, 47, 48, 49, 50, 51, 52, 53, 54, 55, 56, 57, 66, 67, 68, 69, 70]) (.cond (.t 19) (.seq (.region Z1od [6, 7]) .ret) .skip)) (.seq (.seq (.region Z1oe [4, 5, 22, 46, 47, 48, 49, 50, 51, 52, 53, 54, 55, 56, 57, 66, 67, 68, 69, 70]) (.cond (.t 22) (.seq (.block 0 (.seq (.region Z1of [4, 5, 23]) (.cond (.t 23) (.seq (.region Z1og [6, 7]) .ret) (.seq (.region Z1oh [31]) (.cond (.t 31) (.seq (.region Z1oi [6, 7]) .ret) .skip))))) (.seq (.region Z1oj [6, 7]) .ret)) .skip)) (.seq (.block 1 (.seq (.region Z1ok [4, 5, 39, 66, 67, 68, 69, 70]) (.cond (.t 39) (.seq (.region Z1ol [6, 7]) .ret) (.seq (.region Z1om [59]) (.cond (.t 59) (.seq (.region Z1on [6, 7]) .ret) .skip))))) (.seq (.region Z1oo [6, 7]) .ret))))), [.t 6, .t 7]⟩
end Go.Abs
namespace Go.Abs
open Go Go.Proofs
theorem Z17e : Z2z Try.prog [] Zdb = some Z13i.erase := by kernel_rfl
theorem Z17f : Z2z Try.prog [(9, 5)] Zdd = some Z145.erase := by kernel_rfl
theorem Z17g : Z2z Try.prog [] Zdg = some Z14a.erase := by kernel_rfl
theorem Z17h : Z2z Try.prog [(19, 10)] Zdh = some Z150.erase := by kernel_rfl
theorem Z17j : Z2z Try.prog [(16, 1), (9, 1), (1, 9), (1, 7)] Zei = some Z15u.erase := by kernel_rfl
theorem Z1ot : Z2z Try.prog [] Zej = some Z1oa.erase := by kernel_rfl
theorem Z17o : Z2z Try.prog [] Zfg = some Z173.erase := by kernel_rfl
theorem Z1ay : Z2z Try.prog [] Zd2 = some Z1aw.erase := by kernel_rfl
theorem Z1ou : Z2z Try.prog [] Zed = some Z1op.erase := by kernel_rfl
end Go.Abs
namespace Go.Abs
open Go Go.Proofs
set_option linter.unusedVariables false
set_option linter.unusedSimpArgs false
set_option maxHeartbeats 4000000
attribute [local irreducible] AWp aops KP
def Z17z (k op : Int) (v lo hi : Vl) : Bool :=
  if op = 1 then decide ((cmpV k v lo).1 < 0 ∨ (cmpV k v hi).1 > 0) else if op = 2 then decide ((cmpV k v lo).1 = 0 ∧ (cmpV k v hi).1 = 0)
  else if op = 3 then decide ((cmpV k v lo).1 ≤ 0) else if op = 4 then decide ((cmpV k v lo).1 < 0) else if op = 5 then decide ((cmpV k v hi).1 ≥ 0) else decide ((cmpV k v hi).1 > 0)
theorem Z180 (t : Ty) (op : Int) (v lo hi : Vl) (σ : Zc) : Z1q Try.prog Zfg [encT t, .int .i64 op, encV v, encV lo, encV hi] σ fun r σ' => r = .bool (Z17z t.kind op v lo hi) ∧ σ' = σ := by
  have hone : ∀ c ∈ Zlo t, c.one = true := by
    obtain ⟨k, ns, ks, l, p, s⟩ := t
    intro c hc
    simp only [Zlo, List.mem_cons, List.not_mem_nil, or_false] at hc
    rcases hc with rfl | rfl | rfl | rfl | rfl | rfl <;> rfl
  have hk : (Zlo t)[0]? = some (.int .i64 t.kind) := by obtain ⟨k, ns, ks, l, p, s⟩ := t; rfl
  have h1 := fun τ => Zu9 (Zlo t) t.kind (by obtain ⟨k, ns, ks, l, p, s⟩ := t; rfl) hk hone v lo τ
  have h2 := fun τ => Zu9 (Zlo t) t.kind (by obtain ⟨k, ns, ks, l, p, s⟩ := t; rfl) hk hone v hi τ
  have hn : Z17z t.kind op v lo hi = (if op = 1 then decide ((cmpV t.kind v lo).1 < 0 ∨ (cmpV t.kind v hi).1 > 0) else if op = 2 then decide ((cmpV t.kind v lo).1 = 0 ∧ (cmpV t.kind v hi).1 = 0)
    else if op = 3 then decide ((cmpV t.kind v lo).1 ≤ 0) else if op = 4 then decide ((cmpV t.kind v lo).1 < 0) else if op = 5 then decide ((cmpV t.kind v hi).1 ≥ 0) else decide ((cmpV t.kind v hi).1 > 0)) := rfl
  rw [hn]
  clear hn
  generalize cmpV t.kind v lo = x at *
  generalize cmpV t.kind v hi = y at *
  obtain ⟨a, xa⟩ := x
  obtain ⟨b, yb⟩ := y
  simp only at *
  rw [Zlp]
  simp only [Zm7] at *
  refine Z8t rfl Z17o (Nat.le_of_ble_eq_true rfl) ?_
  refine Z9z ?_
  have h6 : (Z0.agg (Zlo t)).elem 6 := by obtain ⟨k, ns, ks, l, p, s⟩ := t; exact Z0.fit_iff.1 rfl
  refine Z9j rfl h6 fun b1 hb1 => ?_
  (repeat (refine st_q rfl rfl rfl ?_))
  refine Z9j rfl (Z0.fit_iff.1 rfl) fun b2 hb2 => ?_
  refine Z9j rfl (Z0.fit_iff.1 rfl) fun b3 hb3 => ?_
  refine Z9j rfl (Z0.fit_iff.1 rfl) fun b4 hb4 => ?_
  (repeat (refine st_q rfl rfl rfl ?_))
  (refine Z8y ?_; (repeat (first | refine Z9v rfl ?_ | refine Z9w ?_)); refine Z9u ?_)
  refine Zb3 (d := 9) (cs := Zm6 hi) rfl ?_
  (refine Z9y (keep := [1, 5, 7, 8, 9]) ?_; ((repeat (first | refine Z9v rfl ?_ | refine Z9w ?_)); refine Z9u ?_))
  refine Zb3 (d := 8) (cs := Zm6 lo) rfl ?_
  (refine Z9y (keep := [1, 5, 7, 8, 9]) ?_; ((repeat (first | refine Z9v rfl ?_ | refine Z9w ?_)); refine Z9u ?_))
  refine Zb3 (d := 7) (cs := Zm6 v) rfl ?_
  (refine Z9y (keep := [1, 5, 7, 8, 9]) ?_; ((repeat (first | refine Z9v rfl ?_ | refine Z9w ?_)); refine Z9u ?_))
  refine Zb3 (d := 5) (cs := Zlo t) rfl ?_
  (refine Z9y (keep := [1, 5, 7, 8, 9]) ?_; ((repeat (first | refine Z9v rfl ?_ | refine Z9w ?_)); refine Z9u ?_))
  obtain ⟨k, ns, ks, l, p, s⟩ := t
  simp only [Ty.kind] at *
  (repeat (first | refine st_q rfl rfl rfl ?_ | refine awp_seq ?_ | refine Zbm (fun _ _ => rfl) ?_))
  refine Z9t rfl (h1 _) ?_
  (repeat (first | refine st_q rfl rfl rfl ?_ | (refine Z8y ?_; (repeat (first | refine Z9v rfl ?_ | refine Z9w ?_)); refine Z9u ?_) | refine awp_seq ?_ | refine Zbm (fun _ _ => rfl) ?_))
  refine Z9t rfl (h2 _) ?_
  (repeat (first | refine st_q rfl rfl rfl ?_ | (refine Z8y ?_; (repeat (first | refine Z9v rfl ?_ | refine Z9w ?_)); refine Z9u ?_) | refine awp_seq ?_ | refine Zbm (fun _ _ => rfl) ?_ | refine Z8h ?_))
  by_cases q1 : op = 1
  · subst q1
    by_cases g : a < 0
    · (repeat (first | refine st_q rfl rfl rfl ?_ | refine awp_seq ?_ | refine Zbm (fun _ _ => rfl) ?_ | refine Z8f (t := true) rfl (fun _ => ?_) (fun e => by cases e)))
      (rw [show decide (a < 0) = true from decide_eq_true (by omega)])
      (repeat (first | refine st_q rfl rfl rfl ?_ | refine Z8w rfl ?_ | (refine Z8y ?_; (repeat (first | refine Z9v rfl ?_ | refine Z9w ?_)); refine Z9u ?_)))
      refine Z8d ?_
      refine ares rfl (HSub.refl _) ⟨?_, rfl⟩
      change _ = Z0.bool (decide (a < 0 ∨ b > 0))
      rw [show decide (a < 0 ∨ b > 0) = true from decide_eq_true (.inl g)]
      rfl
    · (repeat (first | refine st_q rfl rfl rfl ?_ | refine awp_seq ?_ | refine Zbm (fun _ _ => rfl) ?_ | refine Z8f (t := true) rfl (fun _ => ?_) (fun e => by cases e)))
      (rw [show decide (a < 0) = false from decide_eq_false (by omega)])
      (repeat (first | refine st_q rfl rfl rfl ?_ | refine Z8v rfl (st_q rfl rfl rfl ?_) | (refine Z8y ?_; (repeat (first | refine Z9v rfl ?_ | refine Z9w ?_)); refine Z9u ?_)))
      refine Z8d ?_
      refine ares rfl (HSub.refl _) ⟨?_, rfl⟩
      change _ = Z0.bool (decide (a < 0 ∨ b > 0))
      rw [show decide (a < 0 ∨ b > 0) = decide (b > 0) by simp [g]]
      rfl
  by_cases q2 : op = 2
  · subst q2
    by_cases g : a = 0
    · (repeat (first | refine st_q rfl rfl rfl ?_ | (refine Z8y ?_; (repeat (first | refine Z9v rfl ?_ | refine Z9w ?_)); refine Z9u ?_) | refine awp_seq ?_ | refine Zbm (fun _ _ => rfl) ?_ | refine Z8f (t := true) rfl (fun _ => ?_) (fun e => by cases e) | refine Z8f (t := false) rfl (fun e => by cases e) (fun _ => ?_)))
      (rw [show decide (a = 0) = true from decide_eq_true (by omega)])
      (repeat (first | refine st_q rfl rfl rfl ?_ | refine Z8v rfl (st_q rfl rfl rfl ?_) | (refine Z8y ?_; (repeat (first | refine Z9v rfl ?_ | refine Z9w ?_)); refine Z9u ?_)))
      refine Z8d ?_
      refine ares rfl (HSub.refl _) ⟨?_, rfl⟩
      change _ = Z0.bool (decide (a = 0 ∧ b = 0))
      rw [show decide (a = 0 ∧ b = 0) = decide (b = 0) by simp [g]]
      rfl
    · (repeat (first | refine st_q rfl rfl rfl ?_ | (refine Z8y ?_; (repeat (first | refine Z9v rfl ?_ | refine Z9w ?_)); refine Z9u ?_) | refine awp_seq ?_ | refine Zbm (fun _ _ => rfl) ?_ | refine Z8f (t := true) rfl (fun _ => ?_) (fun e => by cases e) | refine Z8f (t := false) rfl (fun e => by cases e) (fun _ => ?_)))
      (rw [show decide (a = 0) = false from decide_eq_false (by omega)])
      (repeat (first | refine st_q rfl rfl rfl ?_ | refine Z8w rfl ?_ | (refine Z8y ?_; (repeat (first | refine Z9v rfl ?_ | refine Z9w ?_)); refine Z9u ?_)))
      refine Z8d ?_
      refine ares rfl (HSub.refl _) ⟨?_, rfl⟩
      change _ = Z0.bool (decide (a = 0 ∧ b = 0))
      rw [show decide (a = 0 ∧ b = 0) = false by simp [g]]
      rfl
  by_cases q3 : op = 3
  · subst q3; (repeat (first | refine st_q rfl rfl rfl ?_ | (refine Z8y ?_; (repeat (first | refine Z9v rfl ?_ | refine Z9w ?_)); refine Z9u ?_) | refine awp_seq ?_ | refine Zbm (fun _ _ => rfl) ?_ | refine Z8f (t := true) rfl (fun _ => ?_) (fun e => by cases e) | refine Z8f (t := false) rfl (fun e => by cases e) (fun _ => ?_))); refine Z8d ?_; exact ares rfl (HSub.refl _) ⟨rfl, rfl⟩
  by_cases q4 : op = 4
  · subst q4; (repeat (first | refine st_q rfl rfl rfl ?_ | (refine Z8y ?_; (repeat (first | refine Z9v rfl ?_ | refine Z9w ?_)); refine Z9u ?_) | refine awp_seq ?_ | refine Zbm (fun _ _ => rfl) ?_ | refine Z8f (t := true) rfl (fun _ => ?_) (fun e => by cases e) | refine Z8f (t := false) rfl (fun e => by cases e) (fun _ => ?_))); refine Z8d ?_; exact ares rfl (HSub.refl _) ⟨rfl, rfl⟩
  by_cases q5 : op = 5
  · subst q5; (repeat (first | refine st_q rfl rfl rfl ?_ | (refine Z8y ?_; (repeat (first | refine Z9v rfl ?_ | refine Z9w ?_)); refine Z9u ?_) | refine awp_seq ?_ | refine Zbm (fun _ _ => rfl) ?_ | refine Z8f (t := true) rfl (fun _ => ?_) (fun e => by cases e) | refine Z8f (t := false) rfl (fun e => by cases e) (fun _ => ?_))); refine Z8d ?_; exact ares rfl (HSub.refl _) ⟨rfl, rfl⟩
  skip
  rw [decide_eq_false q1]
  (repeat (first | refine st_q rfl rfl rfl ?_ | (refine Z8y ?_; (repeat (first | refine Z9v rfl ?_ | refine Z9w ?_)); refine Z9u ?_) | refine awp_seq ?_ | refine Zbm (fun _ _ => rfl) ?_ | refine Z8f (t := false) rfl (fun e => by cases e) (fun _ => ?_)))
  rw [decide_eq_false q2]
  (repeat (first | refine st_q rfl rfl rfl ?_ | (refine Z8y ?_; (repeat (first | refine Z9v rfl ?_ | refine Z9w ?_)); refine Z9u ?_) | refine awp_seq ?_ | refine Zbm (fun _ _ => rfl) ?_ | refine Z8f (t := false) rfl (fun e => by cases e) (fun _ => ?_)))
  rw [decide_eq_false q3]
  (repeat (first | refine st_q rfl rfl rfl ?_ | (refine Z8y ?_; (repeat (first | refine Z9v rfl ?_ | refine Z9w ?_)); refine Z9u ?_) | refine awp_seq ?_ | refine Zbm (fun _ _ => rfl) ?_ | refine Z8f (t := false) rfl (fun e => by cases e) (fun _ => ?_)))
  rw [decide_eq_false q4]
  (repeat (first | refine st_q rfl rfl rfl ?_ | (refine Z8y ?_; (repeat (first | refine Z9v rfl ?_ | refine Z9w ?_)); refine Z9u ?_) | refine awp_seq ?_ | refine Zbm (fun _ _ => rfl) ?_ | refine Z8f (t := false) rfl (fun e => by cases e) (fun _ => ?_)))
  rw [decide_eq_false q5]
  (repeat (first | refine st_q rfl rfl rfl ?_ | (refine Z8y ?_; (repeat (first | refine Z9v rfl ?_ | refine Z9w ?_)); refine Z9u ?_) | refine awp_seq ?_ | refine Zbm (fun _ _ => rfl) ?_ | refine Zbn (fun _ _ => rfl) ?_ | refine Z8f (t := false) rfl (fun e => by cases e) (fun _ => ?_)))
  refine Z8d ?_
  exact ares rfl (HSub.refl _) ⟨by rw [if_neg q1, if_neg q2, if_neg q3, if_neg q4, if_neg q5]; rfl, rfl⟩
def GetF (l : List Nd) (col : Int) (row : Vl) : Vl × Bool := if goodF l col = true then (getF l (col.toNat + 1) col row, true) else (vl0, false)
theorem Z181 {l : List Nd} {col : Int} (h : goodF l col = true) : 0 ≤ col ∧ col < l.length := by
  apply Classical.byContradiction
  intro hn
  rw [goodF, if_pos (by omega)] at h
  cases h
theorem Z182 : nullV.Cl := .mk (by simp [nullV, Vl.b]) (by simp [nullV, Vl.kids]) (by simp [nullV, Vl.kids])
theorem Z183 {v : Vl} (h : v.Cl) (i : Int) : (stepG v i).Cl := by
  unfold stepG
  split
  · rename_i hc
    cases h with
    | mk _ _ hk =>
      obtain ⟨k, hk1⟩ : ∃ k, v.kids[i.toNat]? = some k := ⟨_, List.getElem?_eq_getElem (by omega)⟩
      rw [List.getD_eq_getElem?_getD, hk1]
      exact hk k (List.mem_of_getElem? hk1)
  · exact Z182
theorem Z184 (l : List Nd) (row : Vl) (hr : row.Cl) : ∀ (f : Nat) (col : Int), (getF l f col row).Cl
  | 0, _ => hr
  | f + 1, col => by
    rw [getF]
    cases l[col.toNat]? with
    | none => exact hr
    | some n =>
      simp only
      split
      · exact hr
      · cases l[n.parent.toNat]? with
        | none => exact hr
        | some q => exact Z183 (Z184 l row hr f n.parent) _
theorem c_Get (l : List Nd) (hw : WfN l) (fl : Bool) (col : Int) (row : Vl) (hr : row.Cl) (σ : Zc) : Z1q Try.prog Zdg [.slc 8 (l.map encN) fl, .int .i64 col, encV row] σ fun r σ' => r = .tup [encV (GetF l col row).1, .bool (GetF l col row).2] ∧ σ' = σ := by
  have hrow := Zm7 row
  have hg := fun τ => Z17w l hw fl col τ
  refine Z8t rfl Z17g (Nat.le_of_ble_eq_true rfl) ?_
  rw [hrow]
  refine Z9z ?_
  refine Z9j rfl (Z0.fit_iff.1 rfl) fun b hb => ?_
  refine Z9k (by simp [Z0.cells, Z0.one]) fun b2 hb2 => ?_
  (repeat (refine st_q rfl rfl rfl ?_))
  (refine Z8y ?_; (repeat (first | refine Z9v rfl ?_ | refine Z9w ?_)); refine Z9u ?_)
  refine Z8a (FSub.refl _) (τ := (b, .cells 5 [.agg (Zm6 row)]) :: (b2, .cells 5 [.agg [.bool false, .int .i64 0, .int .i64 0, .slc 0 [] true, .slc 0 [] true]]) :: σ) (HSub.of_perm (List.Perm.swap _ _ _)) ?_
  refine Zb3 (d := 5) (cs := Zm6 row) rfl ?_
  (repeat (first | refine st_q rfl rfl rfl ?_ | refine awp_seq ?_ | refine Zbm (fun _ _ => rfl) ?_))
  refine Z9t rfl (hg _) ?_
  cases hgd : goodF l col with
  | false =>
    have e : GetF l col row = (vl0, false) := by rw [GetF, hgd]; rfl
    rw [e]
    (repeat (first | refine st_q rfl rfl rfl ?_ | (refine Z8y ?_; (repeat (first | refine Z9v rfl ?_ | refine Z9w ?_)); refine Z9u ?_) | refine awp_seq ?_ | refine Zbm (fun _ _ => rfl) ?_ | refine Z8f (t := true) rfl (fun _ => ?_) (fun e => by cases e)))
    refine Z9a rfl Z8z rfl (by decide) (Z0.fit_iff.1 rfl) (fun h => by cases h) Z9b ?_
    (repeat (refine st_q rfl rfl rfl ?_))
    (refine Z8y ?_; (repeat (first | refine Z9v rfl ?_ | refine Z9w ?_)); refine Z9u ?_)
    refine Zb3 (d := 6) (cs := [.bool false, .int .i64 0, .int .i64 0, .slc 0 [] true, .slc 0 [] true]) rfl ?_
    refine Z8d ?_
    have hv : VRle [.agg [.bool false, .int .i64 0, .int .i64 0, .slc 0 [] true, .slc 0 [] true]] [encV vl0] := by
      rw [vl0, encV]
      (repeat (first | exact VRle.refl _ | exact Zc5 | refine Zc6 rfl rfl ?_ | refine Zc7 rfl ?_ | refine Zc4 ?_ ?_))
    exact Zau rfl (VRle.tup (VRle.cons hv (VRle.refl _))) (HSub.refl _) ⟨rfl, rfl⟩
  | true =>
    obtain ⟨h0, h1⟩ := Z181 hgd
    have e : GetF l col row = (getF l (col.toNat + 1) col row, true) := by rw [GetF, hgd]; rfl
    rw [e]
    have hc := fun τ => c_get l hw fl row (col.toNat + 1) col h0 h1 (by omega) τ
    have hcl := fun τ => Zug _ (Z184 l row hr (col.toNat + 1) col) τ
    generalize getF l (col.toNat + 1) col row = v at hc hcl ⊢
    have hve := Zm7 v
    rw [hrow] at hc
    simp only
    (repeat (first | refine st_q rfl rfl rfl ?_ | (refine Z8y ?_; (repeat (first | refine Z9v rfl ?_ | refine Z9w ?_)); refine Z9u ?_) | refine awp_seq ?_ | refine Zbm (fun _ _ => rfl) ?_ | refine Zbn (fun _ _ => rfl) ?_ | refine Z8f (t := false) rfl (fun e => by cases e) (fun _ => ?_)))
    refine Z9t rfl (hc _) ?_
    refine Z9t rfl (hcl _) ?_
    rw [hve]
    refine Z9a rfl Z8z rfl (by decide) (Z0.fit_iff.1 rfl) (fun h => by cases h) Z9b ?_
    (repeat (refine st_q rfl rfl rfl ?_))
    (refine Z8y ?_; (repeat (first | refine Z9v rfl ?_ | refine Z9w ?_)); refine Z9u ?_)
    refine Zb3 (d := 6) (cs := Zm6 v) rfl ?_
    refine Z8d ?_
    exact ares rfl (HSub.refl _) ⟨rfl, rfl⟩
def mayF (l : List Nd) (t : Tm) (ss : List Stt) : Bool :=
  match l[t.col.toNat]?, ss[t.col.toNat]?, ss[0]? with
  | some n, some x, some z =>
    if t.op = 7 then x.null || decide (x.count ≠ z.count) else if x.count = 0 then false else if t.op = 8 then true
    else if x.has = true then !Z17z n.t.kind t.op t.v x.min x.max
    else if n.t.kind = 0 ∧ x.sums = true then !Z17z n.t.kind t.op t.v (.mk false (if x.sum = x.count then 1 else 0) 0 [] []) (.mk false (if x.sum = 0 then 0 else 1) 0 [] [])
    else true
  | _, _, _ => true
end Go.Abs
namespace Go.Abs
open Go Go.Proofs
set_option linter.unusedVariables false
set_option linter.unusedSimpArgs false
set_option maxHeartbeats 4000000
attribute [local irreducible] AWp aops KP
theorem Z185 {ss : List Stt} {i : Int} {x : Stt} (h : ss[i.toNat]? = some x) : (ss.map encS)[i.toNat]? = some (encS x) := by rw [List.getElem?_map, h]; rfl
theorem Z186 (l : List Nd) (f g : Bool) (t : Tm) (ss : List Stt) (n : Nd) (x z : Stt) (h0 : 0 ≤ t.col) (hn : l[t.col.toNat]? = some n) (hx : ss[t.col.toNat]? = some x) (hz : ss[0]? = some z) (hh : x.has = true) (σ : Zc) :
    Z1q Try.prog Zei [.slc 8 (l.map encN) f, encM t, .slc 15 (ss.map encS) g] σ fun r σ' => r = .bool (mayF l t ss) ∧ σ' = σ := by
  have he : mayF l t ss = (if t.op = 7 then x.null || decide (x.count ≠ z.count) else if x.count = 0 then false else if t.op = 8 then true else !Z17z n.t.kind t.op t.v x.min x.max) := by
    rw [mayF, hn, hx, hz]
    simp only [hh, if_true]
  rw [he]
  clear he
  have hxg := Z185 hx
  have hzg : (ss.map encS)[(0 : Int).toNat]? = some (encS z) := Z185 (i := 0) hz
  have hng := Z17u hn
  obtain ⟨tc, op, tv⟩ := t
  obtain ⟨xc, xn, xh, mn, mx, xs, xsum⟩ := x
  simp only at *
  subst hh
  have hnev := fun τ => Z180 (tyN n) op tv mn mx τ
  have hkn : (tyN n).kind = n.t.kind := rfl
  rw [hkn] at hnev
  simp only [Zm7] at hnev
  generalize Z17z n.t.kind op tv mn mx = nv at hnev ⊢
  refine Z8t rfl Z17j (Nat.le_of_ble_eq_true rfl) ?_
  refine Z9z ?_
  refine Z9j rfl (Z0.fit_iff.1 rfl) fun b1 hb1 => ?_
  (repeat (refine st_q rfl rfl rfl ?_))
  (refine Z8y ?_; (repeat (first | refine Z9v rfl ?_ | refine Z9w ?_)); refine Z9u ?_)
  refine Zb3 (d := 4) (cs := [.int .i64 tc, .int .i64 op, .bool tv.null, .int .i64 tv.i, .int .i64 tv.n, .slc 1 (bytes tv.b) false, .slc 5 (Zm5 tv.kids) false]) rfl ?_
  (refine Z9y (keep := [0, 2, 4]) ?_; ((repeat (first | refine Z9v rfl ?_ | refine Z9w ?_)); refine Z9u ?_))
  (repeat (first | refine st_q rfl rfl rfl ?_ | refine awp_seq ?_ | refine Zbm (fun _ _ => rfl) ?_))
  refine Z93 rfl h0 hxg ?_
  rw [encS, Zxp]
  (repeat refine st_q rfl rfl rfl ?_)
  refine Z93 rfl h0 hng ?_
  rw [encN, Zm2]
  (repeat refine st_q rfl rfl rfl ?_)
  refine Z9k (by simp [Z0.cells, Z0.one]) fun b7 hb7 => ?_
  refine Z9k (by simp [Z0.cells, Z0.one]) fun b8 hb8 => ?_
  have hne : b8 ≠ b7 := fun e => hb8 (by rw [e]; simp [Zh])
  refine Z9a rfl (Z90 hne Z8z) rfl (by decide) (Z0.fit_iff.1 rfl) (fun h => by cases h) (Z9c hne Z9b) ?_
  refine Z9a rfl Z8z rfl (by decide) (Z0.fit_iff.1 rfl) (fun h => by cases h) Z9b ?_
  (repeat (refine st_q rfl rfl rfl ?_))
  (refine Z8y ?_; (repeat (first | refine Z9v rfl ?_ | refine Z9w ?_)); refine Z9u ?_)
  refine Zb3 (d := 8) (cs := Zm2 n) rfl ?_
  (refine Z9y (keep := [2, 4, 7, 8]) ?_; ((repeat (first | refine Z9v rfl ?_ | refine Z9w ?_)); refine Z9u ?_))
  refine Zb3 (d := 7) (cs := Zxp ⟨xc, xn, true, mn, mx, xs, xsum⟩) rfl ?_
  (refine Z9y (keep := [2, 4, 7, 8]) ?_; ((repeat (first | refine Z9v rfl ?_ | refine Z9w ?_)); refine Z9u ?_))
  by_cases q7 : op = 7
  · subst q7
    (repeat (first | refine st_q rfl rfl rfl ?_ | (refine Z8y ?_; (repeat (first | refine Z9v rfl ?_ | refine Z9w ?_)); refine Z9u ?_) | refine awp_seq ?_ | refine Zbm (fun _ _ => rfl) ?_ | refine Z8h ?_ | refine Z8f (t := true) rfl (fun _ => ?_) (fun e => by cases e)))
    cases xn with
    | true =>
      (repeat (first | refine st_q rfl rfl rfl ?_ | refine Z8w rfl ?_ | (refine Z8y ?_; (repeat (first | refine Z9v rfl ?_ | refine Z9w ?_)); refine Z9u ?_)))
      refine Z8d ?_
      exact ares rfl (HSub.refl _) ⟨rfl, rfl⟩
    | false =>
      (repeat refine Z8v rfl (st_q rfl rfl rfl ?_))
      refine Z8v rfl (Z93 rfl (by decide) hzg ?_)
      rw [encS, Zxp]
      (repeat (first | refine st_q rfl rfl rfl ?_ | refine Z8v rfl (st_q rfl rfl rfl ?_) | (refine Z8y ?_; (repeat (first | refine Z9v rfl ?_ | refine Z9w ?_)); refine Z9u ?_)))
      refine Z8d ?_
      exact ares rfl (HSub.refl _) ⟨rfl, rfl⟩
  rw [if_neg q7]
  (repeat (first | refine st_q rfl rfl rfl ?_ | (refine Z8y ?_; (repeat (first | refine Z9v rfl ?_ | refine Z9w ?_)); refine Z9u ?_) | refine awp_seq ?_ | refine Zbm (fun _ _ => rfl) ?_ | refine Z8h ?_))
  (rw [show decide (op = 7) = false from decide_eq_false (by omega)])
  (repeat (first | refine st_q rfl rfl rfl ?_ | (refine Z8y ?_; (repeat (first | refine Z9v rfl ?_ | refine Z9w ?_)); refine Z9u ?_) | refine awp_seq ?_ | refine Zbm (fun _ _ => rfl) ?_ | refine Z8f (t := false) rfl (fun e => by cases e) (fun _ => ?_)))
  by_cases qc : xc = 0
  · rw [if_pos qc]
    (rw [show decide (xc = 0) = true from decide_eq_true (by omega)])
    (repeat (first | refine st_q rfl rfl rfl ?_ | (refine Z8y ?_; (repeat (first | refine Z9v rfl ?_ | refine Z9w ?_)); refine Z9u ?_) | refine awp_seq ?_ | refine Zbm (fun _ _ => rfl) ?_ | refine Z8f (t := true) rfl (fun _ => ?_) (fun e => by cases e)))
    refine Z8d ?_
    exact ares rfl (HSub.refl _) ⟨rfl, rfl⟩
  rw [if_neg qc]
  (rw [show decide (xc = 0) = false from decide_eq_false (by omega)])
  (repeat (first | refine st_q rfl rfl rfl ?_ | (refine Z8y ?_; (repeat (first | refine Z9v rfl ?_ | refine Z9w ?_)); refine Z9u ?_) | refine awp_seq ?_ | refine Zbm (fun _ _ => rfl) ?_ | refine Z8f (t := false) rfl (fun e => by cases e) (fun _ => ?_)))
  by_cases q8 : op = 8
  · rw [if_pos q8]
    (rw [show decide (op = 8) = true from decide_eq_true (by omega)])
    (repeat (first | refine st_q rfl rfl rfl ?_ | (refine Z8y ?_; (repeat (first | refine Z9v rfl ?_ | refine Z9w ?_)); refine Z9u ?_) | refine awp_seq ?_ | refine Zbm (fun _ _ => rfl) ?_ | refine Z8f (t := true) rfl (fun _ => ?_) (fun e => by cases e)))
    refine Z8d ?_
    exact ares rfl (HSub.refl _) ⟨rfl, rfl⟩
  rw [if_neg q8]
  (rw [show decide (op = 8) = false from decide_eq_false (by omega)])
  (repeat (first | refine st_q rfl rfl rfl ?_ | (refine Z8y ?_; (repeat (first | refine Z9v rfl ?_ | refine Z9w ?_)); refine Z9u ?_) | refine awp_seq ?_ | refine Zbm (fun _ _ => rfl) ?_ | refine Z8f (t := true) rfl (fun _ => ?_) (fun e => by cases e) | refine Z8f (t := false) rfl (fun e => by cases e) (fun _ => ?_)))
  refine Zbw rfl (fun τ => c_typ n τ) ?_
  (repeat refine st_q rfl rfl rfl ?_)
  refine Z9t rfl (hnev _) ?_
  (repeat (first | refine st_q rfl rfl rfl ?_ | (refine Z8y ?_; (repeat (first | refine Z9v rfl ?_ | refine Z9w ?_)); refine Z9u ?_)))
  refine Z8d ?_
  exact ares rfl (HSub.refl _) ⟨rfl, rfl⟩
def MayF (l : List Nd) (ss : List Stt) : List Tm → Bool
  | [] => true
  | t :: ts => if goodF l t.col = true ∧ t.col < ss.length ∧ mayF l t ss = false then false else MayF l ss ts
theorem Z187 {p : List Tm} {i : Int} {t : Tm} (h : p[i.toNat]? = some t) : (p.map encM)[i.toNat]? = some (encM t) := by rw [List.getElem?_map, h]; rfl
theorem Z188 (l : List Nd) (hw : WfN l) (f g e : Bool) (p : List Tm) (hp : p.length ≤ 1000000) (ss : List Stt) (hs : ∀ t ∈ p, goodF l t.col = true → ∀ x, ss[t.col.toNat]? = some x → x.has = true) (σ : Zc) :
    Z1q Try.prog Zdb [.slc 8 (l.map encN) f, .slc 7 (p.map encM) e, .slc 15 (ss.map encS) g] σ fun r σ' => r = .bool (MayF l ss p) ∧ σ' = σ := by
  have hpl : (p.map encM).length = p.length := List.length_map ..
  have hsl : (ss.map encS).length = ss.length := List.length_map ..
  refine Z8t rfl Z17e (Nat.le_of_ble_eq_true rfl) ?_
  (repeat (first | refine st_q rfl rfl rfl ?_ | (refine Z8y ?_; (repeat (first | refine Z9v rfl ?_ | refine Z9w ?_)); refine Z9u ?_) | refine awp_seq ?_ | refine Zbm (fun _ _ => rfl) ?_ | refine Z8h ?_))
  rw [hpl]
  refine Zaa (fun m F σ' => ∃ i : Nat, F = fset 0 (some (.slc 8 (l.map encN) f)) (fset 2 (some (.slc 15 (ss.map encS) g)) (fset 9 (some (.slc 7 (p.map encM) e)) (fset 10 (some (.int .i64 p.length)) (fset 11 (some (.int .i64 i)) Z27)))) ∧ σ = σ' ∧ i ≤ p.length ∧ m = p.length - i ∧ MayF l ss (p.drop i) = MayF l ss p) (n := p.length)
    ⟨0, rfl, rfl, by omega, by omega, by simp⟩ ?_
  rintro m F σ' ⟨i, rfl, rfl, hi, rfl, hM⟩
  (repeat (first | refine st_q rfl rfl rfl ?_ | (refine Z8y ?_; (repeat (first | refine Z9v rfl ?_ | refine Z9w ?_)); refine Z9u ?_) | refine awp_seq ?_ | refine Zbm (fun _ _ => rfl) ?_))
  refine Za3 (p := (i : Int) < (p.length : Int)) rfl (fun h3 => ?_) (fun h3 => ?_)
  · have hil : i < p.length := by omega
    have hti : p[i]? = some p[i] := List.getElem?_eq_getElem hil
    have hx := Z187 (i := (i : Int)) (show p[(i : Int).toNat]? = some p[i] from hti)
    rw [List.drop_eq_getElem_cons hil, MayF] at hM
    have hst := hs p[i] (List.getElem_mem hil)
    generalize p[i] = t at hx hM hst
    have hgd := fun τ => Z17w l hw f t.col τ
    have hmy : goodF l t.col = true → t.col < ss.length → ∀ τ, Z1q Try.prog Zei [.slc 8 (l.map encN) f, encM t, .slc 15 (ss.map encS) g] τ fun r σ' => r = .bool (mayF l t ss) ∧ σ' = τ := fun h1 h2 τ => by
      obtain ⟨k0, k1⟩ := Z181 h1
      have hx := List.getElem?_eq_getElem (l := ss) (i := t.col.toNat) (by omega)
      have hz := List.getElem?_eq_getElem (l := ss) (i := 0) (by omega)
      exact Z186 l f g t ss _ _ _ k0 (List.getElem?_eq_getElem (by omega)) hx hz (hst h1 _ hx) τ
    obtain ⟨tc, op, tv⟩ := t
    simp only at *
    rw [encM, Z17q, Zm6] at hx hmy
    simp only at hx hmy
    have next : (goodF l tc = true ∧ tc < ss.length ∧ mayF l ⟨tc, op, tv⟩ ss = false → False) → ∀ (R : Z87), (∀ F τ, R .normal F τ = AWp Try.prog Z13i.n (.region Z13f [0, 2, 9, 10, 11]) (Za9 (fun m F σ' => ∃ i : Nat, F = fset 0 (some (.slc 8 (l.map encN) f)) (fset 2 (some (.slc 15 (ss.map encS) g)) (fset 9 (some (.slc 7 (p.map encM) e)) (fset 10 (some (.int .i64 p.length)) (fset 11 (some (.int .i64 i)) Z27)))) ∧ σ = σ' ∧ i ≤ p.length ∧ m = p.length - i ∧ MayF l ss (p.drop i) = MayF l ss p) (p.length - i)
        (Z8g 0 (Z8e Try.prog Z13i.n (Z13i.code.snd 2) (ARet Z13i.res fun r σ' => r = .bool (MayF l ss p) ∧ σ' = σ)))) F τ) → ∀ t : Bool, t = false → AWp Try.prog Z13i.n (.cond (.t 32) (.seq (.region Z13e [6]) .ret) .skip) R (fset 0 (some (.slc 8 (l.map encN) f)) (fset 2 (some (.slc 15 (ss.map encS) g)) (fset 9 (some (.slc 7 (p.map encM) e)) (fset 10 (some (.int .i64 p.length)) (fset 11 (some (.int .i64 i)) (fset 32 (some (.bool t)) Z27)))))) σ := by
      rintro hno R hR t rfl
      rw [if_neg hno] at hM
      refine Z8f (t := false) rfl (fun e => by cases e) (fun _ => ?_)
      refine Zbn hR ?_
      refine Zbp ?_
      (repeat (refine st_q rfl rfl rfl ?_))
      rw [show IntKind.wrap .i64 ((i : Int) + 1) = ((i + 1 : Nat) : Int) by rw [w64 _ (by omega) (by omega)]; omega]
      (repeat (refine st_q rfl rfl rfl ?_))
      (refine Z8y ?_; (repeat (first | refine Z9v rfl ?_ | refine Z9w ?_)); refine Z9u ?_)
      exact ⟨_, _, HSub.refl _, ⟨i + 1, rfl, rfl, by omega, rfl, hM⟩, by omega⟩
    (repeat (first | refine awp_seq ?_ | refine Zbm (fun _ _ => rfl) ?_ | refine Z8h ?_ | refine Zbn (fun _ _ => rfl) ?_))
    refine Z93 rfl (by omega) hx ?_
    (repeat refine st_q rfl rfl rfl ?_)
    refine Z9k (by simp [Z0.cells, Z0.one]) fun b hb => ?_
    refine Z9a rfl Z8z rfl (by decide) (Z0.fit_iff.1 rfl) (fun h => by cases h) Z9b ?_
    (repeat (refine st_q rfl rfl rfl ?_))
    (refine Z8y ?_; (repeat (first | refine Z9v rfl ?_ | refine Z9w ?_)); refine Z9u ?_)
    refine Zb3 (d := 8) (cs := [.int .i64 tc, .int .i64 op, .bool tv.null, .int .i64 tv.i, .int .i64 tv.n, .slc 1 (bytes tv.b) false, .slc 5 (Zm5 tv.kids) false]) rfl ?_
    (refine Z9y (keep := [0, 2, 8, 9, 10, 11]) ?_; ((repeat (first | refine Z9v rfl ?_ | refine Z9w ?_)); refine Z9u ?_))
    refine awp_seq ?_
    refine Zbm (fun _ _ => rfl) ?_
    (repeat (refine st_q rfl rfl rfl ?_))
    refine Z9t rfl (hgd _) ?_
    cases hgc : goodF l tc with
    | false =>
      (repeat (first | refine st_q rfl rfl rfl ?_ | refine Z8w rfl ?_))
      (refine Z8y ?_; (repeat (first | refine Z9v rfl ?_ | refine Z9w ?_)); refine Z9u ?_)
      exact next (fun h => by rw [hgc] at h; cases h.1) _ (fun _ _ => rfl) _ rfl
    | true =>
      (repeat (first | refine st_q rfl rfl rfl ?_ | refine Z8v rfl (st_q rfl rfl rfl ?_)))
      rw [hsl]
      by_cases hlt : tc < (ss.length : Int)
      · (rw [show decide (tc < (ss.length : Int)) = true from decide_eq_true (by omega)])
        (repeat refine Z8v rfl (st_q rfl rfl rfl ?_))
        refine Z8v rfl (Z9t rfl (hmy hgc hlt _) ?_)
        cases hmm : mayF l ⟨tc, op, tv⟩ ss with
        | false =>
          (repeat (first | refine st_q rfl rfl rfl ?_ | refine Z8v rfl (st_q rfl rfl rfl ?_)))
          (refine Z8y ?_; (repeat (first | refine Z9v rfl ?_ | refine Z9w ?_)); refine Z9u ?_)
          refine Z8f (t := true) rfl (fun _ => ?_) (fun e => by cases e)
          rw [if_pos ⟨hgc, hlt, hmm⟩] at hM
          rw [← hM]
          (repeat (first | refine st_q rfl rfl rfl ?_ | (refine Z8y ?_; (repeat (first | refine Z9v rfl ?_ | refine Z9w ?_)); refine Z9u ?_) | refine awp_seq ?_ | refine Zbm (fun _ _ => rfl) ?_))
          refine Z8d ?_
          exact ares rfl (HSub.refl _) ⟨rfl, rfl⟩
        | true =>
          (repeat (first | refine st_q rfl rfl rfl ?_ | refine Z8v rfl (st_q rfl rfl rfl ?_)))
          (refine Z8y ?_; (repeat (first | refine Z9v rfl ?_ | refine Z9w ?_)); refine Z9u ?_)
          exact next (fun h => by rw [hmm] at h; cases h.2.2) _ (fun _ _ => rfl) _ rfl
      · (rw [show decide (tc < (ss.length : Int)) = false from decide_eq_false (by omega)])
        (repeat (first | refine st_q rfl rfl rfl ?_ | refine Z8w rfl ?_))
        (refine Z8y ?_; (repeat (first | refine Z9v rfl ?_ | refine Z9w ?_)); refine Z9u ?_)
        exact next (fun h => hlt h.2.1) _ (fun _ _ => rfl) _ rfl
  · (repeat (first | refine st_q rfl rfl rfl ?_ | (refine Z8y ?_; (repeat (first | refine Z9v rfl ?_ | refine Z9w ?_)); refine Z9u ?_) | refine awp_seq ?_ | refine Zbm (fun _ _ => rfl) ?_ | refine Zbo (fun _ _ => rfl) ?_))
    have e : p.drop i = [] := List.drop_eq_nil_of_le (by omega)
    rw [e, MayF] at hM
    rw [← hM]
    refine Z8d ?_
    exact ares rfl (HSub.refl _) ⟨rfl, rfl⟩
end Go.Abs
namespace Go.Abs
open Go Go.Proofs
set_option linter.unusedVariables false
set_option linter.unusedSimpArgs false
set_option maxHeartbeats 4000000
attribute [local irreducible] AWp aops KP
theorem c_may (l : List Nd) (f g : Bool) (t : Tm) (ss : List Stt) (n : Nd) (x z : Stt) (h0 : 0 ≤ t.col) (hn : l[t.col.toNat]? = some n) (hx : ss[t.col.toNat]? = some x) (hz : ss[0]? = some z) (σ : Zc) :
    Z1q Try.prog Zei [.slc 8 (l.map encN) f, encM t, .slc 15 (ss.map encS) g] σ fun r σ' => r = .bool (mayF l t ss) ∧ σ' = σ := by
  have he : mayF l t ss = (if t.op = 7 then x.null || decide (x.count ≠ z.count) else if x.count = 0 then false else if t.op = 8 then true else if x.has = true then !Z17z n.t.kind t.op t.v x.min x.max
    else if n.t.kind = 0 ∧ x.sums = true then !Z17z n.t.kind t.op t.v (.mk false (if x.sum = x.count then 1 else 0) 0 [] []) (.mk false (if x.sum = 0 then 0 else 1) 0 [] []) else true) := by
    rw [mayF, hn, hx, hz]
  rw [he]
  clear he
  have hxg := Z185 hx
  have hzg : (ss.map encS)[(0 : Int).toNat]? = some (encS z) := Z185 (i := 0) hz
  have hng := Z17u hn
  obtain ⟨tc, op, tv⟩ := t
  obtain ⟨xc, xn, xh, mn, mx, xs, xsum⟩ := x
  simp only at *
  have hnev := fun τ => Z180 (tyN n) op tv mn mx τ
  have hnev2 := fun τ => Z180 (tyN n) op tv (.mk false (if xsum = xc then 1 else 0) 0 [] []) (.mk false (if xsum = 0 then 0 else 1) 0 [] []) τ
  have hkn : (tyN n).kind = n.t.kind := rfl
  rw [hkn] at hnev hnev2
  simp only [Zm7] at hnev hnev2
  generalize Z17z n.t.kind op tv mn mx = nv at hnev ⊢
  generalize Z17z n.t.kind op tv (.mk false (if xsum = xc then 1 else 0) 0 [] []) (.mk false (if xsum = 0 then 0 else 1) 0 [] []) = nb at hnev2 ⊢
  refine Z8t rfl Z17j (Nat.le_of_ble_eq_true rfl) ?_
  refine Z9z ?_
  refine Z9j rfl (Z0.fit_iff.1 rfl) fun b1 hb1 => ?_
  (repeat (refine st_q rfl rfl rfl ?_))
  (refine Z8y ?_; (repeat (first | refine Z9v rfl ?_ | refine Z9w ?_)); refine Z9u ?_)
  refine Zb3 (d := 4) (cs := [.int .i64 tc, .int .i64 op, .bool tv.null, .int .i64 tv.i, .int .i64 tv.n, .slc 1 (bytes tv.b) false, .slc 5 (Zm5 tv.kids) false]) rfl ?_
  (refine Z9y (keep := [0, 2, 4]) ?_; ((repeat (first | refine Z9v rfl ?_ | refine Z9w ?_)); refine Z9u ?_))
  (repeat (first | refine st_q rfl rfl rfl ?_ | refine awp_seq ?_ | refine Zbm (fun _ _ => rfl) ?_))
  refine Z93 rfl h0 hxg ?_
  rw [encS, Zxp]
  (repeat refine st_q rfl rfl rfl ?_)
  refine Z93 rfl h0 hng ?_
  rw [encN, Zm2]
  (repeat refine st_q rfl rfl rfl ?_)
  refine Z9k (by simp [Z0.cells, Z0.one]) fun b7 hb7 => ?_
  refine Z9k (by simp [Z0.cells, Z0.one]) fun b8 hb8 => ?_
  have hne : b8 ≠ b7 := fun e => hb8 (by rw [e]; simp [Zh])
  refine Z9a rfl (Z90 hne Z8z) rfl (by decide) (Z0.fit_iff.1 rfl) (fun h => by cases h) (Z9c hne Z9b) ?_
  refine Z9a rfl Z8z rfl (by decide) (Z0.fit_iff.1 rfl) (fun h => by cases h) Z9b ?_
  (repeat (refine st_q rfl rfl rfl ?_))
  (refine Z8y ?_; (repeat (first | refine Z9v rfl ?_ | refine Z9w ?_)); refine Z9u ?_)
  refine Zb3 (d := 8) (cs := Zm2 n) rfl ?_
  (refine Z9y (keep := [2, 4, 7, 8]) ?_; ((repeat (first | refine Z9v rfl ?_ | refine Z9w ?_)); refine Z9u ?_))
  refine Zb3 (d := 7) (cs := Zxp ⟨xc, xn, xh, mn, mx, xs, xsum⟩) rfl ?_
  (refine Z9y (keep := [2, 4, 7, 8]) ?_; ((repeat (first | refine Z9v rfl ?_ | refine Z9w ?_)); refine Z9u ?_))
  by_cases q7 : op = 7
  · subst q7
    (repeat (first | refine st_q rfl rfl rfl ?_ | (refine Z8y ?_; (repeat (first | refine Z9v rfl ?_ | refine Z9w ?_)); refine Z9u ?_) | refine awp_seq ?_ | refine Zbm (fun _ _ => rfl) ?_ | refine Z8h ?_ | refine Z8f (t := true) rfl (fun _ => ?_) (fun e => by cases e)))
    cases xn with
    | true =>
      (repeat (first | refine st_q rfl rfl rfl ?_ | refine Z8w rfl ?_ | (refine Z8y ?_; (repeat (first | refine Z9v rfl ?_ | refine Z9w ?_)); refine Z9u ?_)))
      refine Z8d ?_
      exact ares rfl (HSub.refl _) ⟨rfl, rfl⟩
    | false =>
      (repeat refine Z8v rfl (st_q rfl rfl rfl ?_))
      refine Z8v rfl (Z93 rfl (by decide) hzg ?_)
      rw [encS, Zxp]
      (repeat (first | refine st_q rfl rfl rfl ?_ | refine Z8v rfl (st_q rfl rfl rfl ?_) | (refine Z8y ?_; (repeat (first | refine Z9v rfl ?_ | refine Z9w ?_)); refine Z9u ?_)))
      refine Z8d ?_
      exact ares rfl (HSub.refl _) ⟨rfl, rfl⟩
  rw [if_neg q7]
  (repeat (first | refine st_q rfl rfl rfl ?_ | (refine Z8y ?_; (repeat (first | refine Z9v rfl ?_ | refine Z9w ?_)); refine Z9u ?_) | refine awp_seq ?_ | refine Zbm (fun _ _ => rfl) ?_ | refine Z8h ?_))
  (rw [show decide (op = 7) = false from decide_eq_false (by omega)])
  (repeat (first | refine st_q rfl rfl rfl ?_ | (refine Z8y ?_; (repeat (first | refine Z9v rfl ?_ | refine Z9w ?_)); refine Z9u ?_) | refine awp_seq ?_ | refine Zbm (fun _ _ => rfl) ?_ | refine Z8f (t := false) rfl (fun e => by cases e) (fun _ => ?_)))
  by_cases qc : xc = 0
  · rw [if_pos qc]
    (rw [show decide (xc = 0) = true from decide_eq_true (by omega)])
    (repeat (first | refine st_q rfl rfl rfl ?_ | (refine Z8y ?_; (repeat (first | refine Z9v rfl ?_ | refine Z9w ?_)); refine Z9u ?_) | refine awp_seq ?_ | refine Zbm (fun _ _ => rfl) ?_ | refine Z8f (t := true) rfl (fun _ => ?_) (fun e => by cases e)))
    refine Z8d ?_
    exact ares rfl (HSub.refl _) ⟨rfl, rfl⟩
  rw [if_neg qc]
  (rw [show decide (xc = 0) = false from decide_eq_false (by omega)])
  (repeat (first | refine st_q rfl rfl rfl ?_ | (refine Z8y ?_; (repeat (first | refine Z9v rfl ?_ | refine Z9w ?_)); refine Z9u ?_) | refine awp_seq ?_ | refine Zbm (fun _ _ => rfl) ?_ | refine Z8f (t := false) rfl (fun e => by cases e) (fun _ => ?_)))
  by_cases q8 : op = 8
  · rw [if_pos q8]
    (rw [show decide (op = 8) = true from decide_eq_true (by omega)])
    (repeat (first | refine st_q rfl rfl rfl ?_ | (refine Z8y ?_; (repeat (first | refine Z9v rfl ?_ | refine Z9w ?_)); refine Z9u ?_) | refine awp_seq ?_ | refine Zbm (fun _ _ => rfl) ?_ | refine Z8f (t := true) rfl (fun _ => ?_) (fun e => by cases e)))
    refine Z8d ?_
    exact ares rfl (HSub.refl _) ⟨rfl, rfl⟩
  rw [if_neg q8]
  (rw [show decide (op = 8) = false from decide_eq_false (by omega)])
  (repeat (first | refine st_q rfl rfl rfl ?_ | (refine Z8y ?_; (repeat (first | refine Z9v rfl ?_ | refine Z9w ?_)); refine Z9u ?_) | refine awp_seq ?_ | refine Zbm (fun _ _ => rfl) ?_ | refine Z8f (t := false) rfl (fun e => by cases e) (fun _ => ?_)))
  cases xh with
  | true =>
    rw [if_pos rfl]
    (repeat (first | refine st_q rfl rfl rfl ?_ | refine awp_seq ?_ | refine Zbm (fun _ _ => rfl) ?_ | refine Z8f (t := true) rfl (fun _ => ?_) (fun e => by cases e)))
    refine Zbw rfl (fun τ => c_typ n τ) ?_
    (repeat refine st_q rfl rfl rfl ?_)
    refine Z9t rfl (hnev _) ?_
    (repeat (first | refine st_q rfl rfl rfl ?_ | (refine Z8y ?_; (repeat (first | refine Z9v rfl ?_ | refine Z9w ?_)); refine Z9u ?_)))
    refine Z8d ?_
    exact ares rfl (HSub.refl _) ⟨rfl, rfl⟩
  | false =>
    rw [if_neg (by simp)]
    (repeat (first | refine st_q rfl rfl rfl ?_ | refine awp_seq ?_ | refine Zbm (fun _ _ => rfl) ?_ | refine Z8f (t := false) rfl (fun e => by cases e) (fun _ => ?_)))
    by_cases qk : n.t.kind = 0
    rotate_left
    · rw [if_neg (fun h => qk h.1)]
      (rw [show decide (n.t.kind = 0) = false from decide_eq_false (by omega)])
      (repeat (first | refine st_q rfl rfl rfl ?_ | refine Z8w rfl ?_ | (refine Z8y ?_; (repeat (first | refine Z9v rfl ?_ | refine Z9w ?_)); refine Z9u ?_) | refine awp_seq ?_ | refine Zbm (fun _ _ => rfl) ?_ | refine Zbn (fun _ _ => rfl) ?_ | refine Z8f (t := false) rfl (fun e => by cases e) (fun _ => ?_)))
      refine Z8d ?_
      exact ares rfl (HSub.refl _) ⟨rfl, rfl⟩
    (rw [show decide (n.t.kind = 0) = true from decide_eq_true (by omega)])
    cases xs with
    | false =>
      rw [if_neg (by simp)]
      (repeat (first | refine st_q rfl rfl rfl ?_ | refine Z8v rfl (st_q rfl rfl rfl ?_) | (refine Z8y ?_; (repeat (first | refine Z9v rfl ?_ | refine Z9w ?_)); refine Z9u ?_) | refine awp_seq ?_ | refine Zbm (fun _ _ => rfl) ?_ | refine Zbn (fun _ _ => rfl) ?_ | refine Z8f (t := false) rfl (fun e => by cases e) (fun _ => ?_)))
      refine Z8d ?_
      exact ares rfl (HSub.refl _) ⟨rfl, rfl⟩
    | true =>
      rw [if_pos ⟨qk, rfl⟩]
      (repeat (first | refine st_q rfl rfl rfl ?_ | refine Z8v rfl (st_q rfl rfl rfl ?_) | (refine Z8y ?_; (repeat (first | refine Z9v rfl ?_ | refine Z9w ?_)); refine Z9u ?_) | refine awp_seq ?_ | refine Zbm (fun _ _ => rfl) ?_ | refine Z8f (t := true) rfl (fun _ => ?_) (fun e => by cases e)))
      refine Z9k (by simp [Z0.cells, Z0.one]) fun b9 hb9 => ?_
      refine Z9k (by simp [Z0.cells, Z0.one]) fun b10 hb10 => ?_
      have hne : b10 ≠ b9 := fun e => hb10 (by rw [e]; simp [Zh])
      refine Z9a rfl (Z90 hne Z8z) rfl (by decide) (Z0.fit_iff.1 rfl) (fun h => by cases h) (Z9c hne Z9b) ?_
      refine Z9a rfl Z8z rfl (by decide) (Z0.fit_iff.1 rfl) (fun h => by cases h) Z9b ?_
      (repeat (refine st_q rfl rfl rfl ?_))
      (refine Z8y ?_; (repeat (first | refine Z9v rfl ?_ | refine Z9w ?_)); refine Z9u ?_)
      by_cases g1 : xsum = xc <;> by_cases g2 : xsum = 0
      · rw [if_pos g1, if_pos g2] at hnev2
        (repeat (first | refine st_q rfl rfl rfl ?_ | (refine Z8y ?_; (repeat (first | refine Z9v rfl ?_ | refine Z9w ?_)); refine Z9u ?_) | refine awp_seq ?_ | refine Zbm (fun _ _ => rfl) ?_))
        (rw [show decide (xsum = xc) = true from decide_eq_true (by omega)])
        (repeat (first | refine st_q rfl rfl rfl ?_ | refine Zbm (fun _ _ => rfl) ?_ | refine Z8f (t := true) rfl (fun _ => ?_) (fun e => by cases e)))
        refine Z9a rfl (Z90 hne Z8z) rfl (by decide) (Z0.fit_iff.1 rfl) (fun h => by cases h) (Z9c hne Z9b) ?_
        (repeat (first | refine st_q rfl rfl rfl ?_ | (refine Z8y ?_; (repeat (first | refine Z9v rfl ?_ | refine Z9w ?_)); refine Z9u ?_) | refine awp_seq ?_ | refine Zbm (fun _ _ => rfl) ?_))
        (rw [show decide (xsum = 0) = true from decide_eq_true (by omega)])
        (repeat (first | refine st_q rfl rfl rfl ?_ | refine Zbm (fun _ _ => rfl) ?_ | refine Z8f (t := true) rfl (fun _ => ?_) (fun e => by cases e)))
        refine Z9a rfl Z8z rfl (by decide) (Z0.fit_iff.1 rfl) (fun h => by cases h) Z9b ?_
        (repeat (first | refine st_q rfl rfl rfl ?_ | (refine Z8y ?_; (repeat (first | refine Z9v rfl ?_ | refine Z9w ?_)); refine Z9u ?_) | refine awp_seq ?_ | refine Zbm (fun _ _ => rfl) ?_))
        refine Zbw rfl (fun τ => c_typ n τ) ?_
        (repeat (first | refine st_q rfl rfl rfl ?_ | refine Z92 rfl (Z90 hne Z8z) rfl rfl ?_))
        (repeat (first | refine st_q rfl rfl rfl ?_ | refine Z92 rfl Z8z rfl rfl ?_))
        refine Z9t rfl (Z1q.args (by (repeat (first | exact VRle.refl _ | exact Zc5 | refine Zc6 rfl rfl ?_ | refine Zc7 rfl ?_ | refine Zc4 ?_ ?_))) (hnev2 _)) ?_
        (repeat (first | refine st_q rfl rfl rfl ?_ | (refine Z8y ?_; (repeat (first | refine Z9v rfl ?_ | refine Z9w ?_)); refine Z9u ?_)))
        refine Z8d ?_
        exact ares rfl (HSub.of_sublist ((List.sublist_cons_self _ _).trans (List.sublist_cons_self _ _))) ⟨rfl, rfl⟩
      · rw [if_pos g1, if_neg g2] at hnev2
        (repeat (first | refine st_q rfl rfl rfl ?_ | (refine Z8y ?_; (repeat (first | refine Z9v rfl ?_ | refine Z9w ?_)); refine Z9u ?_) | refine awp_seq ?_ | refine Zbm (fun _ _ => rfl) ?_))
        (rw [show decide (xsum = xc) = true from decide_eq_true (by omega)])
        (repeat (first | refine st_q rfl rfl rfl ?_ | refine Zbm (fun _ _ => rfl) ?_ | refine Z8f (t := true) rfl (fun _ => ?_) (fun e => by cases e)))
        refine Z9a rfl (Z90 hne Z8z) rfl (by decide) (Z0.fit_iff.1 rfl) (fun h => by cases h) (Z9c hne Z9b) ?_
        (repeat (first | refine st_q rfl rfl rfl ?_ | (refine Z8y ?_; (repeat (first | refine Z9v rfl ?_ | refine Z9w ?_)); refine Z9u ?_) | refine awp_seq ?_ | refine Zbm (fun _ _ => rfl) ?_))
        (rw [show decide (xsum = 0) = false from decide_eq_false (by omega)])
        (repeat (first | refine st_q rfl rfl rfl ?_ | refine awp_seq ?_ | refine Zbm (fun _ _ => rfl) ?_ | refine Zbn (fun _ _ => rfl) ?_ | refine Z8f (t := false) rfl (fun e => by cases e) (fun _ => ?_)))
        refine Zbw rfl (fun τ => c_typ n τ) ?_
        (repeat (first | refine st_q rfl rfl rfl ?_ | refine Z92 rfl (Z90 hne Z8z) rfl rfl ?_))
        (repeat (first | refine st_q rfl rfl rfl ?_ | refine Z92 rfl Z8z rfl rfl ?_))
        refine Z9t rfl (Z1q.args (by (repeat (first | exact VRle.refl _ | exact Zc5 | refine Zc6 rfl rfl ?_ | refine Zc7 rfl ?_ | refine Zc4 ?_ ?_))) (hnev2 _)) ?_
        (repeat (first | refine st_q rfl rfl rfl ?_ | (refine Z8y ?_; (repeat (first | refine Z9v rfl ?_ | refine Z9w ?_)); refine Z9u ?_)))
        refine Z8d ?_
        exact ares rfl (HSub.of_sublist ((List.sublist_cons_self _ _).trans (List.sublist_cons_self _ _))) ⟨rfl, rfl⟩
      · rw [if_neg g1, if_pos g2] at hnev2
        (repeat (first | refine st_q rfl rfl rfl ?_ | (refine Z8y ?_; (repeat (first | refine Z9v rfl ?_ | refine Z9w ?_)); refine Z9u ?_) | refine awp_seq ?_ | refine Zbm (fun _ _ => rfl) ?_))
        (rw [show decide (xsum = xc) = false from decide_eq_false (by omega)])
        (repeat (first | refine st_q rfl rfl rfl ?_ | (refine Z8y ?_; (repeat (first | refine Z9v rfl ?_ | refine Z9w ?_)); refine Z9u ?_) | refine awp_seq ?_ | refine Zbm (fun _ _ => rfl) ?_ | refine Zbn (fun _ _ => rfl) ?_ | refine Z8f (t := false) rfl (fun e => by cases e) (fun _ => ?_)))
        (rw [show decide (xsum = 0) = true from decide_eq_true (by omega)])
        (repeat (first | refine st_q rfl rfl rfl ?_ | refine Zbm (fun _ _ => rfl) ?_ | refine Z8f (t := true) rfl (fun _ => ?_) (fun e => by cases e)))
        refine Z9a rfl Z8z rfl (by decide) (Z0.fit_iff.1 rfl) (fun h => by cases h) Z9b ?_
        (repeat (first | refine st_q rfl rfl rfl ?_ | (refine Z8y ?_; (repeat (first | refine Z9v rfl ?_ | refine Z9w ?_)); refine Z9u ?_) | refine awp_seq ?_ | refine Zbm (fun _ _ => rfl) ?_))
        refine Zbw rfl (fun τ => c_typ n τ) ?_
        (repeat (first | refine st_q rfl rfl rfl ?_ | refine Z92 rfl (Z90 hne Z8z) rfl rfl ?_))
        (repeat (first | refine st_q rfl rfl rfl ?_ | refine Z92 rfl Z8z rfl rfl ?_))
        refine Z9t rfl (Z1q.args (by (repeat (first | exact VRle.refl _ | exact Zc5 | refine Zc6 rfl rfl ?_ | refine Zc7 rfl ?_ | refine Zc4 ?_ ?_))) (hnev2 _)) ?_
        (repeat (first | refine st_q rfl rfl rfl ?_ | (refine Z8y ?_; (repeat (first | refine Z9v rfl ?_ | refine Z9w ?_)); refine Z9u ?_)))
        refine Z8d ?_
        exact ares rfl (HSub.of_sublist ((List.sublist_cons_self _ _).trans (List.sublist_cons_self _ _))) ⟨rfl, rfl⟩
      · rw [if_neg g1, if_neg g2] at hnev2
        (repeat (first | refine st_q rfl rfl rfl ?_ | (refine Z8y ?_; (repeat (first | refine Z9v rfl ?_ | refine Z9w ?_)); refine Z9u ?_) | refine awp_seq ?_ | refine Zbm (fun _ _ => rfl) ?_))
        (rw [show decide (xsum = xc) = false from decide_eq_false (by omega)])
        (repeat (first | refine st_q rfl rfl rfl ?_ | (refine Z8y ?_; (repeat (first | refine Z9v rfl ?_ | refine Z9w ?_)); refine Z9u ?_) | refine awp_seq ?_ | refine Zbm (fun _ _ => rfl) ?_ | refine Zbn (fun _ _ => rfl) ?_ | refine Z8f (t := false) rfl (fun e => by cases e) (fun _ => ?_)))
        (rw [show decide (xsum = 0) = false from decide_eq_false (by omega)])
        (repeat (first | refine st_q rfl rfl rfl ?_ | refine awp_seq ?_ | refine Zbm (fun _ _ => rfl) ?_ | refine Zbn (fun _ _ => rfl) ?_ | refine Z8f (t := false) rfl (fun e => by cases e) (fun _ => ?_)))
        refine Zbw rfl (fun τ => c_typ n τ) ?_
        (repeat (first | refine st_q rfl rfl rfl ?_ | refine Z92 rfl (Z90 hne Z8z) rfl rfl ?_))
        (repeat (first | refine st_q rfl rfl rfl ?_ | refine Z92 rfl Z8z rfl rfl ?_))
        refine Z9t rfl (Z1q.args (by (repeat (first | exact VRle.refl _ | exact Zc5 | refine Zc6 rfl rfl ?_ | refine Zc7 rfl ?_ | refine Zc4 ?_ ?_))) (hnev2 _)) ?_
        (repeat (first | refine st_q rfl rfl rfl ?_ | (refine Z8y ?_; (repeat (first | refine Z9v rfl ?_ | refine Z9w ?_)); refine Z9u ?_)))
        refine Z8d ?_
        exact ares rfl (HSub.of_sublist ((List.sublist_cons_self _ _).trans (List.sublist_cons_self _ _))) ⟨rfl, rfl⟩
theorem c_May (l : List Nd) (hw : WfN l) (f g e : Bool) (p : List Tm) (hp : p.length ≤ 1000000) (ss : List Stt) (σ : Zc) :
    Z1q Try.prog Zdb [.slc 8 (l.map encN) f, .slc 7 (p.map encM) e, .slc 15 (ss.map encS) g] σ fun r σ' => r = .bool (MayF l ss p) ∧ σ' = σ := by
  have hpl : (p.map encM).length = p.length := List.length_map ..
  have hsl : (ss.map encS).length = ss.length := List.length_map ..
  refine Z8t rfl Z17e (Nat.le_of_ble_eq_true rfl) ?_
  (repeat (first | refine st_q rfl rfl rfl ?_ | (refine Z8y ?_; (repeat (first | refine Z9v rfl ?_ | refine Z9w ?_)); refine Z9u ?_) | refine awp_seq ?_ | refine Zbm (fun _ _ => rfl) ?_ | refine Z8h ?_))
  rw [hpl]
  refine Zaa (fun m F σ' => ∃ i : Nat, F = fset 0 (some (.slc 8 (l.map encN) f)) (fset 2 (some (.slc 15 (ss.map encS) g)) (fset 9 (some (.slc 7 (p.map encM) e)) (fset 10 (some (.int .i64 p.length)) (fset 11 (some (.int .i64 i)) Z27)))) ∧ σ = σ' ∧ i ≤ p.length ∧ m = p.length - i ∧ MayF l ss (p.drop i) = MayF l ss p) (n := p.length)
    ⟨0, rfl, rfl, by omega, by omega, by simp⟩ ?_
  rintro m F σ' ⟨i, rfl, rfl, hi, rfl, hM⟩
  (repeat (first | refine st_q rfl rfl rfl ?_ | (refine Z8y ?_; (repeat (first | refine Z9v rfl ?_ | refine Z9w ?_)); refine Z9u ?_) | refine awp_seq ?_ | refine Zbm (fun _ _ => rfl) ?_))
  refine Za3 (p := (i : Int) < (p.length : Int)) rfl (fun h3 => ?_) (fun h3 => ?_)
  · have hil : i < p.length := by omega
    have hti : p[i]? = some p[i] := List.getElem?_eq_getElem hil
    have hx := Z187 (i := (i : Int)) (show p[(i : Int).toNat]? = some p[i] from hti)
    rw [List.drop_eq_getElem_cons hil, MayF] at hM
    generalize p[i] = t at hx hM
    have hgd := fun τ => Z17w l hw f t.col τ
    have hmy : goodF l t.col = true → t.col < ss.length → ∀ τ, Z1q Try.prog Zei [.slc 8 (l.map encN) f, encM t, .slc 15 (ss.map encS) g] τ fun r σ' => r = .bool (mayF l t ss) ∧ σ' = τ := fun h1 h2 τ => by
      obtain ⟨k0, k1⟩ := Z181 h1
      have hx := List.getElem?_eq_getElem (l := ss) (i := t.col.toNat) (by omega)
      have hz := List.getElem?_eq_getElem (l := ss) (i := 0) (by omega)
      exact c_may l f g t ss _ _ _ k0 (List.getElem?_eq_getElem (by omega)) hx hz τ
    obtain ⟨tc, op, tv⟩ := t
    simp only at *
    rw [encM, Z17q, Zm6] at hx hmy
    simp only at hx hmy
    have next : (goodF l tc = true ∧ tc < ss.length ∧ mayF l ⟨tc, op, tv⟩ ss = false → False) → ∀ (R : Z87), (∀ F τ, R .normal F τ = AWp Try.prog Z13i.n (.region Z13f [0, 2, 9, 10, 11]) (Za9 (fun m F σ' => ∃ i : Nat, F = fset 0 (some (.slc 8 (l.map encN) f)) (fset 2 (some (.slc 15 (ss.map encS) g)) (fset 9 (some (.slc 7 (p.map encM) e)) (fset 10 (some (.int .i64 p.length)) (fset 11 (some (.int .i64 i)) Z27)))) ∧ σ = σ' ∧ i ≤ p.length ∧ m = p.length - i ∧ MayF l ss (p.drop i) = MayF l ss p) (p.length - i)
        (Z8g 0 (Z8e Try.prog Z13i.n (Z13i.code.snd 2) (ARet Z13i.res fun r σ' => r = .bool (MayF l ss p) ∧ σ' = σ)))) F τ) → ∀ t : Bool, t = false → AWp Try.prog Z13i.n (.cond (.t 32) (.seq (.region Z13e [6]) .ret) .skip) R (fset 0 (some (.slc 8 (l.map encN) f)) (fset 2 (some (.slc 15 (ss.map encS) g)) (fset 9 (some (.slc 7 (p.map encM) e)) (fset 10 (some (.int .i64 p.length)) (fset 11 (some (.int .i64 i)) (fset 32 (some (.bool t)) Z27)))))) σ := by
      rintro hno R hR t rfl
      rw [if_neg hno] at hM
      refine Z8f (t := false) rfl (fun e => by cases e) (fun _ => ?_)
      refine Zbn hR ?_
      refine Zbp ?_
      (repeat (refine st_q rfl rfl rfl ?_))
      rw [show IntKind.wrap .i64 ((i : Int) + 1) = ((i + 1 : Nat) : Int) by rw [w64 _ (by omega) (by omega)]; omega]
      (repeat (refine st_q rfl rfl rfl ?_))
      (refine Z8y ?_; (repeat (first | refine Z9v rfl ?_ | refine Z9w ?_)); refine Z9u ?_)
      exact ⟨_, _, HSub.refl _, ⟨i + 1, rfl, rfl, by omega, rfl, hM⟩, by omega⟩
    (repeat (first | refine awp_seq ?_ | refine Zbm (fun _ _ => rfl) ?_ | refine Z8h ?_ | refine Zbn (fun _ _ => rfl) ?_))
    refine Z93 rfl (by omega) hx ?_
    (repeat refine st_q rfl rfl rfl ?_)
    refine Z9k (by simp [Z0.cells, Z0.one]) fun b hb => ?_
    refine Z9a rfl Z8z rfl (by decide) (Z0.fit_iff.1 rfl) (fun h => by cases h) Z9b ?_
    (repeat (refine st_q rfl rfl rfl ?_))
    (refine Z8y ?_; (repeat (first | refine Z9v rfl ?_ | refine Z9w ?_)); refine Z9u ?_)
    refine Zb3 (d := 8) (cs := [.int .i64 tc, .int .i64 op, .bool tv.null, .int .i64 tv.i, .int .i64 tv.n, .slc 1 (bytes tv.b) false, .slc 5 (Zm5 tv.kids) false]) rfl ?_
    (refine Z9y (keep := [0, 2, 8, 9, 10, 11]) ?_; ((repeat (first | refine Z9v rfl ?_ | refine Z9w ?_)); refine Z9u ?_))
    refine awp_seq ?_
    refine Zbm (fun _ _ => rfl) ?_
    (repeat (refine st_q rfl rfl rfl ?_))
    refine Z9t rfl (hgd _) ?_
    cases hgc : goodF l tc with
    | false =>
      (repeat (first | refine st_q rfl rfl rfl ?_ | refine Z8w rfl ?_))
      (refine Z8y ?_; (repeat (first | refine Z9v rfl ?_ | refine Z9w ?_)); refine Z9u ?_)
      exact next (fun h => by rw [hgc] at h; cases h.1) _ (fun _ _ => rfl) _ rfl
    | true =>
      (repeat (first | refine st_q rfl rfl rfl ?_ | refine Z8v rfl (st_q rfl rfl rfl ?_)))
      rw [hsl]
      by_cases hlt : tc < (ss.length : Int)
      · (rw [show decide (tc < (ss.length : Int)) = true from decide_eq_true (by omega)])
        (repeat refine Z8v rfl (st_q rfl rfl rfl ?_))
        refine Z8v rfl (Z9t rfl (hmy hgc hlt _) ?_)
        cases hmm : mayF l ⟨tc, op, tv⟩ ss with
        | false =>
          (repeat (first | refine st_q rfl rfl rfl ?_ | refine Z8v rfl (st_q rfl rfl rfl ?_)))
          (refine Z8y ?_; (repeat (first | refine Z9v rfl ?_ | refine Z9w ?_)); refine Z9u ?_)
          refine Z8f (t := true) rfl (fun _ => ?_) (fun e => by cases e)
          rw [if_pos ⟨hgc, hlt, hmm⟩] at hM
          rw [← hM]
          (repeat (first | refine st_q rfl rfl rfl ?_ | (refine Z8y ?_; (repeat (first | refine Z9v rfl ?_ | refine Z9w ?_)); refine Z9u ?_) | refine awp_seq ?_ | refine Zbm (fun _ _ => rfl) ?_))
          refine Z8d ?_
          exact ares rfl (HSub.refl _) ⟨rfl, rfl⟩
        | true =>
          (repeat (first | refine st_q rfl rfl rfl ?_ | refine Z8v rfl (st_q rfl rfl rfl ?_)))
          (refine Z8y ?_; (repeat (first | refine Z9v rfl ?_ | refine Z9w ?_)); refine Z9u ?_)
          exact next (fun h => by rw [hmm] at h; cases h.2.2) _ (fun _ _ => rfl) _ rfl
      · (rw [show decide (tc < (ss.length : Int)) = false from decide_eq_false (by omega)])
        (repeat (first | refine st_q rfl rfl rfl ?_ | refine Z8w rfl ?_))
        (refine Z8y ?_; (repeat (first | refine Z9v rfl ?_ | refine Z9w ?_)); refine Z9u ?_)
        exact next (fun h => hlt h.2.1) _ (fun _ _ => rfl) _ rfl
  · (repeat (first | refine st_q rfl rfl rfl ?_ | (refine Z8y ?_; (repeat (first | refine Z9v rfl ?_ | refine Z9w ?_)); refine Z9u ?_) | refine awp_seq ?_ | refine Zbm (fun _ _ => rfl) ?_ | refine Zbo (fun _ _ => rfl) ?_))
    have e : p.drop i = [] := List.drop_eq_nil_of_le (by omega)
    rw [e, MayF] at hM
    rw [← hM]
    refine Z8d ?_
    exact ares rfl (HSub.refl _) ⟨rfl, rfl⟩
end Go.Abs
namespace Go.Abs
open Go Go.Proofs
set_option linter.unusedVariables false
set_option linter.unusedSimpArgs false
set_option maxHeartbeats 4000000
attribute [local irreducible] AWp aops KP
mutual
def Z1az : Vl → Vl → Bool
  | .mk nu i n b ks, w => (nu == w.null) && (decide (i = w.i) && (decide (n = w.n) && (decide (b = w.b) && (decide (ks.length = w.kids.length) && Z1b0 ks w.kids))))
def Z1b0 : List Vl → List Vl → Bool
  | [], _ => true
  | v :: vs, ws => Z1az v (ws.getD 0 default) && Z1b0 vs (ws.drop 1)
end
theorem Z1b2 : ∀ (ks ws : List Vl) (j : Nat) (v w : Vl), ks[j]? = some v → ws[j]? = some w → Z1b0 (ks.drop j) (ws.drop j) = (Z1az v w && Z1b0 (ks.drop (j + 1)) (ws.drop (j + 1))) := by
  intro ks ws j v w h1 h2
  obtain ⟨h1', rfl⟩ := List.getElem?_eq_some_iff.1 h1
  obtain ⟨h2', rfl⟩ := List.getElem?_eq_some_iff.1 h2
  rw [List.drop_eq_getElem_cons h1', Z1b0, List.drop_eq_getElem_cons h2']
  simp [h2']
theorem Z1b3 : ∀ (a : Vl), a.Fit → ∀ (b : Vl) (σ : Zc), Z1q Try.prog Zd2 [encV a, encV b] σ fun r σ' => r = .bool (Z1az a b) ∧ σ' = σ := by
  refine Vl.ind fun nu i n bs ks ih hf b σ => ?_
  cases hf with
  | mk _ hb hk hks =>
  have hk : ks.length ≤ 9223372036854775807 := hk
  rw [Zm7, Zm7]
  obtain ⟨bn, bi, b_n, bb, bk⟩ := b
  refine Z8t rfl Z1ay (Nat.le_of_ble_eq_true rfl) ?_
  refine Z9z ?_
  refine Z9j rfl (Z0.fit_iff.1 rfl) fun b2 hb2 => ?_
  refine Z9j rfl (Z0.fit_iff.1 rfl) fun b3 hb3 => ?_
  (repeat (refine st_q rfl rfl rfl ?_))
  (refine Z8y ?_; (repeat (first | refine Z9v rfl ?_ | refine Z9w ?_)); refine Z9u ?_)
  refine Zb3 (d := 3) (cs := [.bool bn, .int .i64 bi, .int .i64 b_n, .slc 1 (bytes bb) false, .slc 5 (Zm5 bk) false]) rfl ?_
  refine Zb3 (d := 2) (cs := [.bool nu, .int .i64 i, .int .i64 n, .slc 1 (bytes bs) false, .slc 5 (Zm5 ks) false]) rfl ?_
  generalize hX : Z1az (.mk nu i n bs ks) (.mk bn bi b_n bb bk) = X
  simp only [Z1az, Vl.null, Vl.i, Vl.n, Vl.b, Vl.kids] at hX
  have eL : ∀ l : List Vl, (Zm5 l).length = l.length := Zm9
  cases q0 : (nu == bn) with
  | false =>
    have q0' : (!(nu == bn)) = true := by rw [q0]; rfl
    (repeat (first | refine st_q rfl rfl rfl ?_ | refine awp_seq ?_ | refine Zbm (fun _ _ => rfl) ?_))
    rw [q0']
    (repeat (first | refine st_q rfl rfl rfl ?_ | refine Z8w rfl ?_ | (refine Z8y ?_; (repeat (first | refine Z9v rfl ?_ | refine Z9w ?_)); refine Z9u ?_) | refine awp_seq ?_ | refine Zbm (fun _ _ => rfl) ?_ | refine Z8f (t := true) rfl (fun _ => ?_) (fun e => by cases e)))
    (refine Z8d ?_; exact ares rfl (HSub.refl _) ⟨(by rw [← hX, q0]; rfl), rfl⟩)
  | true =>
  have q0' : (!(nu == bn)) = false := by rw [q0]; rfl
  (repeat (first | refine st_q rfl rfl rfl ?_ | refine awp_seq ?_ | refine Zbm (fun _ _ => rfl) ?_))
  rw [q0']
  (repeat (first | refine st_q rfl rfl rfl ?_ | refine Z8v rfl (st_q rfl rfl rfl ?_)))
  by_cases q1 : i = bi
  rotate_left
  · (rw [show decide (i ≠ bi) = true from decide_eq_true (by omega)])
    (repeat (first | refine st_q rfl rfl rfl ?_ | refine Z8w rfl ?_ | (refine Z8y ?_; (repeat (first | refine Z9v rfl ?_ | refine Z9w ?_)); refine Z9u ?_) | refine awp_seq ?_ | refine Zbm (fun _ _ => rfl) ?_ | refine Z8f (t := true) rfl (fun _ => ?_) (fun e => by cases e)))
    (refine Z8d ?_; exact ares rfl (HSub.refl _) ⟨(by rw [← hX]; simp [q1, Z8m]), rfl⟩)
  (rw [show decide (i ≠ bi) = false from decide_eq_false (by omega)])
  (repeat (first | refine st_q rfl rfl rfl ?_ | refine Z8v rfl (st_q rfl rfl rfl ?_)))
  by_cases q2 : n = b_n
  rotate_left
  · (rw [show decide (n ≠ b_n) = true from decide_eq_true (by omega)])
    (repeat (first | refine st_q rfl rfl rfl ?_ | refine Z8w rfl ?_ | (refine Z8y ?_; (repeat (first | refine Z9v rfl ?_ | refine Z9w ?_)); refine Z9u ?_) | refine awp_seq ?_ | refine Zbm (fun _ _ => rfl) ?_ | refine Z8f (t := true) rfl (fun _ => ?_) (fun e => by cases e)))
    (refine Z8d ?_; exact ares rfl (HSub.refl _) ⟨(by rw [← hX]; simp [q2, Z8m]), rfl⟩)
  (rw [show decide (n ≠ b_n) = false from decide_eq_false (by omega)])
  (repeat (first | refine st_q rfl rfl rfl ?_ | refine Z8v rfl (st_q rfl rfl rfl ?_) | refine Z8v rfl (Zbz rfl rfl ?_)))
  by_cases q3 : bs = bb
  rotate_left
  · rw [show decide (bs ≠ bb) = true from decide_eq_true q3]
    (repeat (first | refine st_q rfl rfl rfl ?_ | refine Z8w rfl ?_ | (refine Z8y ?_; (repeat (first | refine Z9v rfl ?_ | refine Z9w ?_)); refine Z9u ?_) | refine awp_seq ?_ | refine Zbm (fun _ _ => rfl) ?_ | refine Z8f (t := true) rfl (fun _ => ?_) (fun e => by cases e)))
    (refine Z8d ?_; exact ares rfl (HSub.refl _) ⟨(by rw [← hX]; simp [q3, Z8m]), rfl⟩)
  rw [show decide (bs ≠ bb) = false from decide_eq_false (fun h => h q3)]
  (repeat (first | refine st_q rfl rfl rfl ?_ | refine Z8v rfl (st_q rfl rfl rfl ?_) | (refine Z8y ?_; (repeat (first | refine Z9v rfl ?_ | refine Z9w ?_)); refine Z9u ?_)))
  rw [eL, eL]
  by_cases q4 : ks.length = bk.length
  rotate_left
  · (rw [show decide ((ks.length : Int) ≠ (bk.length : Int)) = true from decide_eq_true (by omega)])
    (repeat (first | refine st_q rfl rfl rfl ?_ | (refine Z8y ?_; (repeat (first | refine Z9v rfl ?_ | refine Z9w ?_)); refine Z9u ?_) | refine awp_seq ?_ | refine Zbm (fun _ _ => rfl) ?_ | refine Z8f (t := true) rfl (fun _ => ?_) (fun e => by cases e)))
    (refine Z8d ?_; exact ares rfl (HSub.refl _) ⟨(by rw [← hX]; simp [q4, Z8m]), rfl⟩)
  (rw [show decide ((ks.length : Int) ≠ (bk.length : Int)) = false from decide_eq_false (by omega)])
  (repeat (first | refine st_q rfl rfl rfl ?_ | (refine Z8y ?_; (repeat (first | refine Z9v rfl ?_ | refine Z9w ?_)); refine Z9u ?_) | refine awp_seq ?_ | refine Zbm (fun _ _ => rfl) ?_ | refine Z8h ?_ | refine Zbn (fun _ _ => rfl) ?_ | refine Z8f (t := false) rfl (fun e => by cases e) (fun _ => ?_)))
  have hX : Z1b0 ks bk = X := by rw [← hX]; simp [q0, q1, q2, q3, q4]
  refine Zaa (fun m F σ' => ∃ (j : Nat), F = fset 2 (some (.iptr [.bool nu, .int .i64 i, .int .i64 n, .slc 1 (bytes bs) false, .slc 5 (Zm5 ks) false])) (fset 3 (some (.iptr [.bool bn, .int .i64 bi, .int .i64 b_n, .slc 1 (bytes bb) false, .slc 5 (Zm5 bk) false])) (fset 5 (some (.int .i64 (j : Int))) Z27)) ∧
    σ = σ' ∧ j ≤ ks.length ∧ Z1b0 (ks.drop j) (bk.drop j) = X ∧ m = ks.length - j) (n := ks.length) ⟨0, rfl, rfl, by omega, hX, rfl⟩ ?_
  rintro m F σ' ⟨j, rfl, rfl, hj, hXj, rfl⟩
  (repeat (first | refine st_q rfl rfl rfl ?_ | (refine Z8y ?_; (repeat (first | refine Z9v rfl ?_ | refine Z9w ?_)); refine Z9u ?_) | refine awp_seq ?_ | refine Zbm (fun _ _ => rfl) ?_))
  rw [eL]
  refine Za3 (p := (j : Int) < (ks.length : Int)) rfl (fun h5 => ?_) (fun h5 => ?_)
  · have hjl : j < ks.length := by omega
    have hjl2 : j < bk.length := by omega
    have h1 : (Zm5 ks)[((j : Nat) : Int).toNat]? = some (.agg (Zm6 ks[j])) := by rw [← Zm7]; exact Zma (by rw [Int.toNat_natCast, List.getElem?_eq_getElem hjl])
    have h2 : (Zm5 bk)[((j : Nat) : Int).toNat]? = some (.agg (Zm6 bk[j])) := by rw [← Zm7]; exact Zma (by rw [Int.toNat_natCast, List.getElem?_eq_getElem hjl2])
    rw [Z1b2 ks bk j ks[j] bk[j] (List.getElem?_eq_getElem hjl) (List.getElem?_eq_getElem hjl2)] at hXj
    have hc := ih ks[j] (List.getElem_mem hjl) (hks _ (List.getElem_mem hjl)) bk[j]
    rw [Zm7, Zm7] at hc
    (repeat (first | refine st_q rfl rfl rfl ?_ | refine awp_seq ?_ | refine Zbm (fun _ _ => rfl) ?_ | refine Z8h ?_ | refine Zbn (fun _ _ => rfl) ?_))
    refine Z93 rfl (by omega) h1 ?_
    (repeat refine st_q rfl rfl rfl ?_)
    refine Z93 rfl (by omega) h2 ?_
    (repeat refine st_q rfl rfl rfl ?_)
    (first | refine Z9t rfl (hc _) ?_ | refine Z8v rfl (Z9t rfl (hc _) ?_) | refine Zbw rfl hc ?_ | refine Z8v rfl (Zbw rfl hc ?_))
    cases hs : Z1az ks[j] bk[j] with
    | false =>
      rw [hs, Bool.false_and] at hXj
      (repeat (first | refine st_q rfl rfl rfl ?_ | (refine Z8y ?_; (repeat (first | refine Z9v rfl ?_ | refine Z9w ?_)); refine Z9u ?_) | refine awp_seq ?_ | refine Zbm (fun _ _ => rfl) ?_ | refine Z8f (t := true) rfl (fun _ => ?_) (fun e => by cases e)))
      (refine Z8d ?_; exact ares rfl (HSub.refl _) ⟨(by rw [← hXj]; rfl), rfl⟩)
    | true =>
      rw [hs, Bool.true_and] at hXj
      (repeat (first | refine st_q rfl rfl rfl ?_ | (refine Z8y ?_; (repeat (first | refine Z9v rfl ?_ | refine Z9w ?_)); refine Z9u ?_) | refine Zbn (fun _ _ => rfl) ?_ | refine Z8f (t := false) rfl (fun e => by cases e) (fun _ => ?_)))
      refine Zbp ?_
      (repeat (refine st_q rfl rfl rfl ?_))
      rw [show IntKind.wrap .i64 ((j : Int) + 1) = ((j + 1 : Nat) : Int) by rw [w64 _ (by omega) (by omega)]; omega]
      (refine Z8y ?_; (repeat (first | refine Z9v rfl ?_ | refine Z9w ?_)); refine Z9u ?_)
      exact ⟨_, ks.length - (j + 1), HSub.refl _, ⟨j + 1, rfl, rfl, by omega, hXj, rfl⟩, by omega⟩
  · (repeat (first | refine st_q rfl rfl rfl ?_ | (refine Z8y ?_; (repeat (first | refine Z9v rfl ?_ | refine Z9w ?_)); refine Z9u ?_) | refine awp_seq ?_ | refine Zbm (fun _ _ => rfl) ?_ | refine Zbo (fun _ _ => rfl) ?_))
    rw [List.drop_of_length_le (by omega), Z1b0] at hXj
    (refine Z8d ?_; exact ares rfl (HSub.refl _) ⟨(by rw [← hXj]; rfl), rfl⟩)
end Go.Abs
namespace Go.Abs
open Go Go.Proofs
set_option linter.unusedVariables false
set_option linter.unusedSimpArgs false
set_option maxHeartbeats 4000000
attribute [local irreducible] AWp aops KP
theorem Z1ov : ∀ a b : List UInt8, Lib.compareBytes a b = 0 ↔ a = b
  | [], [] => by simp [Lib.compareBytes]
  | [], _ :: _ => by simp [Lib.compareBytes]
  | _ :: _, [] => by simp [Lib.compareBytes]
  | a :: xs, b :: ys => by
    simp only [Lib.compareBytes, u8_lt]
    have := Z1ov xs ys
    have e : a = b ↔ a.toNat = b.toNat := ⟨fun h => by rw [h], fun h => UInt8.toNat_inj.1 h⟩
    split
    · simp [e]; omega
    · split
      · simp [e]; omega
      · simp [this, e]; omega
theorem Z1ow : ∀ a b : List UInt8, Op.bytesLess a b = decide (Lib.compareBytes a b < 0)
  | [], [] => by simp [Lib.compareBytes, Op.bytesLess]
  | [], _ :: _ => by simp [Lib.compareBytes, Op.bytesLess]
  | _ :: _, [] => by simp [Lib.compareBytes, Op.bytesLess]
  | a :: xs, b :: ys => by
    simp only [Lib.compareBytes, Op.bytesLess, Z1ow xs ys]
    have e : a = b ↔ a.toNat = b.toNat := ⟨fun h => by rw [h], fun h => UInt8.toNat_inj.1 h⟩
    by_cases h1 : a < b
    · simp [h1]
    · by_cases h2 : b < a
      · have : a ≠ b := by rw [u8_lt] at h2; intro h; rw [h] at h2; omega
        simp [h1, h2, this]
      · have : a = b := by rw [u8_lt] at h1 h2; rw [e]; omega
        simp [this]
theorem Z1ox (a b : List UInt8) : Lib.compareBytes a b = -1 ∨ Lib.compareBytes a b = 0 ∨ Lib.compareBytes a b = 1 := by
  induction a generalizing b with
  | nil => cases b <;> simp [Lib.compareBytes]
  | cons a xs ih =>
    cases b with
    | nil => simp [Lib.compareBytes]
    | cons b ys =>
      simp only [Lib.compareBytes]
      split
      · simp
      · split
        · simp
        · exact ih ys
theorem Z1oy (t : List Z0) (k : Int) (ht : t.length = 6) (hk : t[0]? = some (.int .i64 k)) (ht1 : ∀ c ∈ t, c.one = true) (a b : Vl) (σ : Zc) : Z1q Try.prog Zed [.agg t, encV a, encV b] σ fun r σ' => r = .tup [.int .i64 (cmpV k a b).1, .bool (cmpV k a b).2] ∧ σ' = σ := by
  match t, ht with
  | [t0, t1, t2, t3, t4, t5], _ =>
  simp only [List.getElem?_cons_zero, Option.some.injEq] at hk
  subst hk
  obtain ⟨an, ai, a_n, ab, ak⟩ := a
  obtain ⟨bn, bi, b_n, bb, bk⟩ := b
  simp only [encV]
  refine Z8t rfl Z1ou (Nat.le_of_ble_eq_true rfl) ?_
  refine Z9z ?_
  refine Z9j rfl ⟨rfl, ht1⟩ fun b1 hb1 => ?_
  refine Z9j rfl (Z0.fit_iff.1 rfl) fun b2 hb2 => ?_
  refine Z9j rfl (Z0.fit_iff.1 rfl) fun b3 hb3 => ?_
  (repeat (refine st_q rfl rfl rfl ?_))
  (refine Z8y ?_; (repeat (first | refine Z9v rfl ?_ | refine Z9w ?_)); refine Z9u ?_)
  refine Zb3 (d := 5) (cs := [.bool bn, .int .i64 bi, .int .i64 b_n, .slc 1 (bytes bb) false, .slc 5 (Zm5 bk) false]) rfl ?_
  refine Zb3 (d := 4) (cs := [.bool an, .int .i64 ai, .int .i64 a_n, .slc 1 (bytes ab) false, .slc 5 (Zm5 ak) false]) rfl ?_
  refine Zb3 (d := 3) (cs := [.int .i64 k, t1, t2, t3, t4, t5]) rfl ?_
  cases an with
  | true =>
    (repeat (first | refine st_q rfl rfl rfl ?_ | refine Z8w rfl ?_ | (refine Z8y ?_; (repeat (first | refine Z9v rfl ?_ | refine Z9w ?_)); refine Z9u ?_) | refine awp_seq ?_ | refine Zbm (fun _ _ => rfl) ?_ | refine Z8f (t := true) rfl (fun _ => ?_) (fun e => by cases e)))
    (refine Z8d ?_; exact ares rfl (HSub.refl _) ⟨(by rw [cmpV, if_pos (.inr (.inl rfl))]; rfl), rfl⟩)
  | false =>
  cases bn with
  | true =>
    (repeat (first | refine st_q rfl rfl rfl ?_ | refine Z8v rfl (st_q rfl rfl rfl ?_) | refine Z8w rfl ?_ | (refine Z8y ?_; (repeat (first | refine Z9v rfl ?_ | refine Z9w ?_)); refine Z9u ?_) | refine awp_seq ?_ | refine Zbm (fun _ _ => rfl) ?_ | refine Z8f (t := true) rfl (fun _ => ?_) (fun e => by cases e)))
    (refine Z8d ?_; exact ares rfl (HSub.refl _) ⟨(by rw [cmpV, if_pos (.inr (.inr rfl))]; rfl), rfl⟩)
  | false =>
  (repeat (first | refine st_q rfl rfl rfl ?_ | refine Z8v rfl (st_q rfl rfl rfl ?_) | refine awp_seq ?_ | refine Zbm (fun _ _ => rfl) ?_))
  (first | refine Z9t rfl ((Ztm k) _) ?_ | refine Z8v rfl (Z9t rfl ((Ztm k) _) ?_) | refine Zbw rfl (Ztm k) ?_ | refine Z8v rfl (Zbw rfl (Ztm k) ?_))
  cases hl : Zlt k with
  | false =>
    (repeat (first | refine st_q rfl rfl rfl ?_ | refine Z8v rfl (st_q rfl rfl rfl ?_) | (refine Z8y ?_; (repeat (first | refine Z9v rfl ?_ | refine Z9w ?_)); refine Z9u ?_) | refine awp_seq ?_ | refine Zbm (fun _ _ => rfl) ?_ | refine Z8f (t := true) rfl (fun _ => ?_) (fun e => by cases e)))
    (refine Z8d ?_; exact ares rfl (HSub.refl _) ⟨(by rw [cmpV, if_pos (.inl hl)]; rfl), rfl⟩)
  | true =>
  have hc : ¬ (Zlt k = false ∨ (Vl.mk false ai a_n ab ak).null = true ∨ (Vl.mk false bi b_n bb bk).null = true) := by simp [hl, Vl.null]
  rw [cmpV, if_neg hc]
  simp only [Vl.i, Vl.n, Vl.b]
  (repeat (first | refine st_q rfl rfl rfl ?_ | refine Z8v rfl (st_q rfl rfl rfl ?_) | (refine Z8y ?_; (repeat (first | refine Z9v rfl ?_ | refine Z9w ?_)); refine Z9u ?_) | refine awp_seq ?_ | refine Zbm (fun _ _ => rfl) ?_ | refine Zbn (fun _ _ => rfl) ?_ | refine Z8f (t := false) rfl (fun e => by cases e) (fun _ => ?_)))
  (first | refine Z9t rfl ((Ztl k) _) ?_ | refine Z8v rfl (Z9t rfl ((Ztl k) _) ?_) | refine Zbw rfl (Ztl k) ?_ | refine Z8v rfl (Zbw rfl (Ztl k) ?_))
  cases ht : Zmb k with
  | true =>
    have hv := Z1ox ab bb
    have h0 := Z1ov ab bb
    have hless := Z1ow ab bb
    (repeat (first | refine st_q rfl rfl rfl ?_ | refine Zbz rfl rfl ?_ | (refine Z8y ?_; (repeat (first | refine Z9v rfl ?_ | refine Z9w ?_)); refine Z9u ?_) | refine awp_seq ?_ | refine Zbm (fun _ _ => rfl) ?_ | refine Z8h ?_ | refine Z8f (t := true) rfl (fun _ => ?_) (fun e => by cases e)))
    by_cases h1 : Lib.compareBytes ab bb < 0
    · rw [decide_eq_true h1] at hless
      rw [hless]
      (repeat (first | refine st_q rfl rfl rfl ?_ | (refine Z8y ?_; (repeat (first | refine Z9v rfl ?_ | refine Z9w ?_)); refine Z9u ?_) | refine awp_seq ?_ | refine Zbm (fun _ _ => rfl) ?_ | refine Z8f (t := true) rfl (fun _ => ?_) (fun e => by cases e)))
      (refine Z8d ?_; exact ares rfl (HSub.refl _) ⟨(by rw [show Lib.compareBytes ab bb = -1 by omega]; rfl), rfl⟩)
    · rw [decide_eq_false h1] at hless
      rw [hless]
      (repeat (first | refine st_q rfl rfl rfl ?_ | refine Zbz rfl rfl ?_ | (refine Z8y ?_; (repeat (first | refine Z9v rfl ?_ | refine Z9w ?_)); refine Z9u ?_) | refine awp_seq ?_ | refine Zbm (fun _ _ => rfl) ?_ | refine Z8f (t := false) rfl (fun e => by cases e) (fun _ => ?_)))
      rw [hless]
      by_cases h2 : ab = bb
      · rw [show (!(false || decide (ab = bb))) = false by simp [h2]]
        (repeat (first | refine st_q rfl rfl rfl ?_ | (refine Z8y ?_; (repeat (first | refine Z9v rfl ?_ | refine Z9w ?_)); refine Z9u ?_) | refine awp_seq ?_ | refine Zbm (fun _ _ => rfl) ?_ | refine Zbn (fun _ _ => rfl) ?_ | refine Z8f (t := false) rfl (fun e => by cases e) (fun _ => ?_)))
        (refine Z8d ?_; exact ares rfl (HSub.refl _) ⟨(by rw [h0.2 h2]; rfl), rfl⟩)
      · rw [show (!(false || decide (ab = bb))) = true by simp [h2]]
        (repeat (first | refine st_q rfl rfl rfl ?_ | (refine Z8y ?_; (repeat (first | refine Z9v rfl ?_ | refine Z9w ?_)); refine Z9u ?_) | refine awp_seq ?_ | refine Zbm (fun _ _ => rfl) ?_ | refine Z8f (t := true) rfl (fun _ => ?_) (fun e => by cases e)))
        (refine Z8d ?_; exact ares rfl (HSub.refl _) ⟨(by rw [show Lib.compareBytes ab bb = 1 by have := mt h0.1 h2; omega]; rfl), rfl⟩)
  | false =>
    simp only [Bool.false_eq_true, if_false]
    (repeat (first | refine st_q rfl rfl rfl ?_ | (refine Z8y ?_; (repeat (first | refine Z9v rfl ?_ | refine Z9w ?_)); refine Z9u ?_) | refine awp_seq ?_ | refine Zbm (fun _ _ => rfl) ?_ | refine Z8h ?_ | refine Zbn (fun _ _ => rfl) ?_ | refine Z8f (t := false) rfl (fun e => by cases e) (fun _ => ?_)))
    by_cases h1 : ai < bi
    · (rw [show decide (ai < bi) = true from decide_eq_true (by omega)])
      (repeat (first | refine st_q rfl rfl rfl ?_ | refine Z8w rfl ?_ | refine Z8x rfl ?_ | (refine Z8y ?_; (repeat (first | refine Z9v rfl ?_ | refine Z9w ?_)); refine Z9u ?_) | refine awp_seq ?_ | refine Zbm (fun _ _ => rfl) ?_ | refine Z8f (t := true) rfl (fun _ => ?_) (fun e => by cases e)))
      (refine Z8d ?_; exact ares rfl (HSub.refl _) ⟨(by simp [cmpI, h1, Z8m]), rfl⟩)
    (rw [show decide (ai < bi) = false from decide_eq_false (by omega)])
    (repeat refine Z8v rfl (st_q rfl rfl rfl ?_))
    by_cases h2 : ai = bi
    · (rw [show decide (ai = bi) = true from decide_eq_true (by omega)])
      (repeat (first | refine st_q rfl rfl rfl ?_ | refine Z8v rfl (st_q rfl rfl rfl ?_) | (refine Z8y ?_; (repeat (first | refine Z9v rfl ?_ | refine Z9w ?_)); refine Z9u ?_)))
      by_cases h3 : a_n < b_n
      · (rw [show decide (a_n < b_n) = true from decide_eq_true (by omega)])
        (repeat (first | refine st_q rfl rfl rfl ?_ | (refine Z8y ?_; (repeat (first | refine Z9v rfl ?_ | refine Z9w ?_)); refine Z9u ?_) | refine awp_seq ?_ | refine Zbm (fun _ _ => rfl) ?_ | refine Z8f (t := true) rfl (fun _ => ?_) (fun e => by cases e)))
        (refine Z8d ?_; exact ares rfl (HSub.refl _) ⟨(by simp [cmpI, h2, h3, Z8m]), rfl⟩)
      (rw [show decide (a_n < b_n) = false from decide_eq_false (by omega)])
      (repeat (first | refine st_q rfl rfl rfl ?_ | refine awp_seq ?_ | refine Zbm (fun _ _ => rfl) ?_ | refine Z8f (t := false) rfl (fun e => by cases e) (fun _ => ?_)))
      (rw [show decide (bi < ai) = false from decide_eq_false (by omega)])
      (repeat (first | refine st_q rfl rfl rfl ?_ | refine Z8v rfl (st_q rfl rfl rfl ?_) | (refine Z8y ?_; (repeat (first | refine Z9v rfl ?_ | refine Z9w ?_)); refine Z9u ?_)))
      by_cases h4 : b_n < a_n
      · (rw [show decide (b_n < a_n) = true from decide_eq_true (by omega)])
        (repeat (first | refine st_q rfl rfl rfl ?_ | (refine Z8y ?_; (repeat (first | refine Z9v rfl ?_ | refine Z9w ?_)); refine Z9u ?_) | refine awp_seq ?_ | refine Zbm (fun _ _ => rfl) ?_ | refine Z8f (t := true) rfl (fun _ => ?_) (fun e => by cases e)))
        (refine Z8d ?_; exact ares rfl (HSub.refl _) ⟨(by simp [cmpI, h2, h3, h4, Z8m]), rfl⟩)
      · (rw [show decide (b_n < a_n) = false from decide_eq_false (by omega)])
        (repeat (first | refine st_q rfl rfl rfl ?_ | (refine Z8y ?_; (repeat (first | refine Z9v rfl ?_ | refine Z9w ?_)); refine Z9u ?_) | refine awp_seq ?_ | refine Zbm (fun _ _ => rfl) ?_ | refine Zbn (fun _ _ => rfl) ?_ | refine Z8f (t := false) rfl (fun e => by cases e) (fun _ => ?_)))
        (refine Z8d ?_; exact ares rfl (HSub.refl _) ⟨(by simp [cmpI, h2, h3, h4, Z8m]), rfl⟩)
    · (rw [show decide (ai = bi) = false from decide_eq_false (by omega)])
      (repeat (first | refine st_q rfl rfl rfl ?_ | refine Z8v rfl (st_q rfl rfl rfl ?_) | refine Z8w rfl ?_ | (refine Z8y ?_; (repeat (first | refine Z9v rfl ?_ | refine Z9w ?_)); refine Z9u ?_) | refine awp_seq ?_ | refine Zbm (fun _ _ => rfl) ?_ | refine Z8f (t := false) rfl (fun e => by cases e) (fun _ => ?_)))
      (rw [show decide (bi < ai) = true from decide_eq_true (by omega)])
      (repeat (first | refine st_q rfl rfl rfl ?_ | refine Z8w rfl ?_ | (refine Z8y ?_; (repeat (first | refine Z9v rfl ?_ | refine Z9w ?_)); refine Z9u ?_) | refine awp_seq ?_ | refine Zbm (fun _ _ => rfl) ?_ | refine Z8f (t := true) rfl (fun _ => ?_) (fun e => by cases e)))
      (refine Z8d ?_; exact ares rfl (HSub.refl _) ⟨(by simp [cmpI, h1, show bi < ai by omega, Z8m]), rfl⟩)
end Go.Abs
namespace Go.Abs
open Go Go.Proofs
set_option linter.unusedVariables false
set_option linter.unusedSimpArgs false
set_option maxHeartbeats 4000000
attribute [local irreducible] AWp aops KP
theorem Z1oz (t : Ty) (op : Int) (v lo hi : Vl) (σ : Zc) : Z1q Try.prog Zej [encT t, .int .i64 op, encV v, encV lo, encV hi] σ fun r σ' => r = .bool (Z17z t.kind op v lo hi) ∧ σ' = σ := by
  have hone : ∀ c ∈ Zlo t, c.one = true := by
    obtain ⟨k, ns, ks, l, p, s⟩ := t
    intro c hc
    simp only [Zlo, List.mem_cons, List.not_mem_nil, or_false] at hc
    rcases hc with rfl | rfl | rfl | rfl | rfl | rfl <;> rfl
  have hk : (Zlo t)[0]? = some (.int .i64 t.kind) := by obtain ⟨k, ns, ks, l, p, s⟩ := t; rfl
  have h1 := fun τ => Z1oy (Zlo t) t.kind (by obtain ⟨k, ns, ks, l, p, s⟩ := t; rfl) hk hone v lo τ
  have h2 := fun τ => Z1oy (Zlo t) t.kind (by obtain ⟨k, ns, ks, l, p, s⟩ := t; rfl) hk hone v hi τ
  have hn : Z17z t.kind op v lo hi = (if op = 1 then decide ((cmpV t.kind v lo).1 < 0 ∨ (cmpV t.kind v hi).1 > 0) else if op = 2 then decide ((cmpV t.kind v lo).1 = 0 ∧ (cmpV t.kind v hi).1 = 0)
    else if op = 3 then decide ((cmpV t.kind v lo).1 ≤ 0) else if op = 4 then decide ((cmpV t.kind v lo).1 < 0) else if op = 5 then decide ((cmpV t.kind v hi).1 ≥ 0) else decide ((cmpV t.kind v hi).1 > 0)) := rfl
  rw [hn]
  clear hn
  generalize cmpV t.kind v lo = x at *
  generalize cmpV t.kind v hi = y at *
  obtain ⟨a, xa⟩ := x
  obtain ⟨b, yb⟩ := y
  simp only at *
  rw [Zlp]
  simp only [Zm7] at *
  refine Z8t rfl Z1ot (Nat.le_of_ble_eq_true rfl) ?_
  refine Z9z ?_
  have h6 : (Z0.agg (Zlo t)).elem 6 := by obtain ⟨k, ns, ks, l, p, s⟩ := t; exact Z0.fit_iff.1 rfl
  refine Z9j rfl h6 fun b1 hb1 => ?_
  (repeat (refine st_q rfl rfl rfl ?_))
  refine Z9j rfl (Z0.fit_iff.1 rfl) fun b2 hb2 => ?_
  refine Z9j rfl (Z0.fit_iff.1 rfl) fun b3 hb3 => ?_
  refine Z9j rfl (Z0.fit_iff.1 rfl) fun b4 hb4 => ?_
  (repeat (refine st_q rfl rfl rfl ?_))
  (refine Z8y ?_; (repeat (first | refine Z9v rfl ?_ | refine Z9w ?_)); refine Z9u ?_)
  refine Zb3 (d := 9) (cs := Zm6 hi) rfl ?_
  (refine Z9y (keep := [1, 5, 7, 8, 9]) ?_; ((repeat (first | refine Z9v rfl ?_ | refine Z9w ?_)); refine Z9u ?_))
  refine Zb3 (d := 8) (cs := Zm6 lo) rfl ?_
  (refine Z9y (keep := [1, 5, 7, 8, 9]) ?_; ((repeat (first | refine Z9v rfl ?_ | refine Z9w ?_)); refine Z9u ?_))
  refine Zb3 (d := 7) (cs := Zm6 v) rfl ?_
  (refine Z9y (keep := [1, 5, 7, 8, 9]) ?_; ((repeat (first | refine Z9v rfl ?_ | refine Z9w ?_)); refine Z9u ?_))
  refine Zb3 (d := 5) (cs := Zlo t) rfl ?_
  (refine Z9y (keep := [1, 5, 7, 8, 9]) ?_; ((repeat (first | refine Z9v rfl ?_ | refine Z9w ?_)); refine Z9u ?_))
  obtain ⟨k, ns, ks, l, p, s⟩ := t
  simp only [Ty.kind] at *
  (repeat (first | refine st_q rfl rfl rfl ?_ | refine awp_seq ?_ | refine Zbm (fun _ _ => rfl) ?_))
  refine Z9t rfl (h1 _) ?_
  (repeat (first | refine st_q rfl rfl rfl ?_ | (refine Z8y ?_; (repeat (first | refine Z9v rfl ?_ | refine Z9w ?_)); refine Z9u ?_) | refine awp_seq ?_ | refine Zbm (fun _ _ => rfl) ?_))
  refine Z9t rfl (h2 _) ?_
  (repeat (first | refine st_q rfl rfl rfl ?_ | (refine Z8y ?_; (repeat (first | refine Z9v rfl ?_ | refine Z9w ?_)); refine Z9u ?_) | refine awp_seq ?_ | refine Zbm (fun _ _ => rfl) ?_ | refine Z8h ?_))
  by_cases q1 : op = 1
  · subst q1
    by_cases g : a < 0
    · (repeat (first | refine st_q rfl rfl rfl ?_ | refine awp_seq ?_ | refine Zbm (fun _ _ => rfl) ?_ | refine Z8f (t := true) rfl (fun _ => ?_) (fun e => by cases e)))
      (rw [show decide (a < 0) = true from decide_eq_true (by omega)])
      (repeat (first | refine st_q rfl rfl rfl ?_ | refine Z8w rfl ?_ | (refine Z8y ?_; (repeat (first | refine Z9v rfl ?_ | refine Z9w ?_)); refine Z9u ?_)))
      refine Z8d ?_
      refine ares rfl (HSub.refl _) ⟨?_, rfl⟩
      change _ = Z0.bool (decide (a < 0 ∨ b > 0))
      rw [show decide (a < 0 ∨ b > 0) = true from decide_eq_true (.inl g)]
      rfl
    · (repeat (first | refine st_q rfl rfl rfl ?_ | refine awp_seq ?_ | refine Zbm (fun _ _ => rfl) ?_ | refine Z8f (t := true) rfl (fun _ => ?_) (fun e => by cases e)))
      (rw [show decide (a < 0) = false from decide_eq_false (by omega)])
      (repeat (first | refine st_q rfl rfl rfl ?_ | refine Z8v rfl (st_q rfl rfl rfl ?_) | (refine Z8y ?_; (repeat (first | refine Z9v rfl ?_ | refine Z9w ?_)); refine Z9u ?_)))
      refine Z8d ?_
      refine ares rfl (HSub.refl _) ⟨?_, rfl⟩
      change _ = Z0.bool (decide (a < 0 ∨ b > 0))
      rw [show decide (a < 0 ∨ b > 0) = decide (b > 0) by simp [g]]
      rfl
  by_cases q2 : op = 2
  · subst q2
    by_cases g : a = 0
    · (repeat (first | refine st_q rfl rfl rfl ?_ | (refine Z8y ?_; (repeat (first | refine Z9v rfl ?_ | refine Z9w ?_)); refine Z9u ?_) | refine awp_seq ?_ | refine Zbm (fun _ _ => rfl) ?_ | refine Z8f (t := true) rfl (fun _ => ?_) (fun e => by cases e) | refine Z8f (t := false) rfl (fun e => by cases e) (fun _ => ?_)))
      (rw [show decide (a = 0) = true from decide_eq_true (by omega)])
      (repeat (first | refine st_q rfl rfl rfl ?_ | refine Z8v rfl (st_q rfl rfl rfl ?_) | (refine Z8y ?_; (repeat (first | refine Z9v rfl ?_ | refine Z9w ?_)); refine Z9u ?_)))
      refine Z8d ?_
      refine ares rfl (HSub.refl _) ⟨?_, rfl⟩
      change _ = Z0.bool (decide (a = 0 ∧ b = 0))
      rw [show decide (a = 0 ∧ b = 0) = decide (b = 0) by simp [g]]
      rfl
    · (repeat (first | refine st_q rfl rfl rfl ?_ | (refine Z8y ?_; (repeat (first | refine Z9v rfl ?_ | refine Z9w ?_)); refine Z9u ?_) | refine awp_seq ?_ | refine Zbm (fun _ _ => rfl) ?_ | refine Z8f (t := true) rfl (fun _ => ?_) (fun e => by cases e) | refine Z8f (t := false) rfl (fun e => by cases e) (fun _ => ?_)))
      (rw [show decide (a = 0) = false from decide_eq_false (by omega)])
      (repeat (first | refine st_q rfl rfl rfl ?_ | refine Z8w rfl ?_ | (refine Z8y ?_; (repeat (first | refine Z9v rfl ?_ | refine Z9w ?_)); refine Z9u ?_)))
      refine Z8d ?_
      refine ares rfl (HSub.refl _) ⟨?_, rfl⟩
      change _ = Z0.bool (decide (a = 0 ∧ b = 0))
      rw [show decide (a = 0 ∧ b = 0) = false by simp [g]]
      rfl
  by_cases q3 : op = 3
  · subst q3; (repeat (first | refine st_q rfl rfl rfl ?_ | (refine Z8y ?_; (repeat (first | refine Z9v rfl ?_ | refine Z9w ?_)); refine Z9u ?_) | refine awp_seq ?_ | refine Zbm (fun _ _ => rfl) ?_ | refine Z8f (t := true) rfl (fun _ => ?_) (fun e => by cases e) | refine Z8f (t := false) rfl (fun e => by cases e) (fun _ => ?_))); refine Z8d ?_; exact ares rfl (HSub.refl _) ⟨rfl, rfl⟩
  by_cases q4 : op = 4
  · subst q4; (repeat (first | refine st_q rfl rfl rfl ?_ | (refine Z8y ?_; (repeat (first | refine Z9v rfl ?_ | refine Z9w ?_)); refine Z9u ?_) | refine awp_seq ?_ | refine Zbm (fun _ _ => rfl) ?_ | refine Z8f (t := true) rfl (fun _ => ?_) (fun e => by cases e) | refine Z8f (t := false) rfl (fun e => by cases e) (fun _ => ?_))); refine Z8d ?_; exact ares rfl (HSub.refl _) ⟨rfl, rfl⟩
  by_cases q5 : op = 5
  · subst q5; (repeat (first | refine st_q rfl rfl rfl ?_ | (refine Z8y ?_; (repeat (first | refine Z9v rfl ?_ | refine Z9w ?_)); refine Z9u ?_) | refine awp_seq ?_ | refine Zbm (fun _ _ => rfl) ?_ | refine Z8f (t := true) rfl (fun _ => ?_) (fun e => by cases e) | refine Z8f (t := false) rfl (fun e => by cases e) (fun _ => ?_))); refine Z8d ?_; exact ares rfl (HSub.refl _) ⟨rfl, rfl⟩
  skip
  rw [decide_eq_false q1]
  (repeat (first | refine st_q rfl rfl rfl ?_ | (refine Z8y ?_; (repeat (first | refine Z9v rfl ?_ | refine Z9w ?_)); refine Z9u ?_) | refine awp_seq ?_ | refine Zbm (fun _ _ => rfl) ?_ | refine Z8f (t := false) rfl (fun e => by cases e) (fun _ => ?_)))
  rw [decide_eq_false q2]
  (repeat (first | refine st_q rfl rfl rfl ?_ | (refine Z8y ?_; (repeat (first | refine Z9v rfl ?_ | refine Z9w ?_)); refine Z9u ?_) | refine awp_seq ?_ | refine Zbm (fun _ _ => rfl) ?_ | refine Z8f (t := false) rfl (fun e => by cases e) (fun _ => ?_)))
  rw [decide_eq_false q3]
  (repeat (first | refine st_q rfl rfl rfl ?_ | (refine Z8y ?_; (repeat (first | refine Z9v rfl ?_ | refine Z9w ?_)); refine Z9u ?_) | refine awp_seq ?_ | refine Zbm (fun _ _ => rfl) ?_ | refine Z8f (t := false) rfl (fun e => by cases e) (fun _ => ?_)))
  rw [decide_eq_false q4]
  (repeat (first | refine st_q rfl rfl rfl ?_ | (refine Z8y ?_; (repeat (first | refine Z9v rfl ?_ | refine Z9w ?_)); refine Z9u ?_) | refine awp_seq ?_ | refine Zbm (fun _ _ => rfl) ?_ | refine Z8f (t := false) rfl (fun e => by cases e) (fun _ => ?_)))
  rw [decide_eq_false q5]
  (repeat (first | refine st_q rfl rfl rfl ?_ | (refine Z8y ?_; (repeat (first | refine Z9v rfl ?_ | refine Z9w ?_)); refine Z9u ?_) | refine awp_seq ?_ | refine Zbm (fun _ _ => rfl) ?_ | refine Zbn (fun _ _ => rfl) ?_ | refine Z8f (t := false) rfl (fun e => by cases e) (fun _ => ?_)))
  refine Z8d ?_
  exact ares rfl (HSub.refl _) ⟨by rw [if_neg q1, if_neg q2, if_neg q3, if_neg q4, if_neg q5]; rfl, rfl⟩
end Go.Abs
namespace Go.Abs
open Go Go.Proofs
set_option linter.unusedVariables false
set_option linter.unusedSimpArgs false
set_option maxHeartbeats 4000000
attribute [local irreducible] AWp aops KP
def Z189 (l : List Nd) (row : Vl) : List Tm → Int → Int
  | [], out => out
  | t :: ts, out =>
    if goodF l t.col = false then 0 else
    if t.op = 7 then (if (getF l (t.col.toNat + 1) t.col row).null = true then Z189 l row ts out else 0)
    else if t.op = 8 then (if (getF l (t.col.toNat + 1) t.col row).null = true then 0 else Z189 l row ts out)
    else if (getF l (t.col.toNat + 1) t.col row).null = true then Z189 l row ts 2
    else match l[t.col.toNat]? with
      | none => 0
      | some n => if Z17x t.op (cmpV n.t.kind (getF l (t.col.toNat + 1) t.col row) t.v).1 = true then Z189 l row ts out else 0
theorem Z18a (l : List Nd) (hw : WfN l) (f e : Bool) (p : List Tm) (hp : p.length ≤ 1000000) (row : Vl) (σ : Zc) :
    Z1q Try.prog Zdd [.slc 8 (l.map encN) f, .slc 7 (p.map encM) e, encV row] σ fun r σ' => r = .int .i64 (Z189 l row p 1) ∧ σ' = σ := by
  have hpl : (p.map encM).length = p.length := List.length_map ..
  have hrow := Zm7 row
  refine Z8t rfl Z17f (Nat.le_of_ble_eq_true rfl) ?_
  rw [hrow]
  refine Z9z ?_
  refine Z9j rfl (Z0.fit_iff.1 rfl) fun b1 hb1 => ?_
  (repeat (refine st_q rfl rfl rfl ?_))
  (refine Z8y ?_; (repeat (first | refine Z9v rfl ?_ | refine Z9w ?_)); refine Z9u ?_)
  refine Zb3 (d := 5) (cs := Zm6 row) rfl ?_
  (refine Z9y (keep := [0, 1, 5]) ?_; ((repeat (first | refine Z9v rfl ?_ | refine Z9w ?_)); refine Z9u ?_))
  (repeat (first | refine st_q rfl rfl rfl ?_ | (refine Z8y ?_; (repeat (first | refine Z9v rfl ?_ | refine Z9w ?_)); refine Z9u ?_) | refine awp_seq ?_ | refine Zbm (fun _ _ => rfl) ?_ | refine Z8h ?_))
  rw [hpl]
  obtain ⟨I, hI⟩ : ∃ I : Nat → Z26 → Zc → Prop, I = fun m F σ' => ∃ (i : Nat) (out : Int), F = fset 0 (some (.slc 8 (l.map encN) f)) (fset 5 (some (.iptr (Zm6 row))) (fset 7 (some (.int .i64 out)) (fset 14 (some (.slc 7 (p.map encM) e)) (fset 15 (some (.int .i64 p.length)) (fset 16 (some (.int .i64 i)) Z27))))) ∧ σ = σ' ∧ i ≤ p.length ∧ m = p.length - i ∧ Z189 l row (p.drop i) out = Z189 l row p 1 := ⟨_, rfl⟩
  refine Zaa I (n := p.length) (by rw [hI]; exact ⟨0, 1, rfl, rfl, by omega, by omega, by simp⟩) ?_
  intro m F σ' hIm
  rw [hI] at hIm
  obtain ⟨i, out, rfl, rfl, hi, rfl, hM⟩ := hIm
  (repeat (first | refine st_q rfl rfl rfl ?_ | (refine Z8y ?_; (repeat (first | refine Z9v rfl ?_ | refine Z9w ?_)); refine Z9u ?_) | refine awp_seq ?_ | refine Zbm (fun _ _ => rfl) ?_))
  refine Za3 (p := (i : Int) < (p.length : Int)) rfl (fun h3 => ?_) (fun h3 => ?_)
  · have hil : i < p.length := by omega
    have hti : p[i]? = some p[i] := List.getElem?_eq_getElem hil
    have hx := Z187 (i := (i : Int)) (show p[(i : Int).toNat]? = some p[i] from hti)
    rw [List.drop_eq_getElem_cons hil, Z189] at hM
    generalize p[i] = t at hx hM
    have hgd := fun τ => Z17w l hw f t.col τ
    obtain ⟨tc, op, tv⟩ := t
    simp only at *
    rw [encM, Z17q, Zm6] at hx
    simp only at hx
    have next : ∀ out' : Int, Z189 l row (p.drop (i + 1)) out' = Z189 l row p 1 → ∀ Q : Z87, AWp Try.prog Z145.n (.region Z142 [0, 5, 7, 14, 15, 16]) (Za9 I (p.length - i) Q)
        (fset 0 (some (.slc 8 (l.map encN) f)) (fset 5 (some (.iptr (Zm6 row))) (fset 7 (some (.int .i64 out')) (fset 14 (some (.slc 7 (p.map encM) e)) (fset 15 (some (.int .i64 p.length)) (fset 16 (some (.int .i64 i)) Z27)))))) σ := fun out' ho Q => by
      refine Zbp ?_
      (repeat (refine st_q rfl rfl rfl ?_))
      rw [show IntKind.wrap .i64 ((i : Int) + 1) = ((i + 1 : Nat) : Int) by rw [w64 _ (by omega) (by omega)]; omega]
      (repeat (refine st_q rfl rfl rfl ?_))
      (refine Z8y ?_; (repeat (first | refine Z9v rfl ?_ | refine Z9w ?_)); refine Z9u ?_)
      refine ⟨_, p.length - (i + 1), HSub.refl _, ?_, by omega⟩
      rw [hI]
      exact ⟨i + 1, out', rfl, rfl, by omega, rfl, ho⟩
    (repeat (first | refine awp_seq ?_ | refine Zbm (fun _ _ => rfl) ?_ | refine Z8h ?_ | refine Zbn (fun _ _ => rfl) ?_))
    refine Z93 rfl (by omega) hx ?_
    (repeat refine st_q rfl rfl rfl ?_)
    refine Z9k (by simp [Z0.cells, Z0.one]) fun b hb => ?_
    refine Z9a rfl Z8z rfl (by decide) (Z0.fit_iff.1 rfl) (fun h => by cases h) Z9b ?_
    (repeat (refine st_q rfl rfl rfl ?_))
    (refine Z8y ?_; (repeat (first | refine Z9v rfl ?_ | refine Z9w ?_)); refine Z9u ?_)
    refine Zb3 (d := 9) (cs := [.int .i64 tc, .int .i64 op, .bool tv.null, .int .i64 tv.i, .int .i64 tv.n, .slc 1 (bytes tv.b) false, .slc 5 (Zm5 tv.kids) false]) rfl ?_
    (refine Z9y (keep := [0, 5, 7, 9, 14, 15, 16]) ?_; ((repeat (first | refine Z9v rfl ?_ | refine Z9w ?_)); refine Z9u ?_))
    (repeat (first | refine st_q rfl rfl rfl ?_ | refine awp_seq ?_ | refine Zbm (fun _ _ => rfl) ?_))
    refine Z9t rfl (hgd _) ?_
    cases hgc : goodF l tc with
    | false =>
      rw [if_pos hgc] at hM
      rw [← hM]
      (repeat (first | refine st_q rfl rfl rfl ?_ | (refine Z8y ?_; (repeat (first | refine Z9v rfl ?_ | refine Z9w ?_)); refine Z9u ?_) | refine awp_seq ?_ | refine Zbm (fun _ _ => rfl) ?_ | refine Z8f (t := true) rfl (fun _ => ?_) (fun e => by cases e)))
      refine Z8d ?_
      exact ares rfl (HSub.refl _) ⟨rfl, rfl⟩
    | true =>
    obtain ⟨k0, k1⟩ := Z181 hgc
    obtain ⟨n, hn⟩ : ∃ n, l[tc.toNat]? = some n := ⟨_, List.getElem?_eq_getElem (by omega)⟩
    rw [if_neg (by rw [hgc]; simp), hn] at hM
    have hc := fun τ => c_get l hw f row (tc.toNat + 1) tc k0 k1 (by omega) τ
    generalize getF l (tc.toNat + 1) tc row = v at hc hM
    have hve := Zm7 v
    rw [hrow] at hc
    simp only at hM
    have hone : ∀ c ∈ Zlo (tyN n), c.one = true := by
      intro c hc
      simp only [Zlo, tyN, List.mem_cons, List.not_mem_nil, or_false] at hc
      rcases hc with rfl | rfl | rfl | rfl | rfl | rfl <;> rfl
    have hcmp := fun τ => Zu9 (Zlo (tyN n)) n.t.kind rfl rfl hone v tv τ
    simp only [Zm7] at hcmp
    (repeat (first | refine st_q rfl rfl rfl ?_ | (refine Z8y ?_; (repeat (first | refine Z9v rfl ?_ | refine Z9w ?_)); refine Z9u ?_) | refine awp_seq ?_ | refine Zbm (fun _ _ => rfl) ?_ | refine Zbn (fun _ _ => rfl) ?_ | refine Z8f (t := false) rfl (fun e => by cases e) (fun _ => ?_)))
    refine Z9t rfl (hc _) ?_
    rw [hve]
    refine Z9k (by simp [Z0.cells, Z0.one]) fun b2 hb2 => ?_
    refine Z9a rfl Z8z rfl (by decide) (Z0.fit_iff.1 rfl) (fun h => by cases h) Z9b ?_
    (repeat (refine st_q rfl rfl rfl ?_))
    (refine Z8y ?_; (repeat (first | refine Z9v rfl ?_ | refine Z9w ?_)); refine Z9u ?_)
    refine Zb3 (d := 10) (cs := Zm6 v) rfl ?_
    (refine Z9y (keep := [0, 5, 7, 9, 10, 14, 15, 16]) ?_; ((repeat (first | refine Z9v rfl ?_ | refine Z9w ?_)); refine Z9u ?_))
    by_cases q7 : op = 7
    · rw [if_pos q7] at hM
      (repeat (first | refine st_q rfl rfl rfl ?_ | (refine Z8y ?_; (repeat (first | refine Z9v rfl ?_ | refine Z9w ?_)); refine Z9u ?_) | refine awp_seq ?_ | refine Zbm (fun _ _ => rfl) ?_ | refine Z8h ?_))
      (rw [show decide (op = 7) = true from decide_eq_true (by omega)])
      (repeat (first | refine st_q rfl rfl rfl ?_ | (refine Z8y ?_; (repeat (first | refine Z9v rfl ?_ | refine Z9w ?_)); refine Z9u ?_) | refine awp_seq ?_ | refine Zbm (fun _ _ => rfl) ?_ | refine Z8f (t := true) rfl (fun _ => ?_) (fun e => by cases e)))
      cases hvn : v.null with
      | true =>
        rw [if_pos hvn] at hM
        (repeat (first | refine Zbn (fun _ _ => rfl) ?_ | refine Z8f (t := false) rfl (fun e => by cases e) (fun _ => ?_)))
        (refine Z9y (keep := [0, 5, 7, 14, 15, 16]) ?_; ((repeat (first | refine Z9v rfl ?_ | refine Z9w ?_)); refine Z9u ?_))
        exact next out hM _
      | false =>
        rw [if_neg (by rw [hvn]; simp)] at hM
        rw [← hM]
        (repeat (first | refine st_q rfl rfl rfl ?_ | (refine Z8y ?_; (repeat (first | refine Z9v rfl ?_ | refine Z9w ?_)); refine Z9u ?_) | refine awp_seq ?_ | refine Zbm (fun _ _ => rfl) ?_ | refine Z8f (t := true) rfl (fun _ => ?_) (fun e => by cases e)))
        refine Z8d ?_
        exact ares rfl (HSub.refl _) ⟨rfl, rfl⟩
    rw [if_neg q7] at hM
    by_cases q8 : op = 8
    · rw [if_pos q8] at hM
      (repeat (first | refine st_q rfl rfl rfl ?_ | (refine Z8y ?_; (repeat (first | refine Z9v rfl ?_ | refine Z9w ?_)); refine Z9u ?_) | refine awp_seq ?_ | refine Zbm (fun _ _ => rfl) ?_ | refine Z8h ?_))
      (rw [show decide (op = 7) = false from decide_eq_false (by omega)])
      (repeat (first | refine st_q rfl rfl rfl ?_ | (refine Z8y ?_; (repeat (first | refine Z9v rfl ?_ | refine Z9w ?_)); refine Z9u ?_) | refine awp_seq ?_ | refine Zbm (fun _ _ => rfl) ?_ | refine Z8f (t := false) rfl (fun e => by cases e) (fun _ => ?_)))
      (rw [show decide (op = 8) = true from decide_eq_true (by omega)])
      (repeat (first | refine st_q rfl rfl rfl ?_ | (refine Z8y ?_; (repeat (first | refine Z9v rfl ?_ | refine Z9w ?_)); refine Z9u ?_) | refine awp_seq ?_ | refine Zbm (fun _ _ => rfl) ?_ | refine Z8f (t := true) rfl (fun _ => ?_) (fun e => by cases e)))
      cases hvn : v.null with
      | true =>
        rw [if_pos hvn] at hM
        rw [← hM]
        (repeat (first | refine st_q rfl rfl rfl ?_ | (refine Z8y ?_; (repeat (first | refine Z9v rfl ?_ | refine Z9w ?_)); refine Z9u ?_) | refine awp_seq ?_ | refine Zbm (fun _ _ => rfl) ?_ | refine Z8f (t := true) rfl (fun _ => ?_) (fun e => by cases e)))
        refine Z8d ?_
        exact ares rfl (HSub.refl _) ⟨rfl, rfl⟩
      | false =>
        rw [if_neg (by rw [hvn]; simp)] at hM
        (repeat (first | refine Zbn (fun _ _ => rfl) ?_ | refine Z8f (t := false) rfl (fun e => by cases e) (fun _ => ?_)))
        (refine Z9y (keep := [0, 5, 7, 14, 15, 16]) ?_; ((repeat (first | refine Z9v rfl ?_ | refine Z9w ?_)); refine Z9u ?_))
        exact next out hM _
    rw [if_neg q8] at hM
    (repeat (first | refine st_q rfl rfl rfl ?_ | (refine Z8y ?_; (repeat (first | refine Z9v rfl ?_ | refine Z9w ?_)); refine Z9u ?_) | refine awp_seq ?_ | refine Zbm (fun _ _ => rfl) ?_ | refine Z8h ?_))
    (rw [show decide (op = 7) = false from decide_eq_false (by omega)])
    (repeat (first | refine st_q rfl rfl rfl ?_ | (refine Z8y ?_; (repeat (first | refine Z9v rfl ?_ | refine Z9w ?_)); refine Z9u ?_) | refine awp_seq ?_ | refine Zbm (fun _ _ => rfl) ?_ | refine Z8f (t := false) rfl (fun e => by cases e) (fun _ => ?_)))
    (rw [show decide (op = 8) = false from decide_eq_false (by omega)])
    (repeat (first | refine st_q rfl rfl rfl ?_ | (refine Z8y ?_; (repeat (first | refine Z9v rfl ?_ | refine Z9w ?_)); refine Z9u ?_) | refine awp_seq ?_ | refine Zbm (fun _ _ => rfl) ?_ | refine Z8f (t := false) rfl (fun e => by cases e) (fun _ => ?_)))
    cases hvn : v.null with
    | true =>
      rw [if_pos hvn] at hM
      (repeat (first | refine st_q rfl rfl rfl ?_ | (refine Z8y ?_; (repeat (first | refine Z9v rfl ?_ | refine Z9w ?_)); refine Z9u ?_) | refine awp_seq ?_ | refine Zbm (fun _ _ => rfl) ?_ | refine Zbo (fun _ _ => rfl) ?_ | refine Z8f (t := true) rfl (fun _ => ?_) (fun e => by cases e)))
      (refine Z9y (keep := [0, 5, 7, 14, 15, 16]) ?_; ((repeat (first | refine Z9v rfl ?_ | refine Z9w ?_)); refine Z9u ?_))
      exact next 2 hM _
    | false =>
    rw [if_neg (by rw [hvn]; simp)] at hM
    (repeat (first | refine st_q rfl rfl rfl ?_ | refine awp_seq ?_ | refine Zbm (fun _ _ => rfl) ?_ | refine Z8f (t := false) rfl (fun e => by cases e) (fun _ => ?_)))
    refine Z93 rfl k0 (Z17u hn) ?_
    rw [encN, Zm2]
    (repeat refine st_q rfl rfl rfl ?_)
    refine Zbw rfl (fun τ => c_typ n τ) ?_
    (repeat refine st_q rfl rfl rfl ?_)
    refine Z9t rfl (hcmp _) ?_
    (repeat (first | refine st_q rfl rfl rfl ?_ | (refine Z8y ?_; (repeat (first | refine Z9v rfl ?_ | refine Z9w ?_)); refine Z9u ?_) | refine Zbm (fun _ _ => rfl) ?_))
    refine Z9t rfl (Z17y _ _ _) ?_
    cases hh : Z17x op (cmpV n.t.kind v tv).1 with
    | true =>
      rw [if_pos hh] at hM
      (repeat (first | refine st_q rfl rfl rfl ?_ | (refine Z8y ?_; (repeat (first | refine Z9v rfl ?_ | refine Z9w ?_)); refine Z9u ?_) | refine awp_seq ?_ | refine Zbm (fun _ _ => rfl) ?_ | refine Zbn (fun _ _ => rfl) ?_ | refine Z8f (t := false) rfl (fun e => by cases e) (fun _ => ?_)))
      (refine Z9y (keep := [0, 5, 7, 14, 15, 16]) ?_; ((repeat (first | refine Z9v rfl ?_ | refine Z9w ?_)); refine Z9u ?_))
      exact next out hM _
    | false =>
      rw [if_neg (by rw [hh]; simp)] at hM
      rw [← hM]
      (repeat (first | refine st_q rfl rfl rfl ?_ | (refine Z8y ?_; (repeat (first | refine Z9v rfl ?_ | refine Z9w ?_)); refine Z9u ?_) | refine awp_seq ?_ | refine Zbm (fun _ _ => rfl) ?_ | refine Z8f (t := true) rfl (fun _ => ?_) (fun e => by cases e)))
      refine Z8d ?_
      exact ares rfl (HSub.refl _) ⟨rfl, rfl⟩
  · (repeat (first | refine st_q rfl rfl rfl ?_ | (refine Z8y ?_; (repeat (first | refine Z9v rfl ?_ | refine Z9w ?_)); refine Z9u ?_) | refine awp_seq ?_ | refine Zbm (fun _ _ => rfl) ?_ | refine Zbo (fun _ _ => rfl) ?_))
    have e : p.drop i = [] := List.drop_eq_nil_of_le (by omega)
    rw [e, Z189] at hM
    rw [← hM]
    refine Z8d ?_
    exact ares rfl (HSub.refl _) ⟨rfl, rfl⟩
end Go.Abs
namespace Go.Abs
open Go Go.Proofs
set_option linter.unusedVariables false
set_option linter.unusedSimpArgs false
set_option maxHeartbeats 4000000
attribute [local irreducible] AWp aops KP
def okM (l : List Nd) (t : Tm) : Bool :=
  goodF l t.col && (if t.op = 7 ∨ t.op = 8 then Z17r t.v else if 1 ≤ t.op ∧ t.op ≤ 6 then !t.v.null && (match l[t.col.toNat]? with | none => false | some n => decide (vchk (tyN n) t.v = 0)) else false)
def Z18b (l : List Nd) (p : List Tm) : Nat := if 16 < p.length then 1 else if p.all (okM l) = true then 0 else 1
theorem Z18c (l : List Nd) (hw : WfN l) (hok : ∀ n ∈ l, Zlt n.t.kind = true → (tyN n).Ok) (f e : Bool) (p : List Tm) (hfit : ∀ t ∈ p, t.v.Fit) (σ : Zc) :
    Z1q Try.prog Zdh [.slc 8 (l.map encN) f, .slc 7 (p.map encM) e] σ fun r σ' => r = .int .i64 (Z18b l p : Int) ∧ σ' = σ := by
  have hpl : (p.map encM).length = p.length := List.length_map ..
  refine Z8t rfl Z17h (Nat.le_of_ble_eq_true rfl) ?_
  (repeat (first | refine st_q rfl rfl rfl ?_ | (refine Z8y ?_; (repeat (first | refine Z9v rfl ?_ | refine Z9w ?_)); refine Z9u ?_) | refine awp_seq ?_ | refine Zbm (fun _ _ => rfl) ?_))
  rw [hpl]
  by_cases h16 : 16 < p.length
  · rw [Z18b, if_pos h16]
    (rw [show decide ((p.length : Int) > 16) = true from decide_eq_true (by omega)])
    (repeat (first | refine st_q rfl rfl rfl ?_ | (refine Z8y ?_; (repeat (first | refine Z9v rfl ?_ | refine Z9w ?_)); refine Z9u ?_) | refine awp_seq ?_ | refine Zbm (fun _ _ => rfl) ?_ | refine Z8f (t := true) rfl (fun _ => ?_) (fun e => by cases e)))
    refine Z8d ?_
    exact ares rfl (HSub.refl _) ⟨rfl, rfl⟩
  rw [Z18b, if_neg h16]
  (rw [show decide ((p.length : Int) > 16) = false from decide_eq_false (by omega)])
  (repeat (first | refine st_q rfl rfl rfl ?_ | (refine Z8y ?_; (repeat (first | refine Z9v rfl ?_ | refine Z9w ?_)); refine Z9u ?_) | refine awp_seq ?_ | refine Zbm (fun _ _ => rfl) ?_ | refine Z8h ?_ | refine Zbn (fun _ _ => rfl) ?_ | refine Z8f (t := false) rfl (fun e => by cases e) (fun _ => ?_)))
  rw [hpl]
  generalize hX : (if p.all (okM l) = true then 0 else 1 : Nat) = X
  obtain ⟨I, hI⟩ : ∃ I : Nat → Z26 → Zc → Prop, I = fun m F σ' => ∃ i : Nat, F = fset 0 (some (.slc 8 (l.map encN) f)) (fset 11 (some (.slc 7 (p.map encM) e)) (fset 12 (some (.int .i64 p.length)) (fset 13 (some (.int .i64 i)) Z27))) ∧ σ = σ' ∧ i ≤ p.length ∧ m = p.length - i ∧ (if (p.drop i).all (okM l) = true then 0 else 1 : Nat) = X := ⟨_, rfl⟩
  refine Zaa I (n := p.length) (by rw [hI]; exact ⟨0, rfl, rfl, by omega, by omega, by rw [List.drop_zero]; exact hX⟩) ?_
  intro m F σ' hIm
  rw [hI] at hIm
  obtain ⟨i, rfl, rfl, hi, rfl, hM⟩ := hIm
  (repeat (first | refine st_q rfl rfl rfl ?_ | (refine Z8y ?_; (repeat (first | refine Z9v rfl ?_ | refine Z9w ?_)); refine Z9u ?_) | refine awp_seq ?_ | refine Zbm (fun _ _ => rfl) ?_))
  refine Za3 (p := (i : Int) < (p.length : Int)) rfl (fun h3 => ?_) (fun h3 => ?_)
  · have hil : i < p.length := by omega
    have hti : p[i]? = some p[i] := List.getElem?_eq_getElem hil
    have hx := Z187 (i := (i : Int)) (show p[(i : Int).toNat]? = some p[i] from hti)
    have hft := hfit p[i] (List.getElem_mem hil)
    rw [List.drop_eq_getElem_cons hil, List.all_cons] at hM
    generalize p[i] = t at hx hM hft
    have hgd := fun τ => Z17w l hw f t.col τ
    have hno := fun τ => Z17s t.v τ
    obtain ⟨tc, op, tv⟩ := t
    simp only at *
    rw [encM, Z17q, Zm6] at hx
    simp only at hx
    rw [Zm7] at hno
    have next : okM l ⟨tc, op, tv⟩ = true → ∀ Q : Z87, AWp Try.prog Z150.n (.region Z14x [0, 11, 12, 13]) (Za9 I (p.length - i) Q)
        (fset 0 (some (.slc 8 (l.map encN) f)) (fset 11 (some (.slc 7 (p.map encM) e)) (fset 12 (some (.int .i64 p.length)) (fset 13 (some (.int .i64 i)) Z27)))) σ := fun ho Q => by
      rw [ho, Bool.true_and] at hM
      refine Zbp ?_
      (repeat (refine st_q rfl rfl rfl ?_))
      rw [show IntKind.wrap .i64 ((i : Int) + 1) = ((i + 1 : Nat) : Int) by rw [w64 _ (by omega) (by omega)]; omega]
      (repeat (refine st_q rfl rfl rfl ?_))
      (refine Z8y ?_; (repeat (first | refine Z9v rfl ?_ | refine Z9w ?_)); refine Z9u ?_)
      refine ⟨_, p.length - (i + 1), HSub.refl _, ?_, by omega⟩
      rw [hI]
      exact ⟨i + 1, rfl, rfl, by omega, rfl, hM⟩
    have bad : okM l ⟨tc, op, tv⟩ = false → 1 = X := fun h => by
      rw [h, Bool.false_and, if_neg (by simp)] at hM
      exact hM
    (repeat (first | refine awp_seq ?_ | refine Zbm (fun _ _ => rfl) ?_ | refine Z8h ?_ | refine Zbn (fun _ _ => rfl) ?_))
    refine Z93 rfl (by omega) hx ?_
    (repeat refine st_q rfl rfl rfl ?_)
    refine Z9k (by simp [Z0.cells, Z0.one]) fun b hb => ?_
    refine Z9a rfl Z8z rfl (by decide) (Z0.fit_iff.1 rfl) (fun h => by cases h) Z9b ?_
    (repeat (refine st_q rfl rfl rfl ?_))
    (refine Z8y ?_; (repeat (first | refine Z9v rfl ?_ | refine Z9w ?_)); refine Z9u ?_)
    refine Zb3 (d := 6) (cs := [.int .i64 tc, .int .i64 op, .bool tv.null, .int .i64 tv.i, .int .i64 tv.n, .slc 1 (bytes tv.b) false, .slc 5 (Zm5 tv.kids) false]) rfl ?_
    (refine Z9y (keep := [0, 6, 11, 12, 13]) ?_; ((repeat (first | refine Z9v rfl ?_ | refine Z9w ?_)); refine Z9u ?_))
    (repeat (first | refine st_q rfl rfl rfl ?_ | refine awp_seq ?_ | refine Zbm (fun _ _ => rfl) ?_))
    refine Z9t rfl (hgd _) ?_
    cases hgc : goodF l tc with
    | false =>
      rw [← bad (by rw [okM]; simp only [hgc, Bool.false_and])]
      (repeat (first | refine st_q rfl rfl rfl ?_ | (refine Z8y ?_; (repeat (first | refine Z9v rfl ?_ | refine Z9w ?_)); refine Z9u ?_) | refine awp_seq ?_ | refine Zbm (fun _ _ => rfl) ?_ | refine Z8f (t := true) rfl (fun _ => ?_) (fun e => by cases e)))
      refine Z8d ?_
      exact ares rfl (HSub.refl _) ⟨rfl, rfl⟩
    | true =>
    obtain ⟨k0, k1⟩ := Z181 hgc
    obtain ⟨n, hn⟩ : ∃ n, l[tc.toNat]? = some n := ⟨_, List.getElem?_eq_getElem (by omega)⟩
    have hleaf : Zlt n.t.kind = true := by
      rw [goodF, if_neg (by omega), hn] at hgc
      simp only [Bool.and_eq_true] at hgc
      exact hgc.1
    have hokn := hok n (List.mem_of_getElem? hn) hleaf
    have hchk := fun τ => Z138 tv hft (tyN n) hokn τ
    rw [Zm7] at hchk
    have hom : okM l ⟨tc, op, tv⟩ = (if op = 7 ∨ op = 8 then Z17r tv else if 1 ≤ op ∧ op ≤ 6 then !tv.null && decide (vchk (tyN n) tv = 0) else false) := by
      rw [okM]
      simp only [hgc, hn, Bool.true_and]
    by_cases q7 : op = 7
    · rw [if_pos (.inl q7)] at hom
      subst q7
      (repeat (first | refine st_q rfl rfl rfl ?_ | (refine Z8y ?_; (repeat (first | refine Z9v rfl ?_ | refine Z9w ?_)); refine Z9u ?_) | refine awp_seq ?_ | refine Zbm (fun _ _ => rfl) ?_ | refine Z8h ?_ | refine Zbn (fun _ _ => rfl) ?_ | refine Zbo (fun _ _ => rfl) ?_ | refine Z8f (t := true) rfl (fun _ => ?_) (fun e => by cases e) | refine Z8f (t := false) rfl (fun e => by cases e) (fun _ => ?_)))
      refine Z9t rfl (hno _) ?_
      cases hnn : Z17r tv with
      | true =>
        (repeat (first | refine st_q rfl rfl rfl ?_ | (refine Z8y ?_; (repeat (first | refine Z9v rfl ?_ | refine Z9w ?_)); refine Z9u ?_) | refine awp_seq ?_ | refine Zbm (fun _ _ => rfl) ?_ | refine Zbn (fun _ _ => rfl) ?_ | refine Zbo (fun _ _ => rfl) ?_ | refine Z8f (t := false) rfl (fun e => by cases e) (fun _ => ?_)))
        (refine Z9y (keep := [0, 11, 12, 13]) ?_; ((repeat (first | refine Z9v rfl ?_ | refine Z9w ?_)); refine Z9u ?_))
        exact next (by rw [hom, hnn]) _
      | false =>
        rw [← bad (by rw [hom, hnn])]
        (repeat (first | refine st_q rfl rfl rfl ?_ | (refine Z8y ?_; (repeat (first | refine Z9v rfl ?_ | refine Z9w ?_)); refine Z9u ?_) | refine awp_seq ?_ | refine Zbm (fun _ _ => rfl) ?_ | refine Zbo (fun _ _ => rfl) ?_ | refine Z8f (t := true) rfl (fun _ => ?_) (fun e => by cases e)))
        refine Z8d ?_
        exact ares rfl (HSub.refl _) ⟨rfl, rfl⟩
    by_cases q8 : op = 8
    · rw [if_pos (.inr q8)] at hom
      subst q8
      (repeat (first | refine st_q rfl rfl rfl ?_ | (refine Z8y ?_; (repeat (first | refine Z9v rfl ?_ | refine Z9w ?_)); refine Z9u ?_) | refine awp_seq ?_ | refine Zbm (fun _ _ => rfl) ?_ | refine Z8h ?_ | refine Zbn (fun _ _ => rfl) ?_ | refine Zbo (fun _ _ => rfl) ?_ | refine Z8f (t := true) rfl (fun _ => ?_) (fun e => by cases e) | refine Z8f (t := false) rfl (fun e => by cases e) (fun _ => ?_)))
      refine Z9t rfl (hno _) ?_
      cases hnn : Z17r tv with
      | true =>
        (repeat (first | refine st_q rfl rfl rfl ?_ | (refine Z8y ?_; (repeat (first | refine Z9v rfl ?_ | refine Z9w ?_)); refine Z9u ?_) | refine awp_seq ?_ | refine Zbm (fun _ _ => rfl) ?_ | refine Zbn (fun _ _ => rfl) ?_ | refine Zbo (fun _ _ => rfl) ?_ | refine Z8f (t := false) rfl (fun e => by cases e) (fun _ => ?_)))
        (refine Z9y (keep := [0, 11, 12, 13]) ?_; ((repeat (first | refine Z9v rfl ?_ | refine Z9w ?_)); refine Z9u ?_))
        exact next (by rw [hom, hnn]) _
      | false =>
        rw [← bad (by rw [hom, hnn])]
        (repeat (first | refine st_q rfl rfl rfl ?_ | (refine Z8y ?_; (repeat (first | refine Z9v rfl ?_ | refine Z9w ?_)); refine Z9u ?_) | refine awp_seq ?_ | refine Zbm (fun _ _ => rfl) ?_ | refine Zbo (fun _ _ => rfl) ?_ | refine Z8f (t := true) rfl (fun _ => ?_) (fun e => by cases e)))
        refine Z8d ?_
        exact ares rfl (HSub.refl _) ⟨rfl, rfl⟩
    rw [if_neg (by omega)] at hom
    by_cases hop : 1 ≤ op ∧ op ≤ 6
    · rw [if_pos hop] at hom
      have h6 : op = 1 ∨ op = 2 ∨ op = 3 ∨ op = 4 ∨ op = 5 ∨ op = 6 := by omega
      rcases h6 with rfl | rfl | rfl | rfl | rfl | rfl
      all_goals
        (repeat (first | refine st_q rfl rfl rfl ?_ | (refine Z8y ?_; (repeat (first | refine Z9v rfl ?_ | refine Z9w ?_)); refine Z9u ?_) | refine awp_seq ?_ | refine Zbm (fun _ _ => rfl) ?_ | refine Z8h ?_ | refine Zbn (fun _ _ => rfl) ?_ | refine Zbo (fun _ _ => rfl) ?_ | refine Z8f (t := true) rfl (fun _ => ?_) (fun e => by cases e) | refine Z8f (t := false) rfl (fun e => by cases e) (fun _ => ?_)))
        cases hvn : tv.null with
        | true =>
          rw [hvn] at hom
          rw [← bad (by rw [hom]; rfl)]
          (repeat (first | refine st_q rfl rfl rfl ?_ | refine Z8w rfl ?_ | (refine Z8y ?_; (repeat (first | refine Z9v rfl ?_ | refine Z9w ?_)); refine Z9u ?_) | refine awp_seq ?_ | refine Zbm (fun _ _ => rfl) ?_ | refine Zbo (fun _ _ => rfl) ?_ | refine Z8f (t := true) rfl (fun _ => ?_) (fun e => by cases e)))
          refine Z8d ?_
          exact ares rfl (HSub.refl _) ⟨rfl, rfl⟩
        | false =>
          rw [hvn] at hom
          simp only [Zm6, hvn] at hchk
          (repeat refine Z8v rfl (st_q rfl rfl rfl ?_))
          refine Z8v rfl (Z93 rfl k0 (Z17u hn) ?_)
          rw [encN, Zm2]
          (repeat refine Z8v rfl (st_q rfl rfl rfl ?_))
          refine Z8v rfl (Zbw rfl (fun τ => c_typ n τ) ?_)
          (repeat refine Z8v rfl (st_q rfl rfl rfl ?_))
          refine Z8v rfl (Z9t rfl (hchk _) ?_)
          (repeat (first | refine st_q rfl rfl rfl ?_ | refine Z8v rfl (st_q rfl rfl rfl ?_) | (refine Z8y ?_; (repeat (first | refine Z9v rfl ?_ | refine Z9w ?_)); refine Z9u ?_) | refine awp_seq ?_ | refine Zbm (fun _ _ => rfl) ?_ | refine Zbo (fun _ _ => rfl) ?_))
          by_cases hv0 : vchk (tyN n) tv = 0
          · (rw [show decide ((vchk (tyN n) tv : Int) = 0) = true from decide_eq_true (by omega)])
            (repeat (first | refine Zbn (fun _ _ => rfl) ?_ | refine Z8f (t := false) rfl (fun e => by cases e) (fun _ => ?_)))
            (refine Z9y (keep := [0, 11, 12, 13]) ?_; ((repeat (first | refine Z9v rfl ?_ | refine Z9w ?_)); refine Z9u ?_))
            exact next (by rw [hom, decide_eq_true hv0]; rfl) _
          · (rw [show decide ((vchk (tyN n) tv : Int) = 0) = false from decide_eq_false (by omega)])
            rw [← bad (by rw [hom, decide_eq_false hv0]; rfl)]
            (repeat (first | refine st_q rfl rfl rfl ?_ | (refine Z8y ?_; (repeat (first | refine Z9v rfl ?_ | refine Z9w ?_)); refine Z9u ?_) | refine awp_seq ?_ | refine Zbm (fun _ _ => rfl) ?_ | refine Z8f (t := true) rfl (fun _ => ?_) (fun e => by cases e)))
            refine Z8d ?_
            exact ares rfl (HSub.refl _) ⟨rfl, rfl⟩
    rw [if_neg (by omega)] at hom
    rw [← bad hom]
    (repeat (first | refine st_q rfl rfl rfl ?_ | (refine Z8y ?_; (repeat (first | refine Z9v rfl ?_ | refine Z9w ?_)); refine Z9u ?_) | refine awp_seq ?_ | refine Zbm (fun _ _ => rfl) ?_ | refine Z8h ?_ | refine Zbn (fun _ _ => rfl) ?_ | refine Z8f (t := false) rfl (fun e => by cases e) (fun _ => ?_)))
    (rw [show decide (op = 7) = false from decide_eq_false (by omega)])
    (repeat (first | refine st_q rfl rfl rfl ?_ | (refine Z8y ?_; (repeat (first | refine Z9v rfl ?_ | refine Z9w ?_)); refine Z9u ?_) | refine awp_seq ?_ | refine Zbm (fun _ _ => rfl) ?_ | refine Zbn (fun _ _ => rfl) ?_ | refine Z8f (t := false) rfl (fun e => by cases e) (fun _ => ?_)))
    (rw [show decide (op = 8) = false from decide_eq_false (by omega)])
    (repeat (first | refine st_q rfl rfl rfl ?_ | (refine Z8y ?_; (repeat (first | refine Z9v rfl ?_ | refine Z9w ?_)); refine Z9u ?_) | refine awp_seq ?_ | refine Zbm (fun _ _ => rfl) ?_ | refine Zbn (fun _ _ => rfl) ?_ | refine Z8f (t := false) rfl (fun e => by cases e) (fun _ => ?_)))
    (rw [show decide (op = 1) = false from decide_eq_false (by omega)])
    (repeat (first | refine st_q rfl rfl rfl ?_ | (refine Z8y ?_; (repeat (first | refine Z9v rfl ?_ | refine Z9w ?_)); refine Z9u ?_) | refine awp_seq ?_ | refine Zbm (fun _ _ => rfl) ?_ | refine Z8f (t := false) rfl (fun e => by cases e) (fun _ => ?_)))
    (rw [show decide (op = 2) = false from decide_eq_false (by omega)])
    (repeat (first | refine st_q rfl rfl rfl ?_ | (refine Z8y ?_; (repeat (first | refine Z9v rfl ?_ | refine Z9w ?_)); refine Z9u ?_) | refine awp_seq ?_ | refine Zbm (fun _ _ => rfl) ?_ | refine Z8f (t := false) rfl (fun e => by cases e) (fun _ => ?_)))
    (rw [show decide (op = 3) = false from decide_eq_false (by omega)])
    (repeat (first | refine st_q rfl rfl rfl ?_ | (refine Z8y ?_; (repeat (first | refine Z9v rfl ?_ | refine Z9w ?_)); refine Z9u ?_) | refine awp_seq ?_ | refine Zbm (fun _ _ => rfl) ?_ | refine Z8f (t := false) rfl (fun e => by cases e) (fun _ => ?_)))
    (rw [show decide (op = 4) = false from decide_eq_false (by omega)])
    (repeat (first | refine st_q rfl rfl rfl ?_ | (refine Z8y ?_; (repeat (first | refine Z9v rfl ?_ | refine Z9w ?_)); refine Z9u ?_) | refine awp_seq ?_ | refine Zbm (fun _ _ => rfl) ?_ | refine Z8f (t := false) rfl (fun e => by cases e) (fun _ => ?_)))
    (rw [show decide (op = 5) = false from decide_eq_false (by omega)])
    (repeat (first | refine st_q rfl rfl rfl ?_ | (refine Z8y ?_; (repeat (first | refine Z9v rfl ?_ | refine Z9w ?_)); refine Z9u ?_) | refine Zbm (fun _ _ => rfl) ?_ | refine Z8f (t := false) rfl (fun e => by cases e) (fun _ => ?_)))
    (rw [show decide (op = 6) = false from decide_eq_false (by omega)])
    (repeat (first | refine st_q rfl rfl rfl ?_ | (refine Z8y ?_; (repeat (first | refine Z9v rfl ?_ | refine Z9w ?_)); refine Z9u ?_) | refine awp_seq ?_ | refine Zbm (fun _ _ => rfl) ?_ | refine Zbn (fun _ _ => rfl) ?_ | refine Zbo (fun _ _ => rfl) ?_ | refine Z8f (t := true) rfl (fun _ => ?_) (fun e => by cases e) | refine Z8f (t := false) rfl (fun e => by cases e) (fun _ => ?_)))
    refine Z8d ?_
    exact ares rfl (HSub.refl _) ⟨rfl, rfl⟩
  · (repeat (first | refine st_q rfl rfl rfl ?_ | (refine Z8y ?_; (repeat (first | refine Z9v rfl ?_ | refine Z9w ?_)); refine Z9u ?_) | refine awp_seq ?_ | refine Zbm (fun _ _ => rfl) ?_ | refine Zbo (fun _ _ => rfl) ?_))
    have e : p.drop i = [] := List.drop_eq_nil_of_le (by omega)
    rw [e, List.all_nil, if_pos rfl] at hM
    rw [← hM]
    refine Z8d ?_
    exact ares rfl (HSub.refl _) ⟨rfl, rfl⟩
end Go.Abs
namespace Go.Abs
open Go Go.Proofs
set_option linter.unusedVariables false
set_option linter.unusedSimpArgs false
theorem Z1f7 : ∀ (t : Ty) (a : Nat) (p : Int) (d : Nat), -1 ≤ p → p < a → ∀ (i : Nat) (n : Nd), (Zlz a p d t)[i]? = some n → -1 ≤ n.parent ∧ n.parent < (a + i : Nat) := by
  refine Ty.ind fun k ns ks l pr s ih a p d h1 h2 i n hn => ?_
  have hL : ∀ (ts : List Ty), (∀ t ∈ ts, ∀ (a : Nat) (p : Int) (d : Nat), -1 ≤ p → p < a → ∀ (i : Nat) (n : Nd), (Zlz a p d t)[i]? = some n → -1 ≤ n.parent ∧ n.parent < (a + i : Nat)) →
      ∀ (a : Nat) (p : Int) (d : Nat), -1 ≤ p → p < a → ∀ (i : Nat) (n : Nd), (Zm0 a p d ts)[i]? = some n → -1 ≤ n.parent ∧ n.parent < (a + i : Nat) := by
    intro ts
    induction ts with
    | nil => intro _ a p d _ _ i n hn; rw [Zm0] at hn; cases hn
    | cons t ts ih2 =>
      intro h a p d h1 h2 i n hn
      rw [Zm0] at hn
      by_cases hi : i < (Zlz a p d t).length
      · rw [List.getElem?_append_left hi] at hn
        exact h t (by simp) a p d h1 h2 i n hn
      · rw [List.getElem?_append_right (by omega)] at hn
        have := ih2 (fun t ht => h t (by simp [ht])) (a + cnt t) p d h1 (by omega) _ n hn
        rw [Zm1] at this hi
        omega
  rw [Zlz] at hn
  cases i with
  | zero =>
    rw [List.getElem?_cons_zero] at hn
    cases hn
    exact ⟨h1, by simpa using h2⟩
  | succ i =>
    rw [List.getElem?_cons_succ] at hn
    have := hL ks ih (a + 1) (a : Int) (d + 1) (by omega) (by omega) i n hn
    omega
theorem Z1f8 {P : Ty → Prop} {Q : Nd → Prop} (hP : ∀ t, P t → ∀ k ∈ t.kids, P k) (hQ : ∀ (t : Ty) (a : Nat) (p : Int) (d : Nat), P t → Q ⟨t, Zly a t.kids, p, d⟩) : ∀ (t : Ty), P t → ∀ (a : Nat) (p : Int) (d : Nat), ∀ n ∈ Zlz a p d t, Q n := by
  refine Ty.ind fun k ns ks l pr s ih ht a p d n hn => ?_
  have hL : ∀ (ts : List Ty), (∀ t ∈ ts, P t ∧ (P t → ∀ (a : Nat) (p : Int) (d : Nat), ∀ n ∈ Zlz a p d t, Q n)) → ∀ (a : Nat) (p : Int) (d : Nat), ∀ n ∈ Zm0 a p d ts, Q n := by
    intro ts
    induction ts with
    | nil => intro _ a p d n hn; rw [Zm0] at hn; cases hn
    | cons t ts ih2 =>
      intro h a p d n hn
      rw [Zm0, List.mem_append] at hn
      rcases hn with hn | hn
      · obtain ⟨h1, h2⟩ := h t (by simp)
        exact h2 h1 a p d n hn
      · exact ih2 (fun t ht => h t (by simp [ht])) _ p d n hn
  rw [Zlz, List.mem_cons] at hn
  rcases hn with rfl | hn
  · exact hQ _ (a + 1) p d ht
  · exact hL ks (fun t hk => ⟨hP _ ht t hk, ih t hk⟩) _ _ _ n hn
theorem Z1f9 (t : Ty) : WfN (Zm4 t) := by
  rw [Zm4]
  split
  · rename_i hc
    obtain ⟨_, hs, hcnt⟩ := Znd t 1 0 hc
    refine ⟨by rw [Zm1]; omega, fun i n hn => ?_, fun n hn => ?_⟩
    · have := Z1f7 t 0 (-1) 1 (by omega) (by omega) i n hn
      simpa using this
    · refine Z1f8 (P := Ty.Small) (Q := fun n => n.kids.length ≤ 1000000) (fun t ht k hk => ?_) (fun t a p d ht => ?_) t hs 0 (-1) 1 n hn
      · cases ht with
        | mk _ _ _ h => exact h k hk
      · cases ht with
        | mk h1 _ _ _ =>
          simp only [Znl]
          omega
  · exact ⟨by simp, fun i n hn => by simp at hn, fun n hn => by simp at hn⟩
theorem Z1fa (t : Ty) : ∀ n ∈ Zm4 t, n.t.Ok := by
  intro n hn
  rw [Zm4] at hn
  split at hn
  · rename_i hc
    refine Z1f8 (P := Ty.Ok) (Q := fun n => n.t.Ok) (fun t ht k hk => ?_) (fun t a p d ht => ht) t (Ztu t 1 0 hc) 0 (-1) 1 n hn
    cases ht with
    | mk _ h => exact h k hk
  · cases hn
end Go.Abs
namespace Go.Abs
open Go Go.Proofs
set_option linter.unusedVariables false
set_option linter.unusedSimpArgs false
mutual
def fewT (deep : Nat) : Ty → Nat
  | .mk k ns ks l p s => if 20 < deep ∨ 300 < ks.length ∨ 300 < ns.length then 1000 else if ns.any (fun s => decide (200 < s.length)) = true then 1000 else fewTL (deep + 1) 1 ks
def fewTL (deep n : Nat) : List Ty → Nat
  | [] => n
  | t :: ts => if 1000 < n + fewT deep t then 1000 else fewTL deep (n + fewT deep t) ts
end
mutual
def fewV (deep : Nat) : Vl → Nat
  | .mk nu i n b ks => if 20 < deep ∨ 400 < ks.length ∨ 5000 < b.length then 1000 else fewVL (deep + 1) (1 + b.length / 50) ks
def fewVL (deep n : Nat) : List Vl → Nat
  | [] => n
  | t :: ts => if 1000 < n + fewV deep t then 1000 else fewVL deep (n + fewV deep t) ts
end
theorem Z1fb : ∀ (ts : List Ty) (deep n : Nat), n ≤ 1000 → n ≤ fewTL deep n ts
  | [], deep, n, h => by rw [fewTL]; omega
  | t :: ts, deep, n, h => by
    rw [fewTL]
    split
    · exact h
    · have := Z1fb ts deep (n + fewT deep t) (by omega)
      omega
theorem Z1fc : ∀ (ts : List Ty) (deep n : Nat), n ≤ 1000 → fewTL deep n ts < 1000 → ∀ t ∈ ts, fewT deep t < 1000 ∧ n + fewT deep t ≤ fewTL deep n ts
  | [], _, _, _, _, t, ht => by cases ht
  | t :: ts, deep, n, h, hlt, u, hu => by
    rw [fewTL] at hlt ⊢
    split at hlt
    · omega
    · rename_i h1
      rw [if_neg h1]
      have hge := Z1fb ts deep (n + fewT deep t) (by omega)
      rcases List.mem_cons.1 hu with rfl | hu
      · omega
      · have := Z1fc ts deep (n + fewT deep t) (by omega) hlt u hu
        omega
theorem Z1fd : ∀ (t : Ty) (deep : Nat), fewT deep t ≤ 1000 := by
  refine Ty.ind fun k ns ks l p s ih deep => ?_
  have hL : ∀ (ts : List Ty) (deep n : Nat), n ≤ 1000 → fewTL deep n ts ≤ 1000 := by
    intro ts
    induction ts with
    | nil => intro deep n h; rw [fewTL]; exact h
    | cons t ts ih2 =>
      intro deep n h
      rw [fewTL]
      split
      · omega
      · exact ih2 deep _ (by omega)
  rw [fewT]
  split
  · omega
  · split
    · omega
    · exact hL ks _ 1 (by omega)
theorem Z1fe : ∀ (t : Vl) (deep : Nat), fewV deep t ≤ 1000 := by
  refine Vl.ind fun nu i n b ks ih deep => ?_
  have hL : ∀ (ts : List Vl) (deep n : Nat), n ≤ 1000 → fewVL deep n ts ≤ 1000 := by
    intro ts
    induction ts with
    | nil => intro deep n h; rw [fewVL]; exact h
    | cons t ts ih2 =>
      intro deep n h
      rw [fewVL]
      split
      · omega
      · exact ih2 deep _ (by omega)
  rw [fewV]
  split
  · omega
  · exact hL ks _ _ (by omega)
inductive Ty.Few : Ty → Prop
  | mk {t : Ty} (h1 : t.kids.length ≤ 300) (h2 : t.names.length ≤ 300) (h4 : ∀ s ∈ t.names, s.length ≤ 200) (h : ∀ k ∈ t.kids, Ty.Few k) : Ty.Few t
theorem Z1ff : ∀ (t : Ty) (deep : Nat), fewT deep t < 1000 → t.Few := by
  refine Ty.ind fun k ns ks l p s ih deep h => ?_
  rw [fewT] at h
  split at h
  · omega
  · split at h
    · omega
    · rename_i h1 h2
      refine .mk (by show ks.length ≤ 300; omega) (by show ns.length ≤ 300; omega) (fun s hs => ?_) fun t ht => ih t ht (deep + 1) (Z1fc ks (deep + 1) 1 (by omega) h t ht).1
      refine Nat.le_of_not_lt fun h3 => h2 ?_
      exact List.any_eq_true.2 ⟨s, hs, decide_eq_true h3⟩
theorem Ty.Few.fit : ∀ t : Ty, t.Few → t.Fit := by
  refine Ty.ind fun k ns ks l p s ih h => ?_
  cases h with
  | mk h1 h2 h4 h3 => exact .mk (by omega) (by omega) (fun s hs => Nat.le_trans (h4 s hs) (by unfold maxLen; omega)) fun t ht => ih t ht (h3 t ht)
inductive Vl.Few : Vl → Prop
  | mk {v : Vl} (h1 : v.b.length ≤ 5000) (h2 : v.kids.length ≤ 400) (h : ∀ k ∈ v.kids, Vl.Few k) : Vl.Few v
def fewR (n : Nat) : List Vl → Bool
  | [] => true
  | v :: vs => if 1000 < n + fewV 1 v then false else fewR (n + fewV 1 v) vs
end Go.Abs

