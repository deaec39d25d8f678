/- Part L of a proof: merged by program. -/
import Derived.Test.YtgmefkhincnajaaPkK
import Derived.Test.YtgmefkhincnajaaProg
import Derived.KernelRfl
namespace Go.Abs
open Go
def Z139 : List Z2a := [
  ⟨some 6, .mov, [.c (.bool false)], none⟩]
def Z13a : List Z2a := [
  ⟨some 9, .mov, [.t 1], none⟩,
  ⟨some 10, .lens, [.t 9], none⟩,
  ⟨some 11, .mov, [.c (.int .i64 0)], none⟩]
def Z13b : List Z2a := [
  ⟨some 12, (.bin .lss), [.t 11, .t 10], none⟩]
def Z13c : List Z2a := [
  ⟨some 13, (.iad 7), [.t 9, .t 11], none⟩,
  ⟨some 14, (.load true 7), [.t 13], none⟩,
  ⟨some 8, (.alloc (.agg [(.int .i64 0), (.int .i64 0), (.bool false), (.int .i64 0), (.int .i64 0), (.slc 0 [] true), (.slc 0 [] true)])), [], none⟩,
  ⟨none, (.store 7), [.t 8, .t 14], none⟩]
def Z13d : List Z2a := [
  ⟨some 15, .mov, [.t 0], none⟩,
  ⟨some 16, (.fad 0), [.t 8], none⟩,
  ⟨some 17, (.load false 1), [.t 16], none⟩,
  ⟨some 18, (.call Zeh), [.t 15, .t 17], none⟩,
  ⟨some 19, .mov, [.t 18], none⟩,
  ⟨some 20, (.fad 0), [.t 8], some (19, true)⟩,
  ⟨some 21, (.load false 1), [.t 20], some (19, true)⟩,
  ⟨some 22, .mov, [.t 2], some (19, true)⟩,
  ⟨some 23, .lens, [.t 22], some (19, true)⟩,
  ⟨some 24, (.bin .lss), [.t 21, .t 23], some (19, true)⟩,
  ⟨some 25, .pick, [.t 19, .t 24, .c (.bool false)], none⟩,
  ⟨some 26, .mov, [.t 25], none⟩,
  ⟨some 27, .mov, [.t 0], some (26, true)⟩,
  ⟨some 28, (.load true 7), [.t 8], some (26, true)⟩,
  ⟨some 29, .mov, [.t 2], some (26, true)⟩,
  ⟨some 30, (.call Zei), [.t 27, .t 28, .t 29], some (26, true)⟩,
  ⟨some 31, .unot, [.t 30], some (26, true)⟩,
  ⟨some 32, .pick, [.t 26, .t 31, .c (.bool false)], none⟩]
def Z13e : List Z2a := [
  ⟨some 6, .mov, [.c (.bool false)], none⟩]
def Z13f : List Z2a := [
  ⟨some 33, (.bin .add), [.t 11, .c (.int .i64 1)], none⟩,
  ⟨some 11, .mov, [.t 33], none⟩]
def Z13g : Z2b := (.seq (.region Z13b [0, 2, 9, 10, 11, 12]) (.seq (.cond (.t 12) .skip (.exit 0)) (.seq (.block 1 (.seq (.region Z13c [0, 2, 8, 9, 10, 11]) (.seq (.region Z13d [0, 2, 9, 10, 11, 32]) (.cond (.t 32) (.seq (.region Z13e [6]) .ret) .skip)))) (.region Z13f [0, 2, 9, 10, 11]))))
def Z13h : List Z2a := [
  ⟨some 6, .mov, [.c (.bool true)], none⟩]
def Z13i : Z2y := ⟨34, (.seq (.region Z139 [0, 1, 2]) (.seq (.seq (.region Z13a [0, 2, 9, 10, 11]) (.block 0 (.loop Z13g))) (.seq (.region Z13h [6]) .ret))), [.t 6]⟩
def Z13j : List Z2a := [
  ⟨some 5, (.box 5), [.t 2], none⟩,
  ⟨some 6, .mov, [.c (.int .i64 0)], none⟩]
def Z13k : List Z2a := [
  ⟨some 7, .mov, [.c (.int .i64 1)], none⟩]
def Z13l : List Z2a := [
  ⟨some 14, .mov, [.t 1], none⟩,
  ⟨some 15, .lens, [.t 14], none⟩,
  ⟨some 16, .mov, [.c (.int .i64 0)], none⟩]
def Z13m : List Z2a := [
  ⟨some 17, (.bin .lss), [.t 16, .t 15], none⟩]
def Z13n : List Z2a := [
  ⟨some 18, (.iad 7), [.t 14, .t 16], none⟩,
  ⟨some 19, (.load true 7), [.t 18], none⟩,
  ⟨some 9, (.alloc (.agg [(.int .i64 0), (.int .i64 0), (.bool false), (.int .i64 0), (.int .i64 0), (.slc 0 [] true), (.slc 0 [] true)])), [], none⟩,
  ⟨none, (.store 7), [.t 9, .t 19], none⟩]
def Z13o : List Z2a := [
  ⟨some 20, .mov, [.t 0], none⟩,
  ⟨some 21, (.fad 0), [.t 9], none⟩,
  ⟨some 22, (.load false 1), [.t 21], none⟩,
  ⟨some 23, (.call Zeh), [.t 20, .t 22], none⟩,
  ⟨some 24, .unot, [.t 23], none⟩]
def Z13p : List Z2a := [
  ⟨some 6, .mov, [.c (.int .i64 0)], none⟩]
def Z13q : List Z2a := [
  ⟨some 25, .mov, [.t 0], none⟩,
  ⟨some 26, (.fad 0), [.t 9], none⟩,
  ⟨some 27, (.load false 1), [.t 26], none⟩,
  ⟨some 28, (.load true 5), [.t 5], none⟩,
  ⟨some 29, (.call Zek), [.t 25, .t 27, .t 28], none⟩,
  ⟨some 10, (.alloc (.agg [(.bool false), (.int .i64 0), (.int .i64 0), (.slc 0 [] true), (.slc 0 [] true)])), [], none⟩,
  ⟨none, (.store 5), [.t 10, .t 29], none⟩]
def Z13r : List Z2a := [
  ⟨some 11, .mov, [.c (.bool false)], none⟩]
def Z13s : List Z2a := [
  ⟨some 48, (.fad 1), [.t 9], none⟩,
  ⟨some 49, (.load false 1), [.t 48], none⟩,
  ⟨some 50, (.bin .eql), [.t 49, .c (.int .i64 7)], none⟩,
  ⟨some 47, .mov, [.t 50], none⟩]
def Z13t : List Z2a := [
  ⟨some 51, (.fad 0), [.t 10], none⟩,
  ⟨some 52, (.load false 1), [.t 51], none⟩,
  ⟨some 11, .mov, [.t 52], none⟩]
def Z13u : List Z2a := [
  ⟨some 54, (.fad 1), [.t 9], none⟩,
  ⟨some 55, (.load false 1), [.t 54], none⟩,
  ⟨some 56, (.bin .eql), [.t 55, .c (.int .i64 8)], none⟩,
  ⟨some 53, .mov, [.t 56], none⟩]
def Z13v : List Z2a := [
  ⟨some 57, (.fad 0), [.t 10], none⟩,
  ⟨some 58, (.load false 1), [.t 57], none⟩,
  ⟨some 59, .unot, [.t 58], none⟩,
  ⟨some 11, .mov, [.t 59], none⟩]
def Z13w : List Z2a := [
  ⟨some 61, (.fad 0), [.t 10], none⟩,
  ⟨some 62, (.load false 1), [.t 61], none⟩,
  ⟨some 60, .mov, [.t 62], none⟩]
def Z13x : List Z2a := [
  ⟨some 7, .mov, [.c (.int .i64 2)], none⟩]
def Z13y : List Z2a := [
  ⟨some 31, .mov, [.t 0], none⟩,
  ⟨some 32, (.fad 0), [.t 9], none⟩,
  ⟨some 33, (.load false 1), [.t 32], none⟩,
  ⟨some 34, (.iad 8), [.t 31, .t 33], none⟩,
  ⟨some 35, (.load true 8), [.t 34], none⟩,
  ⟨some 36, (.callp Zem), [.t 35], none⟩,
  ⟨some 37, (.load true 5), [.t 10], none⟩,
  ⟨some 38, (.fad 2), [.t 9], none⟩,
  ⟨some 39, (.load true 5), [.t 38], none⟩,
  ⟨some 40, (.call Zel), [.t 36, .t 37, .t 39], none⟩,
  ⟨some 30, .mov, [.t 40], none⟩,
  ⟨some 41, (.ext 0), [.t 30], none⟩,
  ⟨some 42, (.ext 1), [.t 30], none⟩,
  ⟨some 12, .mov, [.t 41], none⟩,
  ⟨some 13, .mov, [.t 42], none⟩]
def Z13z : List Z2a := [
  ⟨some 43, (.fad 1), [.t 9], none⟩,
  ⟨some 44, (.load false 1), [.t 43], none⟩,
  ⟨some 45, .mov, [.t 12], none⟩,
  ⟨some 46, (.call Zen), [.t 44, .t 45], none⟩,
  ⟨some 11, .mov, [.t 46], none⟩]
def Z140 : List Z2a := [
  ⟨some 63, .mov, [.t 11], none⟩,
  ⟨some 64, .unot, [.t 63], none⟩]
def Z141 : List Z2a := [
  ⟨some 6, .mov, [.c (.int .i64 0)], none⟩]
def Z142 : List Z2a := [
  ⟨some 65, (.bin .add), [.t 16, .c (.int .i64 1)], none⟩,
  ⟨some 16, .mov, [.t 65], none⟩]
def Z143 : Z2b := (.seq (.region Z13m [0, 5, 7, 14, 15, 16, 17]) (.seq (.cond (.t 17) .skip (.exit 0)) (.seq (.block 1 (.seq (.region Z13n [0, 5, 7, 9, 14, 15, 16]) (.seq (.seq (.region Z13o [0, 5, 7, 9, 14, 15, 16, 24]) (.cond (.t 24) (.seq (.region Z13p [6]) .ret) .skip)) (.seq (.region Z13q [0, 5, 7, 9, 10, 14, 15, 16]) (.seq (.region Z13r [0, 5, 7, 9, 10, 14, 15, 16]) (.seq (.block 2 (.seq (.region Z13s [0, 5, 7, 9, 10, 14, 15, 16, 47]) (.cond (.t 47) (.region Z13t [0, 5, 7, 11, 14, 15, 16]) (.seq (.region Z13u [0, 5, 7, 9, 10, 14, 15, 16, 53]) (.cond (.t 53) (.region Z13v [0, 5, 7, 11, 14, 15, 16]) (.seq (.region Z13w [0, 5, 7, 9, 10, 14, 15, 16, 60]) (.cond (.t 60) (.seq (.region Z13x [0, 5, 7, 14, 15, 16]) (.exit 1)) (.seq (.region Z13y [0, 5, 7, 9, 12, 14, 15, 16]) (.region Z13z [0, 5, 7, 11, 14, 15, 16]))))))))) (.seq (.region Z140 [0, 5, 7, 14, 15, 16, 64]) (.cond (.t 64) (.seq (.region Z141 [6]) .ret) .skip)))))))) (.region Z142 [0, 5, 7, 14, 15, 16]))))
def Z144 : List Z2a := [
  ⟨some 66, .mov, [.t 7], none⟩,
  ⟨some 6, .mov, [.t 66], none⟩]
def Z145 : Z2y := ⟨67, (.seq (.region Z13j [0, 1, 5]) (.seq (.region Z13k [0, 1, 5, 7]) (.seq (.seq (.region Z13l [0, 5, 7, 14, 15, 16]) (.block 0 (.loop Z143))) (.seq (.region Z144 [6]) .ret)))), [.t 6]⟩
def Z146 : List Z2a := [
  ⟨some 5, (.box 5), [.t 2], none⟩,
  ⟨some 6, (.alloc (.agg [(.bool false), (.int .i64 0), (.int .i64 0), (.slc 0 [] true), (.slc 0 [] true)])), [], none⟩,
  ⟨some 7, .mov, [.c (.bool false)], none⟩]
def Z147 : List Z2a := [
  ⟨some 8, .mov, [.t 0], none⟩,
  ⟨some 9, .mov, [.t 1], none⟩,
  ⟨some 10, (.call Zeh), [.t 8, .t 9], none⟩,
  ⟨some 11, .unot, [.t 10], none⟩]
def Z148 : List Z2a := [
  ⟨some 12, (.bld [(.bool false), (.int .i64 0), (.int .i64 0), (.slc 0 [] true), (.slc 0 [] true)] []), [], none⟩,
  ⟨none, (.store 5), [.t 6, .t 12], none⟩,
  ⟨some 7, .mov, [.c (.bool false)], none⟩]
def Z149 : List Z2a := [
  ⟨some 13, .mov, [.t 0], none⟩,
  ⟨some 14, .mov, [.t 1], none⟩,
  ⟨some 15, (.load true 5), [.t 5], none⟩,
  ⟨some 16, (.call Zek), [.t 13, .t 14, .t 15], none⟩,
  ⟨some 17, (.call Zer), [.t 16], none⟩,
  ⟨none, (.store 5), [.t 6, .t 17], none⟩,
  ⟨some 7, .mov, [.c (.bool true)], none⟩]
def Z14a : Z2y := ⟨18, (.seq (.region Z146 [0, 1, 5, 6]) (.seq (.seq (.region Z147 [0, 1, 5, 6, 11]) (.cond (.t 11) (.seq (.region Z148 [6, 7]) .ret) .skip)) (.seq (.region Z149 [6, 7]) .ret))), [.cell 6 true 5, .t 7]⟩
def Z14b : List Z2a := [
  ⟨some 4, .mov, [.c (.int .i64 0)], none⟩]
def Z14c : List Z2a := [
  ⟨some 8, .mov, [.t 1], none⟩,
  ⟨some 9, .lens, [.t 8], none⟩,
  ⟨some 10, (.bin .gtr), [.t 9, .c (.int .i64 16)], none⟩]
def Z14d : List Z2a := [
  ⟨some 4, .mov, [.c (.int .i64 1)], none⟩]
def Z14e : List Z2a := [
  ⟨some 11, .mov, [.t 1], none⟩,
  ⟨some 12, .lens, [.t 11], none⟩,
  ⟨some 13, .mov, [.c (.int .i64 0)], none⟩]
def Z14f : List Z2a := [
  ⟨some 14, (.bin .lss), [.t 13, .t 12], none⟩]
def Z14g : List Z2a := [
  ⟨some 15, (.iad 7), [.t 11, .t 13], none⟩,
  ⟨some 16, (.load true 7), [.t 15], none⟩,
  ⟨some 6, (.alloc (.agg [(.int .i64 0), (.int .i64 0), (.bool false), (.int .i64 0), (.int .i64 0), (.slc 0 [] true), (.slc 0 [] true)])), [], none⟩,
  ⟨none, (.store 7), [.t 6, .t 16], none⟩]
def Z14h : List Z2a := [
  ⟨some 17, .mov, [.t 0], none⟩,
  ⟨some 18, (.fad 0), [.t 6], none⟩,
  ⟨some 19, (.load false 1), [.t 18], none⟩,
  ⟨some 20, (.call Zeh), [.t 17, .t 19], none⟩,
  ⟨some 21, .unot, [.t 20], none⟩]
def Z14i : List Z2a := [
  ⟨some 4, .mov, [.c (.int .i64 1)], none⟩]
def Z14j : List Z2a := [
  ⟨some 7, .mov, [.c (.bool false)], none⟩]
def Z14k : List Z2a := [
  ⟨some 22, (.fad 1), [.t 6], none⟩,
  ⟨some 23, (.load false 1), [.t 22], none⟩]
def Z14l : List Z2a := [
  ⟨some 25, (.bin .eql), [.t 23, .c (.int .i64 7)], none⟩,
  ⟨some 24, .mov, [.t 25], none⟩]
def Z14m : List Z2a := [
  ⟨some 27, (.bin .eql), [.t 23, .c (.int .i64 8)], none⟩,
  ⟨some 26, .mov, [.t 27], none⟩]
def Z14n : List Z2a := [
  ⟨some 29, (.bin .eql), [.t 23, .c (.int .i64 1)], none⟩,
  ⟨some 28, .mov, [.t 29], none⟩]
def Z14o : List Z2a := [
  ⟨some 30, (.bin .eql), [.t 23, .c (.int .i64 2)], none⟩,
  ⟨some 28, .mov, [.t 30], none⟩]
def Z14p : List Z2a := [
  ⟨some 31, (.bin .eql), [.t 23, .c (.int .i64 3)], none⟩,
  ⟨some 28, .mov, [.t 31], none⟩]
def Z14q : List Z2a := [
  ⟨some 32, (.bin .eql), [.t 23, .c (.int .i64 4)], none⟩,
  ⟨some 28, .mov, [.t 32], none⟩]
def Z14r : List Z2a := [
  ⟨some 33, (.bin .eql), [.t 23, .c (.int .i64 5)], none⟩,
  ⟨some 28, .mov, [.t 33], none⟩]
def Z14s : List Z2a := [
  ⟨some 34, (.bin .eql), [.t 23, .c (.int .i64 6)], none⟩,
  ⟨some 28, .mov, [.t 34], none⟩]
def Z14t : List Z2a := [
  ⟨some 35, (.fad 2), [.t 6], none⟩,
  ⟨some 36, (.load true 5), [.t 35], none⟩,
  ⟨some 37, (.call Zes), [.t 36], none⟩,
  ⟨some 7, .mov, [.t 37], none⟩]
def Z14u : List Z2a := [
  ⟨some 38, (.fad 2), [.t 6], none⟩,
  ⟨some 39, (.fad 0), [.t 38], none⟩,
  ⟨some 40, (.load false 1), [.t 39], none⟩,
  ⟨some 41, .unot, [.t 40], none⟩,
  ⟨some 42, .mov, [.t 41], none⟩,
  ⟨some 43, .mov, [.t 0], some (42, true)⟩,
  ⟨some 44, (.fad 0), [.t 6], some (42, true)⟩,
  ⟨some 45, (.load false 1), [.t 44], some (42, true)⟩,
  ⟨some 46, (.iad 8), [.t 43, .t 45], some (42, true)⟩,
  ⟨some 47, (.load true 8), [.t 46], some (42, true)⟩,
  ⟨some 48, (.callp Zem), [.t 47], some (42, true)⟩,
  ⟨some 49, (.fad 2), [.t 6], some (42, true)⟩,
  ⟨some 50, (.load true 5), [.t 49], some (42, true)⟩,
  ⟨some 51, (.call Zet), [.t 48, .t 50], some (42, true)⟩,
  ⟨some 52, (.bin .eql), [.t 51, .c (.int .i64 0)], some (42, true)⟩,
  ⟨some 53, .pick, [.t 42, .t 52, .c (.bool false)], none⟩,
  ⟨some 7, .mov, [.t 53], none⟩]
def Z14v : List Z2a := [
  ⟨some 54, .mov, [.t 7], none⟩,
  ⟨some 55, .unot, [.t 54], none⟩]
def Z14w : List Z2a := [
  ⟨some 4, .mov, [.c (.int .i64 1)], none⟩]
def Z14x : List Z2a := [
  ⟨some 56, (.bin .add), [.t 13, .c (.int .i64 1)], none⟩,
  ⟨some 13, .mov, [.t 56], none⟩]
def Z14y : Z2b := (.seq (.region Z14f [0, 11, 12, 13, 14]) (.seq (.cond (.t 14) .skip (.exit 0)) (.seq (.block 1 (.seq (.region Z14g [0, 6, 11, 12, 13]) (.seq (.seq (.region Z14h [0, 6, 11, 12, 13, 21]) (.cond (.t 21) (.seq (.region Z14i [4]) .ret) .skip)) (.seq (.region Z14j [0, 6, 7, 11, 12, 13]) (.seq (.seq (.region Z14k [0, 6, 7, 11, 12, 13, 23]) (.block 2 (.seq (.block 5 (.seq (.block 4 (.block 3 (.seq (.seq (.seq (.region Z14l [0, 6, 7, 11, 12, 13, 23, 24]) (.cond (.t 24) (.exit 3) .skip)) (.seq (.seq (.region Z14m [0, 6, 7, 11, 12, 13, 23, 26]) (.cond (.t 26) (.exit 4) .skip)) (.seq (.seq (.region Z14n [0, 6, 7, 11, 12, 13, 23, 28]) (.cond (.t 28) .skip (.seq (.region Z14o [0, 6, 7, 11, 12, 13, 23, 28]) (.cond (.t 28) .skip (.seq (.region Z14p [0, 6, 7, 11, 12, 13, 23, 28]) (.cond (.t 28) .skip (.seq (.region Z14q [0, 6, 7, 11, 12, 13, 23, 28]) (.cond (.t 28) .skip (.seq (.region Z14r [0, 6, 7, 11, 12, 13, 23, 28]) (.cond (.t 28) .skip (.region Z14s [0, 6, 7, 11, 12, 13, 28]))))))))))) (.cond (.t 28) (.exit 5) .skip)))) (.exit 2)))) (.seq (.region Z14t [0, 7, 11, 12, 13]) (.exit 2)))) (.seq (.region Z14u [0, 7, 11, 12, 13]) (.exit 2))))) (.seq (.region Z14v [0, 11, 12, 13, 55]) (.cond (.t 55) (.seq (.region Z14w [4]) .ret) .skip))))))) (.region Z14x [0, 11, 12, 13]))))
def Z14z : List Z2a := [
  ⟨some 4, .mov, [.c (.int .i64 0)], none⟩]
def Z150 : Z2y := ⟨57, (.seq (.region Z14b [0, 1]) (.seq (.seq (.region Z14c [0, 1, 10]) (.cond (.t 10) (.seq (.region Z14d [4]) .ret) .skip)) (.seq (.seq (.region Z14e [0, 11, 12, 13]) (.block 0 (.loop Z14y))) (.seq (.region Z14z [4]) .ret)))), [.t 4]⟩
def Z151 : List Z2a := [
  ⟨some 4, .mov, [.c (.bool false)], none⟩]
def Z152 : List Z2a := [
  ⟨some 6, .mov, [.t 1], none⟩,
  ⟨some 7, (.bin .lss), [.t 6, .c (.int .i64 0)], none⟩,
  ⟨some 8, .mov, [.t 7], none⟩,
  ⟨some 9, .mov, [.t 1], some (8, false)⟩,
  ⟨some 10, .mov, [.t 0], some (8, false)⟩,
  ⟨some 11, .lens, [.t 10], some (8, false)⟩,
  ⟨some 12, (.bin .geq), [.t 9, .t 11], some (8, false)⟩,
  ⟨some 13, .pick, [.t 8, .c (.bool true), .t 12], none⟩,
  ⟨some 14, .mov, [.t 13], none⟩,
  ⟨some 15, .mov, [.t 0], some (14, false)⟩,
  ⟨some 16, .mov, [.t 1], some (14, false)⟩,
  ⟨some 17, (.iad 8), [.t 15, .t 16], some (14, false)⟩,
  ⟨some 18, (.fad 0), [.t 17], some (14, false)⟩,
  ⟨some 19, (.load false 1), [.t 18], some (14, false)⟩,
  ⟨some 20, (.call Zfd), [.t 19], some (14, false)⟩,
  ⟨some 21, .unot, [.t 20], some (14, false)⟩,
  ⟨some 22, .pick, [.t 14, .c (.bool true), .t 21], none⟩]
def Z153 : List Z2a := [
  ⟨some 4, .mov, [.c (.bool false)], none⟩]
def Z154 : List Z2a := [
  ⟨some 23, .mov, [.t 0], none⟩,
  ⟨some 24, .mov, [.t 1], none⟩,
  ⟨some 25, (.iad 8), [.t 23, .t 24], none⟩,
  ⟨some 26, (.fad 6), [.t 25], none⟩,
  ⟨some 27, (.load false 1), [.t 26], none⟩,
  ⟨some 5, .mov, [.t 27], none⟩]
def Z155 : List Z2a := [
  ⟨some 28, .mov, [.t 5], none⟩,
  ⟨some 29, (.bin .geq), [.t 28, .c (.int .i64 0)], none⟩,
  ⟨some 30, .mov, [.t 29], none⟩,
  ⟨some 31, .mov, [.t 5], some (30, true)⟩,
  ⟨some 32, .mov, [.t 0], some (30, true)⟩,
  ⟨some 33, .lens, [.t 32], some (30, true)⟩,
  ⟨some 34, (.bin .lss), [.t 31, .t 33], some (30, true)⟩,
  ⟨some 35, .pick, [.t 30, .t 34, .c (.bool false)], none⟩]
def Z156 : List Z2a := [
  ⟨some 41, .mov, [.t 0], none⟩,
  ⟨some 42, .mov, [.t 5], none⟩,
  ⟨some 43, (.iad 8), [.t 41, .t 42], none⟩,
  ⟨some 44, (.fad 0), [.t 43], none⟩,
  ⟨some 45, (.load false 1), [.t 44], none⟩,
  ⟨some 46, (.bin .neq), [.t 45, .c (.int .i64 12)], none⟩]
def Z157 : List Z2a := [
  ⟨some 4, .mov, [.c (.bool false)], none⟩]
def Z158 : List Z2a := [
  ⟨some 36, .mov, [.t 0], none⟩,
  ⟨some 37, .mov, [.t 5], none⟩,
  ⟨some 38, (.iad 8), [.t 36, .t 37], none⟩,
  ⟨some 39, (.fad 6), [.t 38], none⟩,
  ⟨some 40, (.load false 1), [.t 39], none⟩,
  ⟨some 5, .mov, [.t 40], none⟩]
def Z159 : Z2b := (.seq (.seq (.region Z155 [0, 5, 35]) (.cond (.t 35) .skip (.exit 0))) (.seq (.block 1 (.seq (.region Z156 [0, 5, 46]) (.cond (.t 46) (.seq (.region Z157 [4]) .ret) .skip))) (.region Z158 [0, 5])))
def Z15a : List Z2a := [
  ⟨some 4, .mov, [.c (.bool true)], none⟩]
def Z15b : Z2y := ⟨47, (.seq (.region Z151 [0, 1]) (.seq (.seq (.region Z152 [0, 1, 22]) (.cond (.t 22) (.seq (.region Z153 [4]) .ret) .skip)) (.seq (.seq (.region Z154 [0, 5]) (.block 0 (.loop Z159))) (.seq (.region Z15a [4]) .ret)))), [.t 4]⟩
def Z15c : List Z2a := [
  ⟨some 4, (.box 7), [.t 1], none⟩,
  ⟨some 6, .mov, [.c (.bool false)], none⟩]
def Z15d : List Z2a := [
  ⟨some 11, .mov, [.t 2], none⟩,
  ⟨some 12, (.fad 0), [.t 4], none⟩,
  ⟨some 13, (.load false 1), [.t 12], none⟩,
  ⟨some 14, (.iad 15), [.t 11, .t 13], none⟩,
  ⟨some 15, (.load true 15), [.t 14], none⟩,
  ⟨some 16, .mov, [.t 0], none⟩,
  ⟨some 17, (.fad 0), [.t 4], none⟩,
  ⟨some 18, (.loadp false 1), [.t 17], none⟩,
  ⟨some 19, (.iad 8), [.t 16, .t 18], none⟩,
  ⟨some 20, (.loadp true 8), [.t 19], none⟩,
  ⟨some 7, (.alloc (.agg [(.int .i64 0), (.bool false), (.bool false), (.bool false), (.int .i64 0), (.int .i64 0), (.slc 0 [] true), (.slc 0 [] true), (.bool false), (.int .i64 0), (.int .i64 0), (.slc 0 [] true), (.slc 0 [] true), (.bool false), (.int .i64 0)])), [], none⟩,
  ⟨some 8, (.alloc (.agg [(.int .i64 0), (.slc 0 [] true), (.slc 0 [] true), (.int .i64 0), (.int .i64 0), (.int .i64 0), (.int .i64 0), (.int .i64 0)])), [], none⟩,
  ⟨none, (.store 15), [.t 7, .t 15], none⟩,
  ⟨none, (.store 8), [.t 8, .t 20], none⟩]
def Z15e : List Z2a := [
  ⟨some 22, (.fad 1), [.t 4], none⟩,
  ⟨some 23, (.load false 1), [.t 22], none⟩,
  ⟨some 24, (.bin .eql), [.t 23, .c (.int .i64 7)], none⟩,
  ⟨some 21, .mov, [.t 24], none⟩]
def Z15f : List Z2a := [
  ⟨some 25, (.fad 1), [.t 7], none⟩,
  ⟨some 26, (.load false 1), [.t 25], none⟩,
  ⟨some 27, .mov, [.t 26], none⟩,
  ⟨some 28, (.fad 0), [.t 7], some (27, false)⟩,
  ⟨some 29, (.load false 1), [.t 28], some (27, false)⟩,
  ⟨some 30, .mov, [.t 2], some (27, false)⟩,
  ⟨some 31, (.iad 15), [.t 30, .c (.int .i64 0)], some (27, false)⟩,
  ⟨some 32, (.fad 0), [.t 31], some (27, false)⟩,
  ⟨some 33, (.load false 1), [.t 32], some (27, false)⟩,
  ⟨some 34, (.bin .neq), [.t 29, .t 33], some (27, false)⟩,
  ⟨some 35, .pick, [.t 27, .c (.bool true), .t 34], none⟩,
  ⟨some 6, .mov, [.t 35], none⟩]
def Z15g : List Z2a := [
  ⟨some 37, (.fad 0), [.t 7], none⟩,
  ⟨some 38, (.load false 1), [.t 37], none⟩,
  ⟨some 39, (.bin .eql), [.t 38, .c (.int .i64 0)], none⟩,
  ⟨some 36, .mov, [.t 39], none⟩]
def Z15h : List Z2a := [
  ⟨some 6, .mov, [.c (.bool false)], none⟩]
def Z15i : List Z2a := [
  ⟨some 41, (.fad 1), [.t 4], none⟩,
  ⟨some 42, (.load false 1), [.t 41], none⟩,
  ⟨some 43, (.bin .eql), [.t 42, .c (.int .i64 8)], none⟩,
  ⟨some 40, .mov, [.t 43], none⟩]
def Z15j : List Z2a := [
  ⟨some 6, .mov, [.c (.bool true)], none⟩]
def Z15k : List Z2a := [
  ⟨some 45, (.fad 2), [.t 7], none⟩,
  ⟨some 46, (.load false 1), [.t 45], none⟩,
  ⟨some 44, .mov, [.t 46], none⟩]
def Z15l : List Z2a := [
  ⟨some 47, (.load true 8), [.t 8], none⟩,
  ⟨some 48, (.callp Zem), [.t 47], none⟩,
  ⟨some 49, (.fad 1), [.t 4], none⟩,
  ⟨some 50, (.load false 1), [.t 49], none⟩,
  ⟨some 51, (.fad 2), [.t 4], none⟩,
  ⟨some 52, (.load true 5), [.t 51], none⟩,
  ⟨some 53, (.fad 3), [.t 7], none⟩,
  ⟨some 54, (.load true 5), [.t 53], none⟩,
  ⟨some 55, (.fad 8), [.t 7], none⟩,
  ⟨some 56, (.load true 5), [.t 55], none⟩,
  ⟨some 57, (.call Zfg), [.t 48, .t 50, .t 52, .t 54, .t 56], none⟩,
  ⟨some 58, .unot, [.t 57], none⟩,
  ⟨some 6, .mov, [.t 58], none⟩]
def Z15m : List Z2a := [
  ⟨some 60, (.fad 0), [.t 8], none⟩,
  ⟨some 61, (.load false 1), [.t 60], none⟩,
  ⟨some 62, (.bin .eql), [.t 61, .c (.int .i64 0)], none⟩,
  ⟨some 63, .mov, [.t 62], none⟩,
  ⟨some 64, (.fad 13), [.t 7], some (63, true)⟩,
  ⟨some 65, (.load false 1), [.t 64], some (63, true)⟩,
  ⟨some 66, .pick, [.t 63, .t 65, .c (.bool false)], none⟩,
  ⟨some 59, .mov, [.t 66], none⟩]
def Z15n : List Z2a := [
  ⟨some 67, (.bld [(.bool false), (.int .i64 0), (.int .i64 0), (.slc 0 [] true), (.slc 0 [] true)] []), [], none⟩,
  ⟨some 68, (.bld [(.bool false), (.int .i64 0), (.int .i64 0), (.slc 0 [] true), (.slc 0 [] true)] [(1, 1)]), [.c (.int .i64 1)], none⟩,
  ⟨some 9, (.alloc (.agg [(.bool false), (.int .i64 0), (.int .i64 0), (.slc 0 [] true), (.slc 0 [] true)])), [], none⟩,
  ⟨some 10, (.alloc (.agg [(.bool false), (.int .i64 0), (.int .i64 0), (.slc 0 [] true), (.slc 0 [] true)])), [], none⟩,
  ⟨none, (.store 5), [.t 9, .t 67], none⟩,
  ⟨none, (.store 5), [.t 10, .t 68], none⟩]
def Z15o : List Z2a := [
  ⟨some 69, (.fad 14), [.t 7], none⟩,
  ⟨some 70, (.load false 1), [.t 69], none⟩,
  ⟨some 71, (.fad 0), [.t 7], none⟩,
  ⟨some 72, (.load false 1), [.t 71], none⟩,
  ⟨some 73, (.bin .eql), [.t 70, .t 72], none⟩]
def Z15p : List Z2a := [
  ⟨some 74, (.fad 1), [.t 9], none⟩,
  ⟨none, (.store 1), [.t 74, .c (.int .i64 1)], none⟩]
def Z15q : List Z2a := [
  ⟨some 75, (.fad 14), [.t 7], none⟩,
  ⟨some 76, (.load false 1), [.t 75], none⟩,
  ⟨some 77, (.bin .eql), [.t 76, .c (.int .i64 0)], none⟩]
def Z15r : List Z2a := [
  ⟨some 78, (.fad 1), [.t 10], none⟩,
  ⟨none, (.store 1), [.t 78, .c (.int .i64 0)], none⟩]
def Z15s : List Z2a := [
  ⟨some 79, (.load true 8), [.t 8], none⟩,
  ⟨some 80, (.callp Zem), [.t 79], none⟩,
  ⟨some 81, (.fad 1), [.t 4], none⟩,
  ⟨some 82, (.load false 1), [.t 81], none⟩,
  ⟨some 83, (.fad 2), [.t 4], none⟩,
  ⟨some 84, (.load true 5), [.t 83], none⟩,
  ⟨some 85, (.load true 5), [.t 9], none⟩,
  ⟨some 86, (.load true 5), [.t 10], none⟩,
  ⟨some 87, (.call Zfg), [.t 80, .t 82, .t 84, .t 85, .t 86], none⟩,
  ⟨some 88, .unot, [.t 87], none⟩,
  ⟨some 6, .mov, [.t 88], none⟩]
def Z15t : List Z2a := [
  ⟨some 6, .mov, [.c (.bool true)], none⟩]
def Z15u : Z2y := ⟨89, (.seq (.region Z15c [0, 2, 4]) (.seq (.region Z15d [2, 4, 7, 8]) (.seq (.block 0 (.seq (.region Z15e [2, 4, 7, 8, 21]) (.cond (.t 21) (.seq (.region Z15f [6]) .ret) (.seq (.region Z15g [4, 7, 8, 36]) (.cond (.t 36) (.seq (.region Z15h [6]) .ret) (.seq (.region Z15i [4, 7, 8, 40]) (.cond (.t 40) (.seq (.region Z15j [6]) .ret) (.seq (.region Z15k [4, 7, 8, 44]) (.cond (.t 44) (.seq (.region Z15l [6]) .ret) (.seq (.region Z15m [4, 7, 8, 59]) (.cond (.t 59) (.seq (.region Z15n [4, 7, 8, 9, 10]) (.seq (.seq (.region Z15o [4, 7, 8, 9, 10, 73]) (.cond (.t 73) (.region Z15p [4, 7, 8, 9, 10]) .skip)) (.seq (.seq (.region Z15q [4, 8, 9, 10, 77]) (.cond (.t 77) (.region Z15r [4, 8, 9, 10]) .skip)) (.seq (.region Z15s [6]) .ret)))) .skip))))))))))) (.seq (.region Z15t [6]) .ret)))), [.t 6]⟩
def Z15v : List Z2a := [
  ⟨some 5, (.box 5), [.t 2], none⟩,
  ⟨some 6, (.alloc (.agg [(.bool false), (.int .i64 0), (.int .i64 0), (.slc 0 [] true), (.slc 0 [] true)])), [], none⟩]
def Z15w : List Z2a := [
  ⟨some 9, .mov, [.t 0], none⟩,
  ⟨some 10, .mov, [.t 1], none⟩,
  ⟨some 11, (.iad 8), [.t 9, .t 10], none⟩,
  ⟨some 12, (.fad 6), [.t 11], none⟩,
  ⟨some 13, (.load false 1), [.t 12], none⟩,
  ⟨some 14, (.bin .lss), [.t 13, .c (.int .i64 0)], none⟩]
def Z15x : List Z2a := [
  ⟨some 15, (.load true 5), [.t 5], none⟩,
  ⟨none, (.store 5), [.t 6, .t 15], none⟩]
def Z15y : List Z2a := [
  ⟨some 16, .mov, [.t 0], none⟩,
  ⟨some 17, .mov, [.t 0], none⟩,
  ⟨some 18, .mov, [.t 1], none⟩,
  ⟨some 19, (.iad 8), [.t 17, .t 18], none⟩,
  ⟨some 20, (.fad 6), [.t 19], none⟩,
  ⟨some 21, (.load false 1), [.t 20], none⟩,
  ⟨some 22, (.load true 5), [.t 5], none⟩,
  ⟨some 23, (.callp Zek), [.t 16, .t 21, .t 22], none⟩,
  ⟨some 7, (.alloc (.agg [(.bool false), (.int .i64 0), (.int .i64 0), (.slc 0 [] true), (.slc 0 [] true)])), [], none⟩,
  ⟨none, (.store 5), [.t 7, .t 23], none⟩]
def Z15z : List Z2a := [
  ⟨some 24, .mov, [.t 0], none⟩,
  ⟨some 25, .mov, [.t 1], none⟩,
  ⟨some 26, (.call Zfh), [.t 24, .t 25], none⟩,
  ⟨some 8, .mov, [.t 26], none⟩]
def Z160 : List Z2a := [
  ⟨some 27, (.fad 0), [.t 7], none⟩,
  ⟨some 28, (.load false 1), [.t 27], none⟩,
  ⟨some 29, .unot, [.t 28], none⟩,
  ⟨some 30, .mov, [.t 29], none⟩,
  ⟨some 31, .mov, [.t 8], some (30, true)⟩,
  ⟨some 32, (.bin .geq), [.t 31, .c (.int .i64 0)], some (30, true)⟩,
  ⟨some 33, .pick, [.t 30, .t 32, .c (.bool false)], none⟩,
  ⟨some 34, .mov, [.t 33], none⟩,
  ⟨some 35, .mov, [.t 8], some (34, true)⟩,
  ⟨some 36, (.fad 4), [.t 7], some (34, true)⟩,
  ⟨some 37, (.load false 1), [.t 36], some (34, true)⟩,
  ⟨some 38, .lens, [.t 37], some (34, true)⟩,
  ⟨some 39, (.bin .lss), [.t 35, .t 38], some (34, true)⟩,
  ⟨some 40, .pick, [.t 34, .t 39, .c (.bool false)], none⟩]
def Z161 : List Z2a := [
  ⟨some 41, (.fad 4), [.t 7], none⟩,
  ⟨some 42, (.load false 1), [.t 41], none⟩,
  ⟨some 43, .mov, [.t 8], none⟩,
  ⟨some 44, (.iad 5), [.t 42, .t 43], none⟩,
  ⟨some 45, (.load true 5), [.t 44], none⟩,
  ⟨none, (.store 5), [.t 6, .t 45], none⟩]
def Z162 : List Z2a := [
  ⟨some 46, (.bld [(.bool false), (.int .i64 0), (.int .i64 0), (.slc 0 [] true), (.slc 0 [] true)] [(0, 1)]), [.c (.bool true)], none⟩,
  ⟨none, (.store 5), [.t 6, .t 46], none⟩]
def Z163 : Z2y := ⟨47, (.seq (.region Z15v [0, 1, 5, 6]) (.seq (.seq (.region Z15w [0, 1, 5, 6, 14]) (.cond (.t 14) (.seq (.region Z15x [6]) .ret) .skip)) (.seq (.region Z15y [0, 1, 6, 7]) (.seq (.seq (.region Z15z [6, 7, 8]) (.seq (.region Z160 [6, 7, 8, 40]) (.cond (.t 40) (.seq (.region Z161 [6]) .ret) .skip))) (.seq (.region Z162 [6]) .ret))))), [.cell 6 true 5]⟩
def Z164 : List Z2a := [
  ⟨some 1, (.box 8), [.t 0], none⟩,
  ⟨some 2, (.alloc (.agg [(.int .i64 0), (.slc 0 [] true), (.slc 0 [] true), (.int .i64 0), (.int .i64 0), (.int .i64 0)])), [], none⟩]
def Z165 : List Z2a := [
  ⟨some 3, (.fad 0), [.t 1], none⟩,
  ⟨some 4, (.load false 1), [.t 3], none⟩,
  ⟨some 5, (.fad 3), [.t 1], none⟩,
  ⟨some 6, (.load false 1), [.t 5], none⟩,
  ⟨some 7, (.fad 4), [.t 1], none⟩,
  ⟨some 8, (.load false 1), [.t 7], none⟩,
  ⟨some 9, (.fad 5), [.t 1], none⟩,
  ⟨some 10, (.load false 1), [.t 9], none⟩,
  ⟨some 11, (.bld [(.int .i64 0), (.slc 0 [] true), (.slc 0 [] true), (.int .i64 0), (.int .i64 0), (.int .i64 0)] [(0, 1), (3, 1), (4, 1), (5, 1)]), [.t 4, .t 6, .t 8, .t 10], none⟩,
  ⟨none, (.store 6), [.t 2, .t 11], none⟩]
def Z166 : Z2y := ⟨12, (.seq (.region Z164 [1, 2]) (.seq (.region Z165 [2]) .ret)), [.cell 2 true 6]⟩
def Z167 : List Z2a := [
  ⟨some 4, .mov, [.c (.bool false)], none⟩]
def Z168 : List Z2a := [
  ⟨some 5, .mov, [.t 0], none⟩]
def Z169 : List Z2a := [
  ⟨some 7, (.bin .eql), [.t 5, .c (.int .i64 1)], none⟩,
  ⟨some 6, .mov, [.t 7], none⟩]
def Z16a : List Z2a := [
  ⟨some 8, .mov, [.t 1], none⟩,
  ⟨some 9, (.bin .eql), [.t 8, .c (.int .i64 0)], none⟩,
  ⟨some 4, .mov, [.t 9], none⟩]
def Z16b : List Z2a := [
  ⟨some 11, (.bin .eql), [.t 5, .c (.int .i64 2)], none⟩,
  ⟨some 10, .mov, [.t 11], none⟩]
def Z16c : List Z2a := [
  ⟨some 12, .mov, [.t 1], none⟩,
  ⟨some 13, (.bin .neq), [.t 12, .c (.int .i64 0)], none⟩,
  ⟨some 4, .mov, [.t 13], none⟩]
def Z16d : List Z2a := [
  ⟨some 15, (.bin .eql), [.t 5, .c (.int .i64 3)], none⟩,
  ⟨some 14, .mov, [.t 15], none⟩]
def Z16e : List Z2a := [
  ⟨some 16, .mov, [.t 1], none⟩,
  ⟨some 17, (.bin .lss), [.t 16, .c (.int .i64 0)], none⟩,
  ⟨some 4, .mov, [.t 17], none⟩]
def Z16f : List Z2a := [
  ⟨some 19, (.bin .eql), [.t 5, .c (.int .i64 4)], none⟩,
  ⟨some 18, .mov, [.t 19], none⟩]
def Z16g : List Z2a := [
  ⟨some 20, .mov, [.t 1], none⟩,
  ⟨some 21, (.bin .leq), [.t 20, .c (.int .i64 0)], none⟩,
  ⟨some 4, .mov, [.t 21], none⟩]
def Z16h : List Z2a := [
  ⟨some 23, (.bin .eql), [.t 5, .c (.int .i64 5)], none⟩,
  ⟨some 22, .mov, [.t 23], none⟩]
def Z16i : List Z2a := [
  ⟨some 24, .mov, [.t 1], none⟩,
  ⟨some 25, (.bin .gtr), [.t 24, .c (.int .i64 0)], none⟩,
  ⟨some 4, .mov, [.t 25], none⟩]
def Z16j : List Z2a := [
  ⟨some 26, .mov, [.t 1], none⟩,
  ⟨some 27, (.bin .geq), [.t 26, .c (.int .i64 0)], none⟩,
  ⟨some 4, .mov, [.t 27], none⟩]
def Z16k : Z2y := ⟨28, (.seq (.region Z167 [0, 1]) (.seq (.seq (.region Z168 [1, 5]) (.block 0 (.seq (.region Z169 [1, 5, 6]) (.cond (.t 6) (.seq (.region Z16a [4]) .ret) (.seq (.region Z16b [1, 5, 10]) (.cond (.t 10) (.seq (.region Z16c [4]) .ret) (.seq (.region Z16d [1, 5, 14]) (.cond (.t 14) (.seq (.region Z16e [4]) .ret) (.seq (.region Z16f [1, 5, 18]) (.cond (.t 18) (.seq (.region Z16g [4]) .ret) (.seq (.region Z16h [1, 22]) (.cond (.t 22) (.seq (.region Z16i [4]) .ret) .skip)))))))))))) (.seq (.region Z16j [4]) .ret))), [.t 4]⟩
def Z16l : List Z2a := [
  ⟨some 1, (.box 5), [.t 0], none⟩,
  ⟨some 2, .mov, [.c (.bool false)], none⟩]
def Z16m : List Z2a := [
  ⟨some 3, (.fad 0), [.t 1], none⟩,
  ⟨some 4, (.load false 1), [.t 3], none⟩,
  ⟨some 5, .unot, [.t 4], none⟩,
  ⟨some 6, .mov, [.t 5], none⟩,
  ⟨some 7, (.fad 1), [.t 1], some (6, true)⟩,
  ⟨some 8, (.load false 1), [.t 7], some (6, true)⟩,
  ⟨some 9, (.bin .eql), [.t 8, .c (.int .i64 0)], some (6, true)⟩,
  ⟨some 10, .pick, [.t 6, .t 9, .c (.bool false)], none⟩,
  ⟨some 11, .mov, [.t 10], none⟩,
  ⟨some 12, (.fad 2), [.t 1], some (11, true)⟩,
  ⟨some 13, (.load false 1), [.t 12], some (11, true)⟩,
  ⟨some 14, (.bin .eql), [.t 13, .c (.int .i64 0)], some (11, true)⟩,
  ⟨some 15, .pick, [.t 11, .t 14, .c (.bool false)], none⟩,
  ⟨some 16, .mov, [.t 15], none⟩,
  ⟨some 17, (.fad 3), [.t 1], some (16, true)⟩,
  ⟨some 18, (.load false 1), [.t 17], some (16, true)⟩,
  ⟨some 19, .lens, [.t 18], some (16, true)⟩,
  ⟨some 20, (.bin .eql), [.t 19, .c (.int .i64 0)], some (16, true)⟩,
  ⟨some 21, .pick, [.t 16, .t 20, .c (.bool false)], none⟩,
  ⟨some 22, .mov, [.t 21], none⟩,
  ⟨some 23, (.fad 4), [.t 1], some (22, true)⟩,
  ⟨some 24, (.load false 1), [.t 23], some (22, true)⟩,
  ⟨some 25, .lens, [.t 24], some (22, true)⟩,
  ⟨some 26, (.bin .eql), [.t 25, .c (.int .i64 0)], some (22, true)⟩,
  ⟨some 27, .pick, [.t 22, .t 26, .c (.bool false)], none⟩,
  ⟨some 2, .mov, [.t 27], none⟩]
def Z16n : Z2y := ⟨28, (.seq (.region Z16l [1]) (.seq (.region Z16m [2]) .ret)), [.t 2]⟩
def Z16o : List Z2a := [
  ⟨some 5, (.box 6), [.t 0], none⟩,
  ⟨some 7, (.box 5), [.t 2], none⟩,
  ⟨some 8, (.box 5), [.t 3], none⟩,
  ⟨some 9, (.box 5), [.t 4], none⟩,
  ⟨some 10, .mov, [.c (.bool false)], none⟩]
def Z16p : List Z2a := [
  ⟨some 16, (.load true 6), [.t 5], none⟩,
  ⟨some 17, (.load true 5), [.t 7], none⟩,
  ⟨some 18, (.load true 5), [.t 8], none⟩,
  ⟨some 19, (.call Zel), [.t 16, .t 17, .t 18], none⟩,
  ⟨some 15, .mov, [.t 19], none⟩,
  ⟨some 20, (.ext 0), [.t 15], none⟩,
  ⟨some 21, (.ext 1), [.t 15], none⟩,
  ⟨some 11, .mov, [.t 20], none⟩,
  ⟨some 12, .mov, [.t 21], none⟩]
def Z16q : List Z2a := [
  ⟨some 23, (.load true 6), [.t 5], none⟩,
  ⟨some 24, (.load true 5), [.t 7], none⟩,
  ⟨some 25, (.load true 5), [.t 9], none⟩,
  ⟨some 26, (.call Zel), [.t 23, .t 24, .t 25], none⟩,
  ⟨some 22, .mov, [.t 26], none⟩,
  ⟨some 27, (.ext 0), [.t 22], none⟩,
  ⟨some 28, (.ext 1), [.t 22], none⟩,
  ⟨some 13, .mov, [.t 27], none⟩,
  ⟨some 14, .mov, [.t 28], none⟩]
def Z16r : List Z2a := [
  ⟨some 29, .mov, [.t 1], none⟩]
def Z16s : List Z2a := [
  ⟨some 31, (.bin .eql), [.t 29, .c (.int .i64 1)], none⟩,
  ⟨some 30, .mov, [.t 31], none⟩]
def Z16t : List Z2a := [
  ⟨some 32, .mov, [.t 11], none⟩,
  ⟨some 33, (.bin .lss), [.t 32, .c (.int .i64 0)], none⟩,
  ⟨some 34, .mov, [.t 33], none⟩,
  ⟨some 35, .mov, [.t 13], some (34, false)⟩,
  ⟨some 36, (.bin .gtr), [.t 35, .c (.int .i64 0)], some (34, false)⟩,
  ⟨some 37, .pick, [.t 34, .c (.bool true), .t 36], none⟩,
  ⟨some 10, .mov, [.t 37], none⟩]
def Z16u : List Z2a := [
  ⟨some 39, (.bin .eql), [.t 29, .c (.int .i64 2)], none⟩,
  ⟨some 38, .mov, [.t 39], none⟩]
def Z16v : List Z2a := [
  ⟨some 40, .mov, [.t 11], none⟩,
  ⟨some 41, (.bin .eql), [.t 40, .c (.int .i64 0)], none⟩,
  ⟨some 42, .mov, [.t 41], none⟩,
  ⟨some 43, .mov, [.t 13], some (42, true)⟩,
  ⟨some 44, (.bin .eql), [.t 43, .c (.int .i64 0)], some (42, true)⟩,
  ⟨some 45, .pick, [.t 42, .t 44, .c (.bool false)], none⟩,
  ⟨some 10, .mov, [.t 45], none⟩]
def Z16w : List Z2a := [
  ⟨some 47, (.bin .eql), [.t 29, .c (.int .i64 3)], none⟩,
  ⟨some 46, .mov, [.t 47], none⟩]
def Z16x : List Z2a := [
  ⟨some 48, .mov, [.t 11], none⟩,
  ⟨some 49, (.bin .leq), [.t 48, .c (.int .i64 0)], none⟩,
  ⟨some 10, .mov, [.t 49], none⟩]
def Z16y : List Z2a := [
  ⟨some 51, (.bin .eql), [.t 29, .c (.int .i64 4)], none⟩,
  ⟨some 50, .mov, [.t 51], none⟩]
def Z16z : List Z2a := [
  ⟨some 52, .mov, [.t 11], none⟩,
  ⟨some 53, (.bin .lss), [.t 52, .c (.int .i64 0)], none⟩,
  ⟨some 10, .mov, [.t 53], none⟩]
def Z170 : List Z2a := [
  ⟨some 55, (.bin .eql), [.t 29, .c (.int .i64 5)], none⟩,
  ⟨some 54, .mov, [.t 55], none⟩]
def Z171 : List Z2a := [
  ⟨some 56, .mov, [.t 13], none⟩,
  ⟨some 57, (.bin .geq), [.t 56, .c (.int .i64 0)], none⟩,
  ⟨some 10, .mov, [.t 57], none⟩]
def Z172 : List Z2a := [
  ⟨some 58, .mov, [.t 13], none⟩,
  ⟨some 59, (.bin .gtr), [.t 58, .c (.int .i64 0)], none⟩,
  ⟨some 10, .mov, [.t 59], none⟩]
def Z173 : Z2y := ⟨60, (.seq (.region Z16o [1, 5, 7, 8, 9]) (.seq (.region Z16p [1, 5, 7, 9, 11]) (.seq (.region Z16q [1, 11, 13]) (.seq (.seq (.region Z16r [11, 13, 29]) (.block 0 (.seq (.region Z16s [11, 13, 29, 30]) (.cond (.t 30) (.seq (.region Z16t [10]) .ret) (.seq (.region Z16u [11, 13, 29, 38]) (.cond (.t 38) (.seq (.region Z16v [10]) .ret) (.seq (.region Z16w [11, 13, 29, 46]) (.cond (.t 46) (.seq (.region Z16x [10]) .ret) (.seq (.region Z16y [11, 13, 29, 50]) (.cond (.t 50) (.seq (.region Z16z [10]) .ret) (.seq (.region Z170 [13, 54]) (.cond (.t 54) (.seq (.region Z171 [10]) .ret) .skip)))))))))))) (.seq (.region Z172 [10]) .ret))))), [.t 10]⟩
def Z174 : List Z2a := [
  ⟨some 4, .mov, [.c (.int .i64 0)], none⟩]
def Z175 : List Z2a := [
  ⟨some 7, .mov, [.t 0], none⟩,
  ⟨some 8, .mov, [.t 0], none⟩,
  ⟨some 9, .mov, [.t 1], none⟩,
  ⟨some 10, (.iad 8), [.t 8, .t 9], none⟩,
  ⟨some 11, (.fad 6), [.t 10], none⟩,
  ⟨some 12, (.load false 1), [.t 11], none⟩,
  ⟨some 13, (.iad 8), [.t 7, .t 12], none⟩,
  ⟨some 14, (.fad 1), [.t 13], none⟩,
  ⟨some 15, (.load false 1), [.t 14], none⟩,
  ⟨some 16, .lens, [.t 15], none⟩,
  ⟨some 17, .mov, [.c (.int .i64 0)], none⟩]
def Z176 : List Z2a := [
  ⟨some 18, (.bin .lss), [.t 17, .t 16], none⟩]
def Z177 : List Z2a := [
  ⟨some 19, .mov, [.t 17], none⟩,
  ⟨some 20, (.iad 1), [.t 15, .t 17], none⟩,
  ⟨some 21, (.load false 1), [.t 20], none⟩,
  ⟨some 5, .mov, [.t 19], none⟩,
  ⟨some 6, .mov, [.t 21], none⟩]
def Z178 : List Z2a := [
  ⟨some 22, .mov, [.t 6], none⟩,
  ⟨some 23, .mov, [.t 1], none⟩,
  ⟨some 24, (.bin .eql), [.t 22, .t 23], none⟩]
def Z179 : List Z2a := [
  ⟨some 25, .mov, [.t 5], none⟩,
  ⟨some 4, .mov, [.t 25], none⟩]
def Z17a : List Z2a := [
  ⟨some 26, (.bin .add), [.t 17, .c (.int .i64 1)], none⟩,
  ⟨some 17, .mov, [.t 26], none⟩]
def Z17b : Z2b := (.seq (.region Z176 [1, 15, 16, 17, 18]) (.seq (.cond (.t 18) .skip (.exit 0)) (.seq (.block 1 (.seq (.region Z177 [1, 5, 6, 15, 16, 17]) (.seq (.region Z178 [1, 5, 15, 16, 17, 24]) (.cond (.t 24) (.seq (.region Z179 [4]) .ret) .skip)))) (.region Z17a [1, 15, 16, 17]))))
def Z17c : List Z2a := [
  ⟨some 4, .mov, [.c (.int .i64 (-1))], none⟩]
def Z17d : Z2y := ⟨27, (.seq (.region Z174 [0, 1]) (.seq (.seq (.region Z175 [1, 15, 16, 17]) (.block 0 (.loop Z17b))) (.seq (.region Z17c [4]) .ret))), [.t 4]⟩
end Go.Abs
namespace Go.Abs
open Go Go.Proofs
theorem Z17e : Z2z Try.prog [] Zdb = some Z13i.erase := by kernel_rfl
theorem Z17f : Z2z Try.prog [(9, 5)] Zdd = some Z145.erase := by kernel_rfl
theorem Z17g : Z2z Try.prog [] Zdg = some Z14a.erase := by kernel_rfl
theorem Z17h : Z2z Try.prog [(19, 10)] Zdh = some Z150.erase := by kernel_rfl
theorem Z17i : Z2z Try.prog [] Zeh = some Z15b.erase := by kernel_rfl
theorem Z17j : Z2z Try.prog [(16, 1), (9, 1), (1, 9), (1, 7)] Zei = some Z15u.erase := by kernel_rfl
theorem Z17k : Z2z Try.prog [(3, 7)] Zek = some Z163.erase := by kernel_rfl
theorem Z17l : Z2z Try.prog [] Zem = some Z166.erase := by kernel_rfl
theorem Z17m : Z2z Try.prog [] Zen = some Z16k.erase := by kernel_rfl
theorem Z17n : Z2z Try.prog [] Zes = some Z16n.erase := by kernel_rfl
theorem Z17o : Z2z Try.prog [] Zfg = some Z173.erase := by kernel_rfl
theorem Z17p : Z2z Try.prog [] Zfh = some Z17d.erase := by kernel_rfl
end Go.Abs
namespace Go.Abs
open Go Go.Proofs
set_option linter.unusedVariables false
set_option linter.unusedSimpArgs false
set_option maxHeartbeats 4000000
attribute [local irreducible] AWp aops KP
structure Tm where
  col : Int
  op : Int
  v : Vl
def Z17q (t : Tm) : List Z0 := .int .i64 t.col :: .int .i64 t.op :: Zm6 t.v
def encM (t : Tm) : Z0 := .agg (Z17q t)
structure WfN (l : List Nd) : Prop where
  len : l.length ≤ 1000000
  up : ∀ (i : Nat) (n : Nd), l[i]? = some n → -1 ≤ n.parent ∧ n.parent < i
  kids : ∀ n ∈ l, n.kids.length ≤ 1000000
def tyN (n : Nd) : Ty := .mk n.t.kind [] [] n.t.len n.t.prec n.t.scale
theorem c_typ (n : Nd) (σ : Zc) : Z1q Try.prog Zem [encN n] σ fun r σ' => r = encT (tyN n) ∧ σ' = σ := by
  have hv : VRle [.agg [.int .i64 n.t.kind, .slc 0 [] true, .slc 0 [] true, .int .i64 n.t.len, .int .i64 n.t.prec, .int .i64 n.t.scale]] [encT (tyN n)] := by
    rw [tyN, encT]
    (repeat (first | exact VRle.refl _ | exact Zc5 | refine Zc6 rfl rfl ?_ | refine Zc7 rfl ?_ | refine Zc4 ?_ ?_))
  refine Z21.le ?_ hv
  refine Z8t rfl Z17l (Nat.le_of_ble_eq_true rfl) ?_
  refine Z9z ?_
  refine Z9j rfl (Z0.fit_iff.1 rfl) fun b hb => ?_
  refine Z9k (by simp [Z0.cells, Z0.one]) fun b2 hb2 => ?_
  (repeat (refine st_q rfl rfl rfl ?_))
  (refine Z8y ?_; (repeat (first | refine Z9v rfl ?_ | refine Z9w ?_)); refine Z9u ?_)
  refine Z8a (FSub.refl _) (τ := (b, .cells 8 [.agg (Zm2 n)]) :: (b2, .cells 6 [.agg [.int .i64 0, .slc 0 [] true, .slc 0 [] true, .int .i64 0, .int .i64 0, .int .i64 0]]) :: σ) (HSub.of_perm (List.Perm.swap _ _ _)) ?_
  refine Zb3 (d := 1) (cs := Zm2 n) rfl ?_
  (repeat (first | refine st_q rfl rfl rfl ?_ | refine Z8v rfl (st_q rfl rfl rfl ?_) | refine Z8w rfl ?_ | refine Z8x rfl ?_ | (refine Z8y ?_; (repeat (first | refine Z9v rfl ?_ | refine Z9w ?_)); refine Z9u ?_) | refine awp_seq ?_ | refine Zbm (fun _ _ => rfl) ?_ | refine Z8h ?_ | refine Zbn (fun _ _ => rfl) ?_ | refine Zbo (fun _ _ => rfl) ?_ | refine Z8f (t := true) rfl (fun _ => ?_) (fun e => by cases e) | refine Z8f (t := false) rfl (fun e => by cases e) (fun _ => ?_)))
  refine Z9a rfl Z8z rfl (by decide) (Z0.fit_iff.1 rfl) (fun h => by cases h) Z9b ?_
  (repeat (first | refine st_q rfl rfl rfl ?_ | refine Z8v rfl (st_q rfl rfl rfl ?_) | refine Z8w rfl ?_ | refine Z8x rfl ?_ | (refine Z8y ?_; (repeat (first | refine Z9v rfl ?_ | refine Z9w ?_)); refine Z9u ?_) | refine awp_seq ?_ | refine Zbm (fun _ _ => rfl) ?_ | refine Z8h ?_ | refine Zbn (fun _ _ => rfl) ?_ | refine Zbo (fun _ _ => rfl) ?_ | refine Z8f (t := true) rfl (fun _ => ?_) (fun e => by cases e) | refine Z8f (t := false) rfl (fun e => by cases e) (fun _ => ?_)))
  refine Zb3 (d := 2) (cs := [.int .i64 n.t.kind, .slc 0 [] true, .slc 0 [] true, .int .i64 n.t.len, .int .i64 n.t.prec, .int .i64 n.t.scale]) rfl ?_
  refine Z8d ?_
  exact ares rfl (HSub.refl _) ⟨rfl, rfl⟩
def Z17r : Vl → Bool
  | .mk nu i n b ks => decide (nu = false ∧ i = 0 ∧ n = 0 ∧ b.length = 0 ∧ ks.length = 0)
theorem Z17s (v : Vl) (σ : Zc) : Z1q Try.prog Zes [encV v] σ fun r σ' => r = .bool (Z17r v) ∧ σ' = σ := by
  obtain ⟨nu, i, n, b, ks⟩ := v
  simp only [encV, Z17r]
  refine Z8t rfl Z17n (Nat.le_of_ble_eq_true rfl) ?_
  refine Z9z ?_
  refine Z9j rfl (Z0.fit_iff.1 rfl) fun b1 hb1 => ?_
  (repeat (refine st_q rfl rfl rfl ?_))
  (refine Z8y ?_; (repeat (first | refine Z9v rfl ?_ | refine Z9w ?_)); refine Z9u ?_)
  refine Zb3 (d := 1) (cs := [.bool nu, .int .i64 i, .int .i64 n, .slc 1 (bytes b) false, .slc 5 (Zm5 ks) false]) rfl ?_
  have hk : (Zm5 ks).length = ks.length := by rw [Zm8, List.length_map]
  cases nu with
  | true =>
    (repeat (first | refine st_q rfl rfl rfl ?_ | refine Z8v rfl (st_q rfl rfl rfl ?_) | refine Z8w rfl ?_ | refine Z8x rfl ?_ | (refine Z8y ?_; (repeat (first | refine Z9v rfl ?_ | refine Z9w ?_)); refine Z9u ?_) | refine awp_seq ?_ | refine Zbm (fun _ _ => rfl) ?_ | refine Z8h ?_ | refine Zbn (fun _ _ => rfl) ?_ | refine Zbo (fun _ _ => rfl) ?_ | refine Z8f (t := true) rfl (fun _ => ?_) (fun e => by cases e) | refine Z8f (t := false) rfl (fun e => by cases e) (fun _ => ?_)))
    refine Z8d ?_
    exact ares rfl (HSub.refl _) ⟨rfl, rfl⟩
  | false =>
    by_cases h1 : i = 0
    case neg =>
      (repeat (first | refine st_q rfl rfl rfl ?_ | refine Z8v rfl (st_q rfl rfl rfl ?_) | refine Z8w rfl ?_ | refine Z8x rfl ?_ | (refine Z8y ?_; (repeat (first | refine Z9v rfl ?_ | refine Z9w ?_)); refine Z9u ?_) | refine awp_seq ?_ | refine Zbm (fun _ _ => rfl) ?_ | refine Z8h ?_ | refine Zbn (fun _ _ => rfl) ?_ | refine Zbo (fun _ _ => rfl) ?_ | refine Z8f (t := true) rfl (fun _ => ?_) (fun e => by cases e) | refine Z8f (t := false) rfl (fun e => by cases e) (fun _ => ?_)))
      (rw [show decide (i = 0) = false from decide_eq_false (by omega)])
      (repeat (first | refine st_q rfl rfl rfl ?_ | refine Z8v rfl (st_q rfl rfl rfl ?_) | refine Z8w rfl ?_ | refine Z8x rfl ?_ | (refine Z8y ?_; (repeat (first | refine Z9v rfl ?_ | refine Z9w ?_)); refine Z9u ?_) | refine awp_seq ?_ | refine Zbm (fun _ _ => rfl) ?_ | refine Z8h ?_ | refine Zbn (fun _ _ => rfl) ?_ | refine Zbo (fun _ _ => rfl) ?_ | refine Z8f (t := true) rfl (fun _ => ?_) (fun e => by cases e) | refine Z8f (t := false) rfl (fun e => by cases e) (fun _ => ?_)))
      refine Z8d ?_
      exact ares rfl (HSub.refl _) ⟨by rw [decide_eq_false (by simp [h1])]; rfl, rfl⟩
    by_cases h2 : n = 0
    case neg =>
      (repeat (first | refine st_q rfl rfl rfl ?_ | refine Z8v rfl (st_q rfl rfl rfl ?_) | refine Z8w rfl ?_ | refine Z8x rfl ?_ | (refine Z8y ?_; (repeat (first | refine Z9v rfl ?_ | refine Z9w ?_)); refine Z9u ?_) | refine awp_seq ?_ | refine Zbm (fun _ _ => rfl) ?_ | refine Z8h ?_ | refine Zbn (fun _ _ => rfl) ?_ | refine Zbo (fun _ _ => rfl) ?_ | refine Z8f (t := true) rfl (fun _ => ?_) (fun e => by cases e) | refine Z8f (t := false) rfl (fun e => by cases e) (fun _ => ?_)))
      (rw [show decide (i = 0) = true from decide_eq_true (by omega)])
      (repeat (first | refine st_q rfl rfl rfl ?_ | refine Z8v rfl (st_q rfl rfl rfl ?_) | refine Z8w rfl ?_ | refine Z8x rfl ?_ | (refine Z8y ?_; (repeat (first | refine Z9v rfl ?_ | refine Z9w ?_)); refine Z9u ?_) | refine awp_seq ?_ | refine Zbm (fun _ _ => rfl) ?_ | refine Z8h ?_ | refine Zbn (fun _ _ => rfl) ?_ | refine Zbo (fun _ _ => rfl) ?_ | refine Z8f (t := true) rfl (fun _ => ?_) (fun e => by cases e) | refine Z8f (t := false) rfl (fun e => by cases e) (fun _ => ?_)))
      (rw [show decide (n = 0) = false from decide_eq_false (by omega)])
      (repeat (first | refine st_q rfl rfl rfl ?_ | refine Z8v rfl (st_q rfl rfl rfl ?_) | refine Z8w rfl ?_ | refine Z8x rfl ?_ | (refine Z8y ?_; (repeat (first | refine Z9v rfl ?_ | refine Z9w ?_)); refine Z9u ?_) | refine awp_seq ?_ | refine Zbm (fun _ _ => rfl) ?_ | refine Z8h ?_ | refine Zbn (fun _ _ => rfl) ?_ | refine Zbo (fun _ _ => rfl) ?_ | refine Z8f (t := true) rfl (fun _ => ?_) (fun e => by cases e) | refine Z8f (t := false) rfl (fun e => by cases e) (fun _ => ?_)))
      refine Z8d ?_
      exact ares rfl (HSub.refl _) ⟨by rw [decide_eq_false (by simp [h2])]; rfl, rfl⟩
    by_cases h3 : b.length = 0
    case neg =>
      (repeat (first | refine st_q rfl rfl rfl ?_ | refine Z8v rfl (st_q rfl rfl rfl ?_) | refine Z8w rfl ?_ | refine Z8x rfl ?_ | (refine Z8y ?_; (repeat (first | refine Z9v rfl ?_ | refine Z9w ?_)); refine Z9u ?_) | refine awp_seq ?_ | refine Zbm (fun _ _ => rfl) ?_ | refine Z8h ?_ | refine Zbn (fun _ _ => rfl) ?_ | refine Zbo (fun _ _ => rfl) ?_ | refine Z8f (t := true) rfl (fun _ => ?_) (fun e => by cases e) | refine Z8f (t := false) rfl (fun e => by cases e) (fun _ => ?_)))
      (rw [show decide (i = 0) = true from decide_eq_true (by omega)])
      (repeat (first | refine st_q rfl rfl rfl ?_ | refine Z8v rfl (st_q rfl rfl rfl ?_) | refine Z8w rfl ?_ | refine Z8x rfl ?_ | (refine Z8y ?_; (repeat (first | refine Z9v rfl ?_ | refine Z9w ?_)); refine Z9u ?_) | refine awp_seq ?_ | refine Zbm (fun _ _ => rfl) ?_ | refine Z8h ?_ | refine Zbn (fun _ _ => rfl) ?_ | refine Zbo (fun _ _ => rfl) ?_ | refine Z8f (t := true) rfl (fun _ => ?_) (fun e => by cases e) | refine Z8f (t := false) rfl (fun e => by cases e) (fun _ => ?_)))
      (rw [show decide (n = 0) = true from decide_eq_true (by omega)])
      (repeat (first | refine st_q rfl rfl rfl ?_ | refine Z8v rfl (st_q rfl rfl rfl ?_) | refine Z8w rfl ?_ | refine Z8x rfl ?_ | (refine Z8y ?_; (repeat (first | refine Z9v rfl ?_ | refine Z9w ?_)); refine Z9u ?_) | refine awp_seq ?_ | refine Zbm (fun _ _ => rfl) ?_ | refine Z8h ?_ | refine Zbn (fun _ _ => rfl) ?_ | refine Zbo (fun _ _ => rfl) ?_ | refine Z8f (t := true) rfl (fun _ => ?_) (fun e => by cases e) | refine Z8f (t := false) rfl (fun e => by cases e) (fun _ => ?_)))
      rw [Zam]
      (rw [show decide ((b.length : Int) = 0) = false from decide_eq_false (by omega)])
      (repeat (first | refine st_q rfl rfl rfl ?_ | refine Z8v rfl (st_q rfl rfl rfl ?_) | refine Z8w rfl ?_ | refine Z8x rfl ?_ | (refine Z8y ?_; (repeat (first | refine Z9v rfl ?_ | refine Z9w ?_)); refine Z9u ?_) | refine awp_seq ?_ | refine Zbm (fun _ _ => rfl) ?_ | refine Z8h ?_ | refine Zbn (fun _ _ => rfl) ?_ | refine Zbo (fun _ _ => rfl) ?_ | refine Z8f (t := true) rfl (fun _ => ?_) (fun e => by cases e) | refine Z8f (t := false) rfl (fun e => by cases e) (fun _ => ?_)))
      refine Z8d ?_
      exact ares rfl (HSub.refl _) ⟨by rw [decide_eq_false (by simp only [h3]; simp)]; rfl, rfl⟩
    by_cases h4 : ks.length = 0
    · rw [show decide (false = false ∧ i = 0 ∧ n = 0 ∧ b.length = 0 ∧ ks.length = 0) = true from decide_eq_true ⟨rfl, h1, h2, h3, h4⟩]
      (repeat (first | refine st_q rfl rfl rfl ?_ | refine Z8v rfl (st_q rfl rfl rfl ?_) | refine Z8w rfl ?_ | refine Z8x rfl ?_ | (refine Z8y ?_; (repeat (first | refine Z9v rfl ?_ | refine Z9w ?_)); refine Z9u ?_) | refine awp_seq ?_ | refine Zbm (fun _ _ => rfl) ?_ | refine Z8h ?_ | refine Zbn (fun _ _ => rfl) ?_ | refine Zbo (fun _ _ => rfl) ?_ | refine Z8f (t := true) rfl (fun _ => ?_) (fun e => by cases e) | refine Z8f (t := false) rfl (fun e => by cases e) (fun _ => ?_)))
      (rw [show decide (i = 0) = true from decide_eq_true (by omega)])
      (repeat (first | refine st_q rfl rfl rfl ?_ | refine Z8v rfl (st_q rfl rfl rfl ?_) | refine Z8w rfl ?_ | refine Z8x rfl ?_ | (refine Z8y ?_; (repeat (first | refine Z9v rfl ?_ | refine Z9w ?_)); refine Z9u ?_) | refine awp_seq ?_ | refine Zbm (fun _ _ => rfl) ?_ | refine Z8h ?_ | refine Zbn (fun _ _ => rfl) ?_ | refine Zbo (fun _ _ => rfl) ?_ | refine Z8f (t := true) rfl (fun _ => ?_) (fun e => by cases e) | refine Z8f (t := false) rfl (fun e => by cases e) (fun _ => ?_)))
      (rw [show decide (n = 0) = true from decide_eq_true (by omega)])
      (repeat (first | refine st_q rfl rfl rfl ?_ | refine Z8v rfl (st_q rfl rfl rfl ?_) | refine Z8w rfl ?_ | refine Z8x rfl ?_ | (refine Z8y ?_; (repeat (first | refine Z9v rfl ?_ | refine Z9w ?_)); refine Z9u ?_) | refine awp_seq ?_ | refine Zbm (fun _ _ => rfl) ?_ | refine Z8h ?_ | refine Zbn (fun _ _ => rfl) ?_ | refine Zbo (fun _ _ => rfl) ?_ | refine Z8f (t := true) rfl (fun _ => ?_) (fun e => by cases e) | refine Z8f (t := false) rfl (fun e => by cases e) (fun _ => ?_)))
      rw [Zam]
      (rw [show decide ((b.length : Int) = 0) = true from decide_eq_true (by omega)])
      (repeat (first | refine st_q rfl rfl rfl ?_ | refine Z8v rfl (st_q rfl rfl rfl ?_) | refine Z8w rfl ?_ | refine Z8x rfl ?_ | (refine Z8y ?_; (repeat (first | refine Z9v rfl ?_ | refine Z9w ?_)); refine Z9u ?_) | refine awp_seq ?_ | refine Zbm (fun _ _ => rfl) ?_ | refine Z8h ?_ | refine Zbn (fun _ _ => rfl) ?_ | refine Zbo (fun _ _ => rfl) ?_ | refine Z8f (t := true) rfl (fun _ => ?_) (fun e => by cases e) | refine Z8f (t := false) rfl (fun e => by cases e) (fun _ => ?_)))
      rw [hk]
      (rw [show decide ((ks.length : Int) = 0) = true from decide_eq_true (by omega)])
      refine Z8d ?_
      exact ares rfl (HSub.refl _) ⟨rfl, rfl⟩
    · rw [show decide (false = false ∧ i = 0 ∧ n = 0 ∧ b.length = 0 ∧ ks.length = 0) = false from decide_eq_false fun h => h4 h.2.2.2.2]
      (repeat (first | refine st_q rfl rfl rfl ?_ | refine Z8v rfl (st_q rfl rfl rfl ?_) | refine Z8w rfl ?_ | refine Z8x rfl ?_ | (refine Z8y ?_; (repeat (first | refine Z9v rfl ?_ | refine Z9w ?_)); refine Z9u ?_) | refine awp_seq ?_ | refine Zbm (fun _ _ => rfl) ?_ | refine Z8h ?_ | refine Zbn (fun _ _ => rfl) ?_ | refine Zbo (fun _ _ => rfl) ?_ | refine Z8f (t := true) rfl (fun _ => ?_) (fun e => by cases e) | refine Z8f (t := false) rfl (fun e => by cases e) (fun _ => ?_)))
      (rw [show decide (i = 0) = true from decide_eq_true (by omega)])
      (repeat (first | refine st_q rfl rfl rfl ?_ | refine Z8v rfl (st_q rfl rfl rfl ?_) | refine Z8w rfl ?_ | refine Z8x rfl ?_ | (refine Z8y ?_; (repeat (first | refine Z9v rfl ?_ | refine Z9w ?_)); refine Z9u ?_) | refine awp_seq ?_ | refine Zbm (fun _ _ => rfl) ?_ | refine Z8h ?_ | refine Zbn (fun _ _ => rfl) ?_ | refine Zbo (fun _ _ => rfl) ?_ | refine Z8f (t := true) rfl (fun _ => ?_) (fun e => by cases e) | refine Z8f (t := false) rfl (fun e => by cases e) (fun _ => ?_)))
      (rw [show decide (n = 0) = true from decide_eq_true (by omega)])
      (repeat (first | refine st_q rfl rfl rfl ?_ | refine Z8v rfl (st_q rfl rfl rfl ?_) | refine Z8w rfl ?_ | refine Z8x rfl ?_ | (refine Z8y ?_; (repeat (first | refine Z9v rfl ?_ | refine Z9w ?_)); refine Z9u ?_) | refine awp_seq ?_ | refine Zbm (fun _ _ => rfl) ?_ | refine Z8h ?_ | refine Zbn (fun _ _ => rfl) ?_ | refine Zbo (fun _ _ => rfl) ?_ | refine Z8f (t := true) rfl (fun _ => ?_) (fun e => by cases e) | refine Z8f (t := false) rfl (fun e => by cases e) (fun _ => ?_)))
      rw [Zam]
      (rw [show decide ((b.length : Int) = 0) = true from decide_eq_true (by omega)])
      (repeat (first | refine st_q rfl rfl rfl ?_ | refine Z8v rfl (st_q rfl rfl rfl ?_) | refine Z8w rfl ?_ | refine Z8x rfl ?_ | (refine Z8y ?_; (repeat (first | refine Z9v rfl ?_ | refine Z9w ?_)); refine Z9u ?_) | refine awp_seq ?_ | refine Zbm (fun _ _ => rfl) ?_ | refine Z8h ?_ | refine Zbn (fun _ _ => rfl) ?_ | refine Zbo (fun _ _ => rfl) ?_ | refine Z8f (t := true) rfl (fun _ => ?_) (fun e => by cases e) | refine Z8f (t := false) rfl (fun e => by cases e) (fun _ => ?_)))
      rw [hk]
      (rw [show decide ((ks.length : Int) = 0) = false from decide_eq_false (by omega)])
      refine Z8d ?_
      exact ares rfl (HSub.refl _) ⟨rfl, rfl⟩
def idxF : List Nat → Int → Nat → Int
  | [], _, _ => -1
  | k :: ks, c, i => if (k : Int) = c then (i : Int) else idxF ks c (i + 1)
theorem Z17t : ∀ (ks : List Nat) (c : Int) (i : Nat), idxF ks c i = -1 ∨ (i : Int) ≤ idxF ks c i ∧ idxF ks c i < (i + ks.length : Nat)
  | [], _, _ => .inl rfl
  | k :: ks, c, i => by
    rw [idxF]
    split
    · right; simp only [List.length_cons]; omega
    · rcases Z17t ks c (i + 1) with h | h
      · exact .inl h
      · right; simp only [List.length_cons]; omega
theorem Z17u {l : List Nd} {i : Int} {n : Nd} (h : l[i.toNat]? = some n) : (l.map encN)[i.toNat]? = some (encN n) := by rw [List.getElem?_map, h]; rfl
theorem Z17v (l : List Nd) (f : Bool) (col : Int) (h0 : 0 ≤ col) (n q : Nd) (hn : l[col.toNat]? = some n) (hp : 0 ≤ n.parent) (hq : l[n.parent.toNat]? = some q) (hk : q.kids.length ≤ 1000000) (σ : Zc) :
    Z1q Try.prog Zfh [.slc 8 (l.map encN) f, .int .i64 col] σ fun r σ' => r = .int .i64 (idxF q.kids col 0) ∧ σ' = σ := by
  have hil : (ints q.kids).length = q.kids.length := List.length_map ..
  refine Z8t rfl Z17p (Nat.le_of_ble_eq_true rfl) ?_
  (repeat (first | refine st_q rfl rfl rfl ?_ | refine Z8v rfl (st_q rfl rfl rfl ?_) | refine Z8w rfl ?_ | refine Z8x rfl ?_ | (refine Z8y ?_; (repeat (first | refine Z9v rfl ?_ | refine Z9w ?_)); refine Z9u ?_) | refine awp_seq ?_ | refine Zbm (fun _ _ => rfl) ?_ | refine Z8h ?_ | refine Zbn (fun _ _ => rfl) ?_ | refine Zbo (fun _ _ => rfl) ?_ | refine Z8f (t := true) rfl (fun _ => ?_) (fun e => by cases e) | refine Z8f (t := false) rfl (fun e => by cases e) (fun _ => ?_)))
  refine Z93 rfl h0 (Z17u hn) ?_
  rw [encN]
  (repeat (first | refine st_q rfl rfl rfl ?_ | refine Z8v rfl (st_q rfl rfl rfl ?_) | refine Z8w rfl ?_ | refine Z8x rfl ?_ | (refine Z8y ?_; (repeat (first | refine Z9v rfl ?_ | refine Z9w ?_)); refine Z9u ?_) | refine awp_seq ?_ | refine Zbm (fun _ _ => rfl) ?_ | refine Z8h ?_ | refine Zbn (fun _ _ => rfl) ?_ | refine Zbo (fun _ _ => rfl) ?_ | refine Z8f (t := true) rfl (fun _ => ?_) (fun e => by cases e) | refine Z8f (t := false) rfl (fun e => by cases e) (fun _ => ?_)))
  refine Z93 rfl hp (Z17u hq) ?_
  rw [encN]
  (repeat (first | refine st_q rfl rfl rfl ?_ | refine Z8v rfl (st_q rfl rfl rfl ?_) | refine Z8w rfl ?_ | refine Z8x rfl ?_ | (refine Z8y ?_; (repeat (first | refine Z9v rfl ?_ | refine Z9w ?_)); refine Z9u ?_) | refine awp_seq ?_ | refine Zbm (fun _ _ => rfl) ?_ | refine Z8h ?_ | refine Zbn (fun _ _ => rfl) ?_ | refine Zbo (fun _ _ => rfl) ?_ | refine Z8f (t := true) rfl (fun _ => ?_) (fun e => by cases e) | refine Z8f (t := false) rfl (fun e => by cases e) (fun _ => ?_)))
  rw [hil]
  refine Zaa (fun m F σ' => ∃ i : Nat, F = fset 1 (some (.int .i64 col)) (fset 15 (some (.slc 1 (ints q.kids) true)) (fset 16 (some (.int .i64 q.kids.length)) (fset 17 (some (.int .i64 i)) Z27))) ∧ σ = σ' ∧ i ≤ q.kids.length ∧ m = q.kids.length - i ∧ idxF (q.kids.drop i) col i = idxF q.kids col 0) (n := q.kids.length)
    ⟨0, rfl, rfl, by omega, by omega, by simp⟩ ?_
  rintro m F σ' ⟨i, rfl, rfl, hi, rfl, he⟩
  (repeat (first | refine st_q rfl rfl rfl ?_ | refine Z8v rfl (st_q rfl rfl rfl ?_) | refine Z8w rfl ?_ | refine Z8x rfl ?_ | (refine Z8y ?_; (repeat (first | refine Z9v rfl ?_ | refine Z9w ?_)); refine Z9u ?_) | refine awp_seq ?_ | refine Zbm (fun _ _ => rfl) ?_ | refine Z8h ?_ | refine Zbn (fun _ _ => rfl) ?_ | refine Zbo (fun _ _ => rfl) ?_ | refine Z8f (t := true) rfl (fun _ => ?_) (fun e => by cases e) | refine Z8f (t := false) rfl (fun e => by cases e) (fun _ => ?_)))
  refine Za3 (p := (i : Int) < (q.kids.length : Int)) rfl (fun h3 => ?_) (fun h3 => ?_)
  · obtain ⟨k, hk1⟩ : ∃ k, q.kids[i]? = some k := ⟨_, List.getElem?_eq_getElem (by omega)⟩
    have hx : (ints q.kids)[(i : Int).toNat]? = some (.int .i64 (k : Int)) := by rw [Int.toNat_natCast, ints, List.getElem?_map, hk1]; rfl
    have hd : q.kids.drop i = k :: q.kids.drop (i + 1) := by
      rw [List.drop_eq_getElem_cons (by omega)]
      congr 1
      have := List.getElem?_eq_getElem (l := q.kids) (i := i) (by omega)
      rw [hk1] at this
      exact (Option.some.inj this).symm
    rw [hd, idxF] at he
    (repeat (first | refine st_q rfl rfl rfl ?_ | refine Z8v rfl (st_q rfl rfl rfl ?_) | refine Z8w rfl ?_ | refine Z8x rfl ?_ | (refine Z8y ?_; (repeat (first | refine Z9v rfl ?_ | refine Z9w ?_)); refine Z9u ?_) | refine awp_seq ?_ | refine Zbm (fun _ _ => rfl) ?_ | refine Z8h ?_ | refine Zbn (fun _ _ => rfl) ?_ | refine Zbo (fun _ _ => rfl) ?_ | refine Z8f (t := true) rfl (fun _ => ?_) (fun e => by cases e) | refine Z8f (t := false) rfl (fun e => by cases e) (fun _ => ?_)))
    refine Z93 rfl (by omega) hx ?_
    (repeat (first | refine st_q rfl rfl rfl ?_ | refine Z8v rfl (st_q rfl rfl rfl ?_) | refine Z8w rfl ?_ | refine Z8x rfl ?_ | (refine Z8y ?_; (repeat (first | refine Z9v rfl ?_ | refine Z9w ?_)); refine Z9u ?_) | refine awp_seq ?_ | refine Zbm (fun _ _ => rfl) ?_ | refine Z8h ?_ | refine Zbn (fun _ _ => rfl) ?_ | refine Zbo (fun _ _ => rfl) ?_ | refine Z8f (t := true) rfl (fun _ => ?_) (fun e => by cases e) | refine Z8f (t := false) rfl (fun e => by cases e) (fun _ => ?_)))
    refine Za3 (p := (k : Int) = col) rfl (fun h4 => ?_) (fun h4 => ?_)
    · rw [if_pos h4] at he
      rw [← he]
      (repeat (first | refine st_q rfl rfl rfl ?_ | refine Z8v rfl (st_q rfl rfl rfl ?_) | refine Z8w rfl ?_ | refine Z8x rfl ?_ | (refine Z8y ?_; (repeat (first | refine Z9v rfl ?_ | refine Z9w ?_)); refine Z9u ?_) | refine awp_seq ?_ | refine Zbm (fun _ _ => rfl) ?_ | refine Z8h ?_ | refine Zbn (fun _ _ => rfl) ?_ | refine Zbo (fun _ _ => rfl) ?_ | refine Z8f (t := true) rfl (fun _ => ?_) (fun e => by cases e) | refine Z8f (t := false) rfl (fun e => by cases e) (fun _ => ?_)))
      refine Z8d ?_
      exact ares rfl (HSub.refl _) ⟨rfl, rfl⟩
    · rw [if_neg h4] at he
      refine Zbn (fun _ _ => rfl) ?_
      refine awp_region ?_
      (repeat (refine st_q rfl rfl rfl ?_))
      rw [show IntKind.wrap .i64 ((i : Int) + 1) = ((i + 1 : Nat) : Int) by rw [w64 _ (by omega) (by omega)]; omega]
      (repeat (refine st_q rfl rfl rfl ?_))
      refine Z8y ?_
      refine Zac (keep := [1, 15, 16, 17]) ?_
      ((repeat (first | refine Z9v rfl ?_ | refine Z9w ?_)); refine Z9u ?_)
      exact ⟨_, _, HSub.refl _, ⟨i + 1, rfl, rfl, by omega, rfl, he⟩, by omega⟩
  · (repeat (first | refine st_q rfl rfl rfl ?_ | refine Z8v rfl (st_q rfl rfl rfl ?_) | refine Z8w rfl ?_ | refine Z8x rfl ?_ | (refine Z8y ?_; (repeat (first | refine Z9v rfl ?_ | refine Z9w ?_)); refine Z9u ?_) | refine awp_seq ?_ | refine Zbm (fun _ _ => rfl) ?_ | refine Z8h ?_ | refine Zbn (fun _ _ => rfl) ?_ | refine Zbo (fun _ _ => rfl) ?_ | refine Z8f (t := true) rfl (fun _ => ?_) (fun e => by cases e) | refine Z8f (t := false) rfl (fun e => by cases e) (fun _ => ?_)))
    have e : q.kids.drop i = [] := List.drop_eq_nil_of_le (by omega)
    rw [e, idxF] at he
    rw [← he]
    refine Z8d ?_
    exact ares rfl (HSub.refl _) ⟨rfl, rfl⟩
def upF (l : List Nd) : Nat → Int → Bool
  | 0, _ => true
  | f + 1, p => if p < 0 ∨ (l.length : Int) ≤ p then true else
    match l[p.toNat]? with
    | none => true
    | some n => if n.t.kind = 12 then upF l f n.parent else false
def goodF (l : List Nd) (col : Int) : Bool :=
  if col < 0 ∨ (l.length : Int) ≤ col then false else
  match l[col.toNat]? with
  | none => false
  | some n => Zlt n.t.kind && upF l (n.parent + 1).toNat n.parent
theorem Z17w (l : List Nd) (hw : WfN l) (f : Bool) (col : Int) (σ : Zc) : Z1q Try.prog Zeh [.slc 8 (l.map encN) f, .int .i64 col] σ fun r σ' => r = .bool (goodF l col) ∧ σ' = σ := by
  have hml : (l.map encN).length = l.length := List.length_map ..
  have hlen := hw.len
  refine Z8t rfl Z17i (Nat.le_of_ble_eq_true rfl) ?_
  by_cases h1 : col < 0
  · (repeat (first | refine st_q rfl rfl rfl ?_ | refine Z8v rfl (st_q rfl rfl rfl ?_) | refine Z8w rfl ?_ | refine Z8x rfl ?_ | (refine Z8y ?_; (repeat (first | refine Z9v rfl ?_ | refine Z9w ?_)); refine Z9u ?_) | refine awp_seq ?_ | refine Zbm (fun _ _ => rfl) ?_ | refine Z8h ?_ | refine Zbn (fun _ _ => rfl) ?_ | refine Zbo (fun _ _ => rfl) ?_ | refine Z8f (t := true) rfl (fun _ => ?_) (fun e => by cases e) | refine Z8f (t := false) rfl (fun e => by cases e) (fun _ => ?_)))
    (rw [show decide (col < 0) = true from decide_eq_true (by omega)])
    (repeat (first | refine st_q rfl rfl rfl ?_ | refine Z8v rfl (st_q rfl rfl rfl ?_) | refine Z8w rfl ?_ | refine Z8x rfl ?_ | (refine Z8y ?_; (repeat (first | refine Z9v rfl ?_ | refine Z9w ?_)); refine Z9u ?_) | refine awp_seq ?_ | refine Zbm (fun _ _ => rfl) ?_ | refine Z8h ?_ | refine Zbn (fun _ _ => rfl) ?_ | refine Zbo (fun _ _ => rfl) ?_ | refine Z8f (t := true) rfl (fun _ => ?_) (fun e => by cases e) | refine Z8f (t := false) rfl (fun e => by cases e) (fun _ => ?_)))
    refine Z8d ?_
    exact ares rfl (HSub.refl _) ⟨by rw [goodF, if_pos (.inl h1)]; rfl, rfl⟩
  by_cases h2 : (l.length : Int) ≤ col
  · (repeat (first | refine st_q rfl rfl rfl ?_ | refine Z8v rfl (st_q rfl rfl rfl ?_) | refine Z8w rfl ?_ | refine Z8x rfl ?_ | (refine Z8y ?_; (repeat (first | refine Z9v rfl ?_ | refine Z9w ?_)); refine Z9u ?_) | refine awp_seq ?_ | refine Zbm (fun _ _ => rfl) ?_ | refine Z8h ?_ | refine Zbn (fun _ _ => rfl) ?_ | refine Zbo (fun _ _ => rfl) ?_ | refine Z8f (t := true) rfl (fun _ => ?_) (fun e => by cases e) | refine Z8f (t := false) rfl (fun e => by cases e) (fun _ => ?_)))
    (rw [show decide (col < 0) = false from decide_eq_false (by omega)])
    (repeat (first | refine st_q rfl rfl rfl ?_ | refine Z8v rfl (st_q rfl rfl rfl ?_) | refine Z8w rfl ?_ | refine Z8x rfl ?_ | (refine Z8y ?_; (repeat (first | refine Z9v rfl ?_ | refine Z9w ?_)); refine Z9u ?_) | refine awp_seq ?_ | refine Zbm (fun _ _ => rfl) ?_ | refine Z8h ?_ | refine Zbn (fun _ _ => rfl) ?_ | refine Zbo (fun _ _ => rfl) ?_ | refine Z8f (t := true) rfl (fun _ => ?_) (fun e => by cases e) | refine Z8f (t := false) rfl (fun e => by cases e) (fun _ => ?_)))
    rw [hml]
    (rw [show decide (col ≥ (l.length : Int)) = true from decide_eq_true (by omega)])
    (repeat (first | refine st_q rfl rfl rfl ?_ | refine Z8v rfl (st_q rfl rfl rfl ?_) | refine Z8w rfl ?_ | refine Z8x rfl ?_ | (refine Z8y ?_; (repeat (first | refine Z9v rfl ?_ | refine Z9w ?_)); refine Z9u ?_) | refine awp_seq ?_ | refine Zbm (fun _ _ => rfl) ?_ | refine Z8h ?_ | refine Zbn (fun _ _ => rfl) ?_ | refine Zbo (fun _ _ => rfl) ?_ | refine Z8f (t := true) rfl (fun _ => ?_) (fun e => by cases e) | refine Z8f (t := false) rfl (fun e => by cases e) (fun _ => ?_)))
    refine Z8d ?_
    exact ares rfl (HSub.refl _) ⟨by rw [goodF, if_pos (.inr h2)]; rfl, rfl⟩
  obtain ⟨n, hn⟩ : ∃ n, l[col.toNat]? = some n := ⟨_, List.getElem?_eq_getElem (by omega)⟩
  have hg : goodF l col = (Zlt n.t.kind && upF l (n.parent + 1).toNat n.parent) := by rw [goodF, if_neg (by omega), hn]
  rw [hg]
  have hup := hw.up _ _ hn
  (repeat (first | refine st_q rfl rfl rfl ?_ | refine Z8v rfl (st_q rfl rfl rfl ?_) | refine Z8w rfl ?_ | refine Z8x rfl ?_ | (refine Z8y ?_; (repeat (first | refine Z9v rfl ?_ | refine Z9w ?_)); refine Z9u ?_) | refine awp_seq ?_ | refine Zbm (fun _ _ => rfl) ?_ | refine Z8h ?_ | refine Zbn (fun _ _ => rfl) ?_ | refine Zbo (fun _ _ => rfl) ?_ | refine Z8f (t := true) rfl (fun _ => ?_) (fun e => by cases e) | refine Z8f (t := false) rfl (fun e => by cases e) (fun _ => ?_)))
  (rw [show decide (col < 0) = false from decide_eq_false (by omega)])
  (repeat (first | refine st_q rfl rfl rfl ?_ | refine Z8v rfl (st_q rfl rfl rfl ?_) | refine Z8w rfl ?_ | refine Z8x rfl ?_ | (refine Z8y ?_; (repeat (first | refine Z9v rfl ?_ | refine Z9w ?_)); refine Z9u ?_) | refine awp_seq ?_ | refine Zbm (fun _ _ => rfl) ?_ | refine Z8h ?_ | refine Zbn (fun _ _ => rfl) ?_ | refine Zbo (fun _ _ => rfl) ?_ | refine Z8f (t := true) rfl (fun _ => ?_) (fun e => by cases e) | refine Z8f (t := false) rfl (fun e => by cases e) (fun _ => ?_)))
  rw [hml]
  (rw [show decide (col ≥ (l.length : Int)) = false from decide_eq_false (by omega)])
  (repeat (first | refine st_q rfl rfl rfl ?_ | refine Z8v rfl (st_q rfl rfl rfl ?_) | refine Z8w rfl ?_ | refine Z8x rfl ?_ | (refine Z8y ?_; (repeat (first | refine Z9v rfl ?_ | refine Z9w ?_)); refine Z9u ?_) | refine awp_seq ?_ | refine Zbm (fun _ _ => rfl) ?_ | refine Z8h ?_ | refine Zbn (fun _ _ => rfl) ?_ | refine Zbo (fun _ _ => rfl) ?_ | refine Z8f (t := true) rfl (fun _ => ?_) (fun e => by cases e) | refine Z8f (t := false) rfl (fun e => by cases e) (fun _ => ?_)))
  refine Z8v rfl (Z93 rfl (by omega) (Z17u hn) ?_)
  rw [encN]
  (repeat (first | refine st_q rfl rfl rfl ?_ | refine Z8v rfl (st_q rfl rfl rfl ?_) | refine Z8w rfl ?_ | refine Z8x rfl ?_ | (refine Z8y ?_; (repeat (first | refine Z9v rfl ?_ | refine Z9w ?_)); refine Z9u ?_) | refine awp_seq ?_ | refine Zbm (fun _ _ => rfl) ?_ | refine Z8h ?_ | refine Zbn (fun _ _ => rfl) ?_ | refine Zbo (fun _ _ => rfl) ?_ | refine Z8f (t := true) rfl (fun _ => ?_) (fun e => by cases e) | refine Z8f (t := false) rfl (fun e => by cases e) (fun _ => ?_)))
  refine Z8v rfl (Z9t rfl (Zmw _ _) ?_)
  cases hl : Zlt n.t.kind with
  | false =>
    (repeat (first | refine st_q rfl rfl rfl ?_ | refine Z8v rfl (st_q rfl rfl rfl ?_) | refine Z8w rfl ?_ | refine Z8x rfl ?_ | (refine Z8y ?_; (repeat (first | refine Z9v rfl ?_ | refine Z9w ?_)); refine Z9u ?_) | refine awp_seq ?_ | refine Zbm (fun _ _ => rfl) ?_ | refine Z8h ?_ | refine Zbn (fun _ _ => rfl) ?_ | refine Zbo (fun _ _ => rfl) ?_ | refine Z8f (t := true) rfl (fun _ => ?_) (fun e => by cases e) | refine Z8f (t := false) rfl (fun e => by cases e) (fun _ => ?_)))
    refine Z8d ?_
    exact ares rfl (HSub.refl _) ⟨rfl, rfl⟩
  | true =>
    rw [Bool.true_and]
    (repeat (first | refine st_q rfl rfl rfl ?_ | refine Z8v rfl (st_q rfl rfl rfl ?_) | refine Z8w rfl ?_ | refine Z8x rfl ?_ | (refine Z8y ?_; (repeat (first | refine Z9v rfl ?_ | refine Z9w ?_)); refine Z9u ?_) | refine awp_seq ?_ | refine Zbm (fun _ _ => rfl) ?_ | refine Z8h ?_ | refine Zbn (fun _ _ => rfl) ?_ | refine Zbo (fun _ _ => rfl) ?_ | refine Z8f (t := true) rfl (fun _ => ?_) (fun e => by cases e) | refine Z8f (t := false) rfl (fun e => by cases e) (fun _ => ?_)))
    refine Z93 rfl (by omega) (Z17u hn) ?_
    rw [encN]
    (repeat (first | refine st_q rfl rfl rfl ?_ | refine Z8v rfl (st_q rfl rfl rfl ?_) | refine Z8w rfl ?_ | refine Z8x rfl ?_ | (refine Z8y ?_; (repeat (first | refine Z9v rfl ?_ | refine Z9w ?_)); refine Z9u ?_) | refine awp_seq ?_ | refine Zbm (fun _ _ => rfl) ?_ | refine Z8h ?_ | refine Zbn (fun _ _ => rfl) ?_ | refine Zbo (fun _ _ => rfl) ?_ | refine Z8f (t := true) rfl (fun _ => ?_) (fun e => by cases e) | refine Z8f (t := false) rfl (fun e => by cases e) (fun _ => ?_)))
    refine Zaa (fun m F σ' => ∃ p : Int, F = fset 0 (some (.slc 8 (l.map encN) f)) (fset 5 (some (.int .i64 p)) Z27) ∧ σ = σ' ∧ -1 ≤ p ∧ p < l.length ∧ m = (p + 1).toNat ∧ upF l (p + 1).toNat p = upF l (n.parent + 1).toNat n.parent) (n := (n.parent + 1).toNat)
      ⟨n.parent, rfl, rfl, by omega, by omega, rfl, rfl⟩ ?_
    rintro m F σ' ⟨p, rfl, rfl, hp1, hp2, rfl, he⟩
    by_cases h3 : 0 ≤ p
    · obtain ⟨q, hq⟩ : ∃ q, l[p.toNat]? = some q := ⟨_, List.getElem?_eq_getElem (by omega)⟩
      obtain ⟨j, hj⟩ : ∃ j, (p + 1).toNat = j + 1 := ⟨p.toNat, by omega⟩
      have hupq := hw.up _ _ hq
      rw [hj, upF, if_neg (by omega), hq] at he
      simp only at he
      (repeat (first | refine st_q rfl rfl rfl ?_ | refine Z8v rfl (st_q rfl rfl rfl ?_) | refine Z8w rfl ?_ | refine Z8x rfl ?_ | (refine Z8y ?_; (repeat (first | refine Z9v rfl ?_ | refine Z9w ?_)); refine Z9u ?_) | refine awp_seq ?_ | refine Zbm (fun _ _ => rfl) ?_ | refine Z8h ?_ | refine Zbn (fun _ _ => rfl) ?_ | refine Zbo (fun _ _ => rfl) ?_ | refine Z8f (t := true) rfl (fun _ => ?_) (fun e => by cases e) | refine Z8f (t := false) rfl (fun e => by cases e) (fun _ => ?_)))
      (rw [show decide (p ≥ 0) = true from decide_eq_true (by omega)])
      (repeat (first | refine st_q rfl rfl rfl ?_ | refine Z8v rfl (st_q rfl rfl rfl ?_) | refine Z8w rfl ?_ | refine Z8x rfl ?_ | (refine Z8y ?_; (repeat (first | refine Z9v rfl ?_ | refine Z9w ?_)); refine Z9u ?_) | refine awp_seq ?_ | refine Zbm (fun _ _ => rfl) ?_ | refine Z8h ?_ | refine Zbn (fun _ _ => rfl) ?_ | refine Zbo (fun _ _ => rfl) ?_ | refine Z8f (t := true) rfl (fun _ => ?_) (fun e => by cases e) | refine Z8f (t := false) rfl (fun e => by cases e) (fun _ => ?_)))
      rw [hml]
      (rw [show decide (p < (l.length : Int)) = true from decide_eq_true (by omega)])
      (repeat (first | refine st_q rfl rfl rfl ?_ | refine Z8v rfl (st_q rfl rfl rfl ?_) | refine Z8w rfl ?_ | refine Z8x rfl ?_ | (refine Z8y ?_; (repeat (first | refine Z9v rfl ?_ | refine Z9w ?_)); refine Z9u ?_) | refine awp_seq ?_ | refine Zbm (fun _ _ => rfl) ?_ | refine Z8h ?_ | refine Zbn (fun _ _ => rfl) ?_ | refine Zbo (fun _ _ => rfl) ?_ | refine Z8f (t := true) rfl (fun _ => ?_) (fun e => by cases e) | refine Z8f (t := false) rfl (fun e => by cases e) (fun _ => ?_)))
      refine Z93 rfl (by omega) (Z17u hq) ?_
      rw [encN]
      (repeat (first | refine st_q rfl rfl rfl ?_ | refine Z8v rfl (st_q rfl rfl rfl ?_) | refine Z8w rfl ?_ | refine Z8x rfl ?_ | (refine Z8y ?_; (repeat (first | refine Z9v rfl ?_ | refine Z9w ?_)); refine Z9u ?_) | refine awp_seq ?_ | refine Zbm (fun _ _ => rfl) ?_ | refine Z8h ?_ | refine Zbn (fun _ _ => rfl) ?_ | refine Zbo (fun _ _ => rfl) ?_ | refine Z8f (t := true) rfl (fun _ => ?_) (fun e => by cases e) | refine Z8f (t := false) rfl (fun e => by cases e) (fun _ => ?_)))
      refine Za3 (p := q.t.kind ≠ 12) rfl (fun h4 => ?_) (fun h4 => ?_)
      · rw [if_neg h4] at he
        rw [← he]
        (repeat (first | refine st_q rfl rfl rfl ?_ | refine Z8v rfl (st_q rfl rfl rfl ?_) | refine Z8w rfl ?_ | refine Z8x rfl ?_ | (refine Z8y ?_; (repeat (first | refine Z9v rfl ?_ | refine Z9w ?_)); refine Z9u ?_) | refine awp_seq ?_ | refine Zbm (fun _ _ => rfl) ?_ | refine Z8h ?_ | refine Zbn (fun _ _ => rfl) ?_ | refine Zbo (fun _ _ => rfl) ?_ | refine Z8f (t := true) rfl (fun _ => ?_) (fun e => by cases e) | refine Z8f (t := false) rfl (fun e => by cases e) (fun _ => ?_)))
        refine Z8d ?_
        exact ares rfl (HSub.refl _) ⟨rfl, rfl⟩
      · rw [if_pos (by omega)] at he
        refine Zbn (fun _ _ => rfl) ?_
        refine awp_region ?_
        (repeat (refine st_q rfl rfl rfl ?_))
        refine Z93 rfl (by omega) (Z17u hq) ?_
        rw [encN]
        (repeat (refine st_q rfl rfl rfl ?_))
        refine Z8y ?_
        refine Zac (keep := [0, 5]) ?_
        ((repeat (first | refine Z9v rfl ?_ | refine Z9w ?_)); refine Z9u ?_)
        refine ⟨_, _, HSub.refl _, ⟨q.parent, rfl, rfl, by omega, by omega, rfl, ?_⟩, by omega⟩
        rw [← he]
        have hmono : ∀ (a b : Nat) (x : Int), (x + 1).toNat ≤ a → (x + 1).toNat ≤ b → x < l.length → upF l a x = upF l b x := by
          intro a
          induction a with
          | zero =>
            intro b x h1 _ _
            cases b with
            | zero => rfl
            | succ b => rw [upF, upF, if_pos (.inl (by omega))]
          | succ a ih =>
            intro b x h1 h2 h3
            cases b with
            | zero => rw [upF, upF, if_pos (.inl (by omega))]
            | succ b =>
              rw [upF, upF]
              split
              · rfl
              · rename_i hx
                cases hlx : l[x.toNat]? with
                | none => rfl
                | some y =>
                  have := hw.up _ _ hlx
                  simp only
                  split
                  · exact ih b y.parent (by omega) (by omega) (by omega)
                  · rfl
        exact hmono _ _ _ (by omega) (by omega) (by omega)
    · have hp : p = -1 := by omega
      subst hp
      have e : upF l ((-1 : Int) + 1).toNat (-1) = true := rfl
      rw [e] at he
      rw [← he]
      (repeat (first | refine st_q rfl rfl rfl ?_ | refine Z8v rfl (st_q rfl rfl rfl ?_) | refine Z8w rfl ?_ | refine Z8x rfl ?_ | (refine Z8y ?_; (repeat (first | refine Z9v rfl ?_ | refine Z9w ?_)); refine Z9u ?_) | refine awp_seq ?_ | refine Zbm (fun _ _ => rfl) ?_ | refine Z8h ?_ | refine Zbn (fun _ _ => rfl) ?_ | refine Zbo (fun _ _ => rfl) ?_ | refine Z8f (t := true) rfl (fun _ => ?_) (fun e => by cases e) | refine Z8f (t := false) rfl (fun e => by cases e) (fun _ => ?_)))
      refine Z8d ?_
      exact ares rfl (HSub.refl _) ⟨rfl, rfl⟩
def Z17x (op c : Int) : Bool :=
  if op = 1 then decide (c = 0) else if op = 2 then decide (c ≠ 0) else if op = 3 then decide (c < 0) else if op = 4 then decide (c ≤ 0) else if op = 5 then decide (c > 0) else decide (c ≥ 0)
theorem Z17y (op c : Int) (σ : Zc) : Z1q Try.prog Zen [.int .i64 op, .int .i64 c] σ fun r σ' => r = .bool (Z17x op c) ∧ σ' = σ := by
  refine Z8t rfl Z17m (Nat.le_of_ble_eq_true rfl) ?_
  by_cases h1 : op = 1
  · subst h1; (repeat (first | refine st_q rfl rfl rfl ?_ | refine Z8v rfl (st_q rfl rfl rfl ?_) | refine Z8w rfl ?_ | refine Z8x rfl ?_ | (refine Z8y ?_; (repeat (first | refine Z9v rfl ?_ | refine Z9w ?_)); refine Z9u ?_) | refine awp_seq ?_ | refine Zbm (fun _ _ => rfl) ?_ | refine Z8h ?_ | refine Zbn (fun _ _ => rfl) ?_ | refine Zbo (fun _ _ => rfl) ?_ | refine Z8f (t := true) rfl (fun _ => ?_) (fun e => by cases e) | refine Z8f (t := false) rfl (fun e => by cases e) (fun _ => ?_))); refine Z8d ?_; exact ares rfl (HSub.refl _) ⟨rfl, rfl⟩
  by_cases h2 : op = 2
  · subst h2; (repeat (first | refine st_q rfl rfl rfl ?_ | refine Z8v rfl (st_q rfl rfl rfl ?_) | refine Z8w rfl ?_ | refine Z8x rfl ?_ | (refine Z8y ?_; (repeat (first | refine Z9v rfl ?_ | refine Z9w ?_)); refine Z9u ?_) | refine awp_seq ?_ | refine Zbm (fun _ _ => rfl) ?_ | refine Z8h ?_ | refine Zbn (fun _ _ => rfl) ?_ | refine Zbo (fun _ _ => rfl) ?_ | refine Z8f (t := true) rfl (fun _ => ?_) (fun e => by cases e) | refine Z8f (t := false) rfl (fun e => by cases e) (fun _ => ?_))); refine Z8d ?_; exact ares rfl (HSub.refl _) ⟨rfl, rfl⟩
  by_cases h3 : op = 3
  · subst h3; (repeat (first | refine st_q rfl rfl rfl ?_ | refine Z8v rfl (st_q rfl rfl rfl ?_) | refine Z8w rfl ?_ | refine Z8x rfl ?_ | (refine Z8y ?_; (repeat (first | refine Z9v rfl ?_ | refine Z9w ?_)); refine Z9u ?_) | refine awp_seq ?_ | refine Zbm (fun _ _ => rfl) ?_ | refine Z8h ?_ | refine Zbn (fun _ _ => rfl) ?_ | refine Zbo (fun _ _ => rfl) ?_ | refine Z8f (t := true) rfl (fun _ => ?_) (fun e => by cases e) | refine Z8f (t := false) rfl (fun e => by cases e) (fun _ => ?_))); refine Z8d ?_; exact ares rfl (HSub.refl _) ⟨rfl, rfl⟩
  by_cases h4 : op = 4
  · subst h4; (repeat (first | refine st_q rfl rfl rfl ?_ | refine Z8v rfl (st_q rfl rfl rfl ?_) | refine Z8w rfl ?_ | refine Z8x rfl ?_ | (refine Z8y ?_; (repeat (first | refine Z9v rfl ?_ | refine Z9w ?_)); refine Z9u ?_) | refine awp_seq ?_ | refine Zbm (fun _ _ => rfl) ?_ | refine Z8h ?_ | refine Zbn (fun _ _ => rfl) ?_ | refine Zbo (fun _ _ => rfl) ?_ | refine Z8f (t := true) rfl (fun _ => ?_) (fun e => by cases e) | refine Z8f (t := false) rfl (fun e => by cases e) (fun _ => ?_))); refine Z8d ?_; exact ares rfl (HSub.refl _) ⟨rfl, rfl⟩
  by_cases h5 : op = 5
  · subst h5; (repeat (first | refine st_q rfl rfl rfl ?_ | refine Z8v rfl (st_q rfl rfl rfl ?_) | refine Z8w rfl ?_ | refine Z8x rfl ?_ | (refine Z8y ?_; (repeat (first | refine Z9v rfl ?_ | refine Z9w ?_)); refine Z9u ?_) | refine awp_seq ?_ | refine Zbm (fun _ _ => rfl) ?_ | refine Z8h ?_ | refine Zbn (fun _ _ => rfl) ?_ | refine Zbo (fun _ _ => rfl) ?_ | refine Z8f (t := true) rfl (fun _ => ?_) (fun e => by cases e) | refine Z8f (t := false) rfl (fun e => by cases e) (fun _ => ?_))); refine Z8d ?_; exact ares rfl (HSub.refl _) ⟨rfl, rfl⟩
  (repeat (first | refine st_q rfl rfl rfl ?_ | refine Z8v rfl (st_q rfl rfl rfl ?_) | refine Z8w rfl ?_ | refine Z8x rfl ?_ | (refine Z8y ?_; (repeat (first | refine Z9v rfl ?_ | refine Z9w ?_)); refine Z9u ?_) | refine awp_seq ?_ | refine Zbm (fun _ _ => rfl) ?_ | refine Z8h ?_ | refine Zbn (fun _ _ => rfl) ?_ | refine Zbo (fun _ _ => rfl) ?_ | refine Z8f (t := true) rfl (fun _ => ?_) (fun e => by cases e) | refine Z8f (t := false) rfl (fun e => by cases e) (fun _ => ?_)))
  rw [decide_eq_false h1]
  (repeat (first | refine st_q rfl rfl rfl ?_ | refine Z8v rfl (st_q rfl rfl rfl ?_) | refine Z8w rfl ?_ | refine Z8x rfl ?_ | (refine Z8y ?_; (repeat (first | refine Z9v rfl ?_ | refine Z9w ?_)); refine Z9u ?_) | refine awp_seq ?_ | refine Zbm (fun _ _ => rfl) ?_ | refine Z8h ?_ | refine Zbn (fun _ _ => rfl) ?_ | refine Zbo (fun _ _ => rfl) ?_ | refine Z8f (t := true) rfl (fun _ => ?_) (fun e => by cases e) | refine Z8f (t := false) rfl (fun e => by cases e) (fun _ => ?_)))
  rw [decide_eq_false h2]
  (repeat (first | refine st_q rfl rfl rfl ?_ | refine Z8v rfl (st_q rfl rfl rfl ?_) | refine Z8w rfl ?_ | refine Z8x rfl ?_ | (refine Z8y ?_; (repeat (first | refine Z9v rfl ?_ | refine Z9w ?_)); refine Z9u ?_) | refine awp_seq ?_ | refine Zbm (fun _ _ => rfl) ?_ | refine Z8h ?_ | refine Zbn (fun _ _ => rfl) ?_ | refine Zbo (fun _ _ => rfl) ?_ | refine Z8f (t := true) rfl (fun _ => ?_) (fun e => by cases e) | refine Z8f (t := false) rfl (fun e => by cases e) (fun _ => ?_)))
  rw [decide_eq_false h3]
  (repeat (first | refine st_q rfl rfl rfl ?_ | refine Z8v rfl (st_q rfl rfl rfl ?_) | refine Z8w rfl ?_ | refine Z8x rfl ?_ | (refine Z8y ?_; (repeat (first | refine Z9v rfl ?_ | refine Z9w ?_)); refine Z9u ?_) | refine awp_seq ?_ | refine Zbm (fun _ _ => rfl) ?_ | refine Z8h ?_ | refine Zbn (fun _ _ => rfl) ?_ | refine Zbo (fun _ _ => rfl) ?_ | refine Z8f (t := true) rfl (fun _ => ?_) (fun e => by cases e) | refine Z8f (t := false) rfl (fun e => by cases e) (fun _ => ?_)))
  rw [decide_eq_false h4]
  (repeat (first | refine st_q rfl rfl rfl ?_ | refine Z8v rfl (st_q rfl rfl rfl ?_) | refine Z8w rfl ?_ | refine Z8x rfl ?_ | (refine Z8y ?_; (repeat (first | refine Z9v rfl ?_ | refine Z9w ?_)); refine Z9u ?_) | refine awp_seq ?_ | refine Zbm (fun _ _ => rfl) ?_ | refine Z8h ?_ | refine Zbn (fun _ _ => rfl) ?_ | refine Zbo (fun _ _ => rfl) ?_ | refine Z8f (t := true) rfl (fun _ => ?_) (fun e => by cases e) | refine Z8f (t := false) rfl (fun e => by cases e) (fun _ => ?_)))
  rw [decide_eq_false h5]
  (repeat (first | refine st_q rfl rfl rfl ?_ | refine Z8v rfl (st_q rfl rfl rfl ?_) | refine Z8w rfl ?_ | refine Z8x rfl ?_ | (refine Z8y ?_; (repeat (first | refine Z9v rfl ?_ | refine Z9w ?_)); refine Z9u ?_) | refine awp_seq ?_ | refine Zbm (fun _ _ => rfl) ?_ | refine Z8h ?_ | refine Zbn (fun _ _ => rfl) ?_ | refine Zbo (fun _ _ => rfl) ?_ | refine Z8f (t := true) rfl (fun _ => ?_) (fun e => by cases e) | refine Z8f (t := false) rfl (fun e => by cases e) (fun _ => ?_)))
  refine Z8d ?_
  exact ares rfl (HSub.refl _) ⟨by rw [Z17x, if_neg h1, if_neg h2, if_neg h3, if_neg h4, if_neg h5]; rfl, rfl⟩
end Go.Abs
namespace Go.Abs
open Go Go.Proofs
set_option linter.unusedVariables false
set_option linter.unusedSimpArgs false
set_option maxHeartbeats 4000000
attribute [local irreducible] AWp aops KP
def nullV : Vl := .mk true 0 0 [] []
def stepG (v : Vl) (i : Int) : Vl := if v.null = false ∧ 0 ≤ i ∧ i < v.kids.length then v.kids.getD i.toNat vl0 else nullV
def getF (l : List Nd) : Nat → Int → Vl → Vl
  | 0, _, row => row
  | f + 1, col, row =>
    match l[col.toNat]? with
    | none => row
    | some n => if n.parent < 0 then row else
      match l[n.parent.toNat]? with
      | none => row
      | some q => stepG (getF l f n.parent row) (idxF q.kids col 0)
theorem c_get (l : List Nd) (hw : WfN l) (fl : Bool) (row : Vl) : ∀ (f : Nat) (col : Int), 0 ≤ col → col < l.length → col.toNat < f → ∀ σ, Z1q Try.prog Zek [.slc 8 (l.map encN) fl, .int .i64 col, encV row] σ fun r σ' => r = encV (getF l f col row) ∧ σ' = σ := by
  intro f
  induction f with
  | zero => intro col _ _ h; omega
  | succ f ih =>
    intro col h0 h1 hf σ
    obtain ⟨n, hn⟩ : ∃ n, l[col.toNat]? = some n := ⟨_, List.getElem?_eq_getElem (by omega)⟩
    have hup := hw.up _ _ hn
    have hrow := Zm7 row
    refine Z8t rfl Z17k (Nat.le_of_ble_eq_true rfl) ?_
    rw [hrow]
    refine Z9z ?_
    refine Z9j rfl (Z0.fit_iff.1 rfl) fun b hb => ?_
    refine Z9k (by simp [Z0.cells, Z0.one]) fun b2 hb2 => ?_
    (repeat (refine st_q rfl rfl rfl ?_))
    (refine Z8y ?_; (repeat (first | refine Z9v rfl ?_ | refine Z9w ?_)); refine Z9u ?_)
    refine Z8a (FSub.refl _) (τ := (b, .cells 5 [.agg (Zm6 row)]) :: (b2, .cells 5 [.agg [.bool false, .int .i64 0, .int .i64 0, .slc 0 [] true, .slc 0 [] true]]) :: σ) (HSub.of_perm (List.Perm.swap _ _ _)) ?_
    refine Zb3 (d := 5) (cs := Zm6 row) rfl ?_
    have fin : ∀ (R : Z87) (F : Z26) (cs : List Z0) (v : Vl), cs.length = 5 → VRle [.agg cs] [encV v] → F 6 = some (.ptr b2 0 0) → (∀ F τ, R .ret F τ = ARet Z163.res (fun r σ' => r = encV v ∧ σ' = σ) .ret F τ) → AWp Try.prog Z163.n .ret R F ((b2, .cells 5 [.agg cs]) :: σ) := by
      intro R F cs v hl hv hF hR
      refine Zb3 (d := 6) (cs := cs) hF ?_
      refine Z8d ?_
      rw [hR]
      match cs, hl with
      | [a0, a1, a2, a3, a4], _ => exact Zau rfl hv (HSub.refl _) ⟨rfl, rfl⟩
    by_cases hp : n.parent < 0
    · have e : getF l (f + 1) col row = row := by rw [getF, hn]; exact if_pos hp
      rw [e]
      (repeat (first | refine st_q rfl rfl rfl ?_ | refine Z8v rfl (st_q rfl rfl rfl ?_) | refine Z8w rfl ?_ | refine Z8x rfl ?_ | (refine Z8y ?_; (repeat (first | refine Z9v rfl ?_ | refine Z9w ?_)); refine Z9u ?_) | refine awp_seq ?_ | refine Zbm (fun _ _ => rfl) ?_ | refine Z8h ?_ | refine Zbn (fun _ _ => rfl) ?_ | refine Zbo (fun _ _ => rfl) ?_ | refine Z8f (t := true) rfl (fun _ => ?_) (fun e => by cases e) | refine Z8f (t := false) rfl (fun e => by cases e) (fun _ => ?_)))
      refine Z93 rfl (by omega) (Z17u hn) ?_
      rw [encN]
      (repeat (first | refine st_q rfl rfl rfl ?_ | refine Z8v rfl (st_q rfl rfl rfl ?_) | refine Z8w rfl ?_ | refine Z8x rfl ?_ | (refine Z8y ?_; (repeat (first | refine Z9v rfl ?_ | refine Z9w ?_)); refine Z9u ?_) | refine awp_seq ?_ | refine Zbm (fun _ _ => rfl) ?_ | refine Z8h ?_ | refine Zbn (fun _ _ => rfl) ?_ | refine Zbo (fun _ _ => rfl) ?_ | refine Z8f (t := true) rfl (fun _ => ?_) (fun e => by cases e) | refine Z8f (t := false) rfl (fun e => by cases e) (fun _ => ?_)))
      (rw [show decide (n.parent < 0) = true from decide_eq_true (by omega)])
      (repeat (first | refine st_q rfl rfl rfl ?_ | refine Z8v rfl (st_q rfl rfl rfl ?_) | refine Z8w rfl ?_ | refine Z8x rfl ?_ | (refine Z8y ?_; (repeat (first | refine Z9v rfl ?_ | refine Z9w ?_)); refine Z9u ?_) | refine awp_seq ?_ | refine Zbm (fun _ _ => rfl) ?_ | refine Z8h ?_ | refine Zbn (fun _ _ => rfl) ?_ | refine Zbo (fun _ _ => rfl) ?_ | refine Z8f (t := true) rfl (fun _ => ?_) (fun e => by cases e) | refine Z8f (t := false) rfl (fun e => by cases e) (fun _ => ?_)))
      refine Z9a rfl Z8z rfl (by decide) (Z0.fit_iff.1 rfl) (fun h => by cases h) Z9b ?_
      (repeat (first | refine st_q rfl rfl rfl ?_ | refine Z8v rfl (st_q rfl rfl rfl ?_) | refine Z8w rfl ?_ | refine Z8x rfl ?_ | (refine Z8y ?_; (repeat (first | refine Z9v rfl ?_ | refine Z9w ?_)); refine Z9u ?_) | refine awp_seq ?_ | refine Zbm (fun _ _ => rfl) ?_ | refine Z8h ?_ | refine Zbn (fun _ _ => rfl) ?_ | refine Zbo (fun _ _ => rfl) ?_ | refine Z8f (t := true) rfl (fun _ => ?_) (fun e => by cases e) | refine Z8f (t := false) rfl (fun e => by cases e) (fun _ => ?_)))
      exact fin _ _ _ _ rfl (by rw [hrow]; exact VRle.refl _) rfl (fun _ _ => rfl)
    · obtain ⟨q, hq⟩ : ∃ q, l[n.parent.toNat]? = some q := ⟨_, List.getElem?_eq_getElem (by omega)⟩
      have hqk := hw.kids q (List.mem_of_getElem? hq)
      have e : getF l (f + 1) col row = stepG (getF l f n.parent row) (idxF q.kids col 0) := by
        rw [getF, hn]
        simp only [if_neg hp, hq]
      have hg := fun τ => ih n.parent (by omega) (by omega) (by omega) τ
      have hc := Z17v l fl col h0 n q hn (by omega) hq hqk
      rw [e]
      generalize getF l f n.parent row = v at hg ⊢
      rw [hrow] at hg
      have hve := Zm7 v
      have hr := Z17t q.kids col 0
      generalize idxF q.kids col 0 = i at hc hr ⊢
      (repeat (first | refine st_q rfl rfl rfl ?_ | refine Z8v rfl (st_q rfl rfl rfl ?_) | refine Z8w rfl ?_ | refine Z8x rfl ?_ | (refine Z8y ?_; (repeat (first | refine Z9v rfl ?_ | refine Z9w ?_)); refine Z9u ?_) | refine awp_seq ?_ | refine Zbm (fun _ _ => rfl) ?_ | refine Z8h ?_ | refine Zbn (fun _ _ => rfl) ?_ | refine Zbo (fun _ _ => rfl) ?_ | refine Z8f (t := true) rfl (fun _ => ?_) (fun e => by cases e) | refine Z8f (t := false) rfl (fun e => by cases e) (fun _ => ?_)))
      refine Z93 rfl (by omega) (Z17u hn) ?_
      rw [encN]
      (repeat (first | refine st_q rfl rfl rfl ?_ | refine Z8v rfl (st_q rfl rfl rfl ?_) | refine Z8w rfl ?_ | refine Z8x rfl ?_ | (refine Z8y ?_; (repeat (first | refine Z9v rfl ?_ | refine Z9w ?_)); refine Z9u ?_) | refine awp_seq ?_ | refine Zbm (fun _ _ => rfl) ?_ | refine Z8h ?_ | refine Zbn (fun _ _ => rfl) ?_ | refine Zbo (fun _ _ => rfl) ?_ | refine Z8f (t := true) rfl (fun _ => ?_) (fun e => by cases e) | refine Z8f (t := false) rfl (fun e => by cases e) (fun _ => ?_)))
      (rw [show decide (n.parent < 0) = false from decide_eq_false (by omega)])
      (repeat (first | refine st_q rfl rfl rfl ?_ | refine Z8v rfl (st_q rfl rfl rfl ?_) | refine Z8w rfl ?_ | refine Z8x rfl ?_ | (refine Z8y ?_; (repeat (first | refine Z9v rfl ?_ | refine Z9w ?_)); refine Z9u ?_) | refine awp_seq ?_ | refine Zbm (fun _ _ => rfl) ?_ | refine Z8h ?_ | refine Zbn (fun _ _ => rfl) ?_ | refine Zbo (fun _ _ => rfl) ?_ | refine Z8f (t := true) rfl (fun _ => ?_) (fun e => by cases e) | refine Z8f (t := false) rfl (fun e => by cases e) (fun _ => ?_)))
      refine Z93 rfl (by omega) (Z17u hn) ?_
      rw [encN]
      (repeat (first | refine st_q rfl rfl rfl ?_ | refine Z8v rfl (st_q rfl rfl rfl ?_) | refine Z8w rfl ?_ | refine Z8x rfl ?_ | (refine Z8y ?_; (repeat (first | refine Z9v rfl ?_ | refine Z9w ?_)); refine Z9u ?_) | refine awp_seq ?_ | refine Zbm (fun _ _ => rfl) ?_ | refine Z8h ?_ | refine Zbn (fun _ _ => rfl) ?_ | refine Zbo (fun _ _ => rfl) ?_ | refine Z8f (t := true) rfl (fun _ => ?_) (fun e => by cases e) | refine Z8f (t := false) rfl (fun e => by cases e) (fun _ => ?_)))
      refine Zbw rfl hg ?_
      rw [hve]
      (repeat (first | refine st_q rfl rfl rfl ?_ | refine Z8v rfl (st_q rfl rfl rfl ?_) | refine Z8w rfl ?_ | refine Z8x rfl ?_ | (refine Z8y ?_; (repeat (first | refine Z9v rfl ?_ | refine Z9w ?_)); refine Z9u ?_) | refine awp_seq ?_ | refine Zbm (fun _ _ => rfl) ?_ | refine Z8h ?_ | refine Zbn (fun _ _ => rfl) ?_ | refine Zbo (fun _ _ => rfl) ?_ | refine Z8f (t := true) rfl (fun _ => ?_) (fun e => by cases e) | refine Z8f (t := false) rfl (fun e => by cases e) (fun _ => ?_)))
      refine Z9k (by simp [Z0.cells, Z0.one]) fun b3 hb3 => ?_
      refine Z9a rfl Z8z rfl (by decide) (Z0.fit_iff.1 rfl) (fun h => by cases h) Z9b ?_
      (repeat (refine st_q rfl rfl rfl ?_))
      (refine Z8y ?_; (repeat (first | refine Z9v rfl ?_ | refine Z9w ?_)); refine Z9u ?_)
      refine Zb3 (d := 7) (cs := Zm6 v) rfl ?_
      (repeat (first | refine st_q rfl rfl rfl ?_ | refine Z8v rfl (st_q rfl rfl rfl ?_) | refine Z8w rfl ?_ | refine Z8x rfl ?_ | (refine Z8y ?_; (repeat (first | refine Z9v rfl ?_ | refine Z9w ?_)); refine Z9u ?_) | refine awp_seq ?_ | refine Zbm (fun _ _ => rfl) ?_ | refine Z8h ?_ | refine Zbn (fun _ _ => rfl) ?_ | refine Zbo (fun _ _ => rfl) ?_ | refine Z8f (t := true) rfl (fun _ => ?_) (fun e => by cases e) | refine Z8f (t := false) rfl (fun e => by cases e) (fun _ => ?_)))
      refine Z9t rfl (hc _) ?_
      (repeat (first | refine st_q rfl rfl rfl ?_ | refine Z8v rfl (st_q rfl rfl rfl ?_) | refine Z8w rfl ?_ | refine Z8x rfl ?_ | (refine Z8y ?_; (repeat (first | refine Z9v rfl ?_ | refine Z9w ?_)); refine Z9u ?_) | refine awp_seq ?_ | refine Zbm (fun _ _ => rfl) ?_ | refine Z8h ?_ | refine Zbn (fun _ _ => rfl) ?_ | refine Zbo (fun _ _ => rfl) ?_ | refine Z8f (t := true) rfl (fun _ => ?_) (fun e => by cases e) | refine Z8f (t := false) rfl (fun e => by cases e) (fun _ => ?_)))
      have fin0 : ∀ (R : Z87) (F : Z26), stepG v i = nullV → F 6 = some (.ptr b2 0 0) → (∀ F τ, R .ret F τ = ARet Z163.res (fun r σ' => r = encV (stepG v i) ∧ σ' = σ) .ret F τ) →
          AWp Try.prog Z163.n .ret R F ((b2, .cells 5 [.agg [.bool true, .int .i64 0, .int .i64 0, .slc 0 [] true, .slc 0 [] true]]) :: σ) := fun R F hs hF hR => by
        rw [hs] at hR
        refine fin R F _ nullV rfl ?_ hF hR
        rw [nullV, encV]
        (repeat (first | exact VRle.refl _ | exact Zc5 | refine Zc6 rfl rfl ?_ | refine Zc7 rfl ?_ | refine Zc4 ?_ ?_))
      have hvl : (Zm5 v.kids).length = v.kids.length := by rw [Zm8, List.length_map]
      cases hvn : v.null with
      | true =>
        (repeat (first | refine st_q rfl rfl rfl ?_ | refine Z8v rfl (st_q rfl rfl rfl ?_) | refine Z8w rfl ?_ | refine Z8x rfl ?_ | (refine Z8y ?_; (repeat (first | refine Z9v rfl ?_ | refine Z9w ?_)); refine Z9u ?_) | refine awp_seq ?_ | refine Zbm (fun _ _ => rfl) ?_ | refine Z8h ?_ | refine Zbn (fun _ _ => rfl) ?_ | refine Zbo (fun _ _ => rfl) ?_ | refine Z8f (t := true) rfl (fun _ => ?_) (fun e => by cases e) | refine Z8f (t := false) rfl (fun e => by cases e) (fun _ => ?_)))
        refine Z9a rfl Z8z rfl (by decide) (Z0.fit_iff.1 rfl) (fun h => by cases h) Z9b ?_
        (repeat (first | refine st_q rfl rfl rfl ?_ | refine Z8v rfl (st_q rfl rfl rfl ?_) | refine Z8w rfl ?_ | refine Z8x rfl ?_ | (refine Z8y ?_; (repeat (first | refine Z9v rfl ?_ | refine Z9w ?_)); refine Z9u ?_) | refine awp_seq ?_ | refine Zbm (fun _ _ => rfl) ?_ | refine Z8h ?_ | refine Zbn (fun _ _ => rfl) ?_ | refine Zbo (fun _ _ => rfl) ?_ | refine Z8f (t := true) rfl (fun _ => ?_) (fun e => by cases e) | refine Z8f (t := false) rfl (fun e => by cases e) (fun _ => ?_)))
        exact fin0 _ _ (by rw [stepG, if_neg (by rw [hvn]; simp)]) rfl (fun _ _ => rfl)
      | false =>
        (repeat (first | refine st_q rfl rfl rfl ?_ | refine Z8v rfl (st_q rfl rfl rfl ?_) | refine Z8w rfl ?_ | refine Z8x rfl ?_ | (refine Z8y ?_; (repeat (first | refine Z9v rfl ?_ | refine Z9w ?_)); refine Z9u ?_) | refine awp_seq ?_ | refine Zbm (fun _ _ => rfl) ?_ | refine Z8h ?_ | refine Zbn (fun _ _ => rfl) ?_ | refine Zbo (fun _ _ => rfl) ?_ | refine Z8f (t := true) rfl (fun _ => ?_) (fun e => by cases e) | refine Z8f (t := false) rfl (fun e => by cases e) (fun _ => ?_)))
        by_cases hi : i < 0
        · (rw [show decide (i ≥ 0) = false from decide_eq_false (by omega)])
          (repeat (first | refine st_q rfl rfl rfl ?_ | refine Z8v rfl (st_q rfl rfl rfl ?_) | refine Z8w rfl ?_ | refine Z8x rfl ?_ | (refine Z8y ?_; (repeat (first | refine Z9v rfl ?_ | refine Z9w ?_)); refine Z9u ?_) | refine awp_seq ?_ | refine Zbm (fun _ _ => rfl) ?_ | refine Z8h ?_ | refine Zbn (fun _ _ => rfl) ?_ | refine Zbo (fun _ _ => rfl) ?_ | refine Z8f (t := true) rfl (fun _ => ?_) (fun e => by cases e) | refine Z8f (t := false) rfl (fun e => by cases e) (fun _ => ?_)))
          refine Z9a rfl Z8z rfl (by decide) (Z0.fit_iff.1 rfl) (fun h => by cases h) Z9b ?_
          (repeat (first | refine st_q rfl rfl rfl ?_ | refine Z8v rfl (st_q rfl rfl rfl ?_) | refine Z8w rfl ?_ | refine Z8x rfl ?_ | (refine Z8y ?_; (repeat (first | refine Z9v rfl ?_ | refine Z9w ?_)); refine Z9u ?_) | refine awp_seq ?_ | refine Zbm (fun _ _ => rfl) ?_ | refine Z8h ?_ | refine Zbn (fun _ _ => rfl) ?_ | refine Zbo (fun _ _ => rfl) ?_ | refine Z8f (t := true) rfl (fun _ => ?_) (fun e => by cases e) | refine Z8f (t := false) rfl (fun e => by cases e) (fun _ => ?_)))
          exact fin0 _ _ (by rw [stepG, if_neg (by omega)]) rfl (fun _ _ => rfl)
        (rw [show decide (i ≥ 0) = true from decide_eq_true (by omega)])
        (repeat (first | refine st_q rfl rfl rfl ?_ | refine Z8v rfl (st_q rfl rfl rfl ?_) | refine Z8w rfl ?_ | refine Z8x rfl ?_ | (refine Z8y ?_; (repeat (first | refine Z9v rfl ?_ | refine Z9w ?_)); refine Z9u ?_) | refine awp_seq ?_ | refine Zbm (fun _ _ => rfl) ?_ | refine Z8h ?_ | refine Zbn (fun _ _ => rfl) ?_ | refine Zbo (fun _ _ => rfl) ?_ | refine Z8f (t := true) rfl (fun _ => ?_) (fun e => by cases e) | refine Z8f (t := false) rfl (fun e => by cases e) (fun _ => ?_)))
        rw [hvl]
        by_cases hj : i < v.kids.length
        · obtain ⟨k, hk⟩ : ∃ k, v.kids[i.toNat]? = some k := ⟨_, List.getElem?_eq_getElem (by omega)⟩
          have hke := Zm7 k
          have hs : stepG v i = k := by rw [stepG, if_pos ⟨hvn, by omega, hj⟩, List.getD_eq_getElem?_getD, hk]; rfl
          (rw [show decide (i < (v.kids.length : Int)) = true from decide_eq_true (by omega)])
          (repeat (first | refine st_q rfl rfl rfl ?_ | refine Z8v rfl (st_q rfl rfl rfl ?_) | refine Z8w rfl ?_ | refine Z8x rfl ?_ | (refine Z8y ?_; (repeat (first | refine Z9v rfl ?_ | refine Z9w ?_)); refine Z9u ?_) | refine awp_seq ?_ | refine Zbm (fun _ _ => rfl) ?_ | refine Z8h ?_ | refine Zbn (fun _ _ => rfl) ?_ | refine Zbo (fun _ _ => rfl) ?_ | refine Z8f (t := true) rfl (fun _ => ?_) (fun e => by cases e) | refine Z8f (t := false) rfl (fun e => by cases e) (fun _ => ?_)))
          refine Z93 rfl (by omega) (Zma hk) ?_
          rw [hke]
          (repeat (first | refine st_q rfl rfl rfl ?_ | refine Z8v rfl (st_q rfl rfl rfl ?_) | refine Z8w rfl ?_ | refine Z8x rfl ?_ | (refine Z8y ?_; (repeat (first | refine Z9v rfl ?_ | refine Z9w ?_)); refine Z9u ?_) | refine awp_seq ?_ | refine Zbm (fun _ _ => rfl) ?_ | refine Z8h ?_ | refine Zbn (fun _ _ => rfl) ?_ | refine Zbo (fun _ _ => rfl) ?_ | refine Z8f (t := true) rfl (fun _ => ?_) (fun e => by cases e) | refine Z8f (t := false) rfl (fun e => by cases e) (fun _ => ?_)))
          refine Z9a rfl Z8z rfl (by decide) (Z0.fit_iff.1 rfl) (fun h => by cases h) Z9b ?_
          (repeat (first | refine st_q rfl rfl rfl ?_ | refine Z8v rfl (st_q rfl rfl rfl ?_) | refine Z8w rfl ?_ | refine Z8x rfl ?_ | (refine Z8y ?_; (repeat (first | refine Z9v rfl ?_ | refine Z9w ?_)); refine Z9u ?_) | refine awp_seq ?_ | refine Zbm (fun _ _ => rfl) ?_ | refine Z8h ?_ | refine Zbn (fun _ _ => rfl) ?_ | refine Zbo (fun _ _ => rfl) ?_ | refine Z8f (t := true) rfl (fun _ => ?_) (fun e => by cases e) | refine Z8f (t := false) rfl (fun e => by cases e) (fun _ => ?_)))
          rw [hs]
          exact fin _ _ _ _ rfl (by rw [hke]; exact VRle.refl _) rfl (fun _ _ => rfl)
        · (rw [show decide (i < (v.kids.length : Int)) = false from decide_eq_false (by omega)])
          (repeat (first | refine st_q rfl rfl rfl ?_ | refine Z8v rfl (st_q rfl rfl rfl ?_) | refine Z8w rfl ?_ | refine Z8x rfl ?_ | (refine Z8y ?_; (repeat (first | refine Z9v rfl ?_ | refine Z9w ?_)); refine Z9u ?_) | refine awp_seq ?_ | refine Zbm (fun _ _ => rfl) ?_ | refine Z8h ?_ | refine Zbn (fun _ _ => rfl) ?_ | refine Zbo (fun _ _ => rfl) ?_ | refine Z8f (t := true) rfl (fun _ => ?_) (fun e => by cases e) | refine Z8f (t := false) rfl (fun e => by cases e) (fun _ => ?_)))
          refine Z9a rfl Z8z rfl (by decide) (Z0.fit_iff.1 rfl) (fun h => by cases h) Z9b ?_
          (repeat (first | refine st_q rfl rfl rfl ?_ | refine Z8v rfl (st_q rfl rfl rfl ?_) | refine Z8w rfl ?_ | refine Z8x rfl ?_ | (refine Z8y ?_; (repeat (first | refine Z9v rfl ?_ | refine Z9w ?_)); refine Z9u ?_) | refine awp_seq ?_ | refine Zbm (fun _ _ => rfl) ?_ | refine Z8h ?_ | refine Zbn (fun _ _ => rfl) ?_ | refine Zbo (fun _ _ => rfl) ?_ | refine Z8f (t := true) rfl (fun _ => ?_) (fun e => by cases e) | refine Z8f (t := false) rfl (fun e => by cases e) (fun _ => ?_)))
          exact fin0 _ _ (by rw [stepG, if_neg (by omega)]) rfl (fun _ _ => rfl)
end Go.Abs
namespace Go.Abs
open Go Go.Proofs
set_option linter.unusedVariables false
set_option linter.unusedSimpArgs false
set_option maxHeartbeats 4000000
attribute [local irreducible] AWp aops KP
def Z17z (k op : Int) (v lo hi : Vl) : Bool :=
  if op = 1 then decide ((cmpV k v lo).1 < 0 ∨ (cmpV k v hi).1 > 0) else if op = 2 then decide ((cmpV k v lo).1 = 0 ∧ (cmpV k v hi).1 = 0)
  else if op = 3 then decide ((cmpV k v lo).1 ≤ 0) else if op = 4 then decide ((cmpV k v lo).1 < 0) else if op = 5 then decide ((cmpV k v hi).1 ≥ 0) else decide ((cmpV k v hi).1 > 0)
theorem Z180 (t : Ty) (op : Int) (v lo hi : Vl) (σ : Zc) : Z1q Try.prog Zfg [encT t, .int .i64 op, encV v, encV lo, encV hi] σ fun r σ' => r = .bool (Z17z t.kind op v lo hi) ∧ σ' = σ := by
  have hone : ∀ c ∈ Zlo t, c.one = true := by
    obtain ⟨k, ns, ks, l, p, s⟩ := t
    intro c hc
    simp only [Zlo, List.mem_cons, List.not_mem_nil, or_false] at hc
    rcases hc with rfl | rfl | rfl | rfl | rfl | rfl <;> rfl
  have hk : (Zlo t)[0]? = some (.int .i64 t.kind) := by obtain ⟨k, ns, ks, l, p, s⟩ := t; rfl
  have h1 := fun τ => Zu9 (Zlo t) t.kind (by obtain ⟨k, ns, ks, l, p, s⟩ := t; rfl) hk hone v lo τ
  have h2 := fun τ => Zu9 (Zlo t) t.kind (by obtain ⟨k, ns, ks, l, p, s⟩ := t; rfl) hk hone v hi τ
  have hn : Z17z t.kind op v lo hi = (if op = 1 then decide ((cmpV t.kind v lo).1 < 0 ∨ (cmpV t.kind v hi).1 > 0) else if op = 2 then decide ((cmpV t.kind v lo).1 = 0 ∧ (cmpV t.kind v hi).1 = 0)
    else if op = 3 then decide ((cmpV t.kind v lo).1 ≤ 0) else if op = 4 then decide ((cmpV t.kind v lo).1 < 0) else if op = 5 then decide ((cmpV t.kind v hi).1 ≥ 0) else decide ((cmpV t.kind v hi).1 > 0)) := rfl
  rw [hn]
  clear hn
  generalize cmpV t.kind v lo = x at *
  generalize cmpV t.kind v hi = y at *
  obtain ⟨a, xa⟩ := x
  obtain ⟨b, yb⟩ := y
  simp only at *
  rw [Zlp]
  simp only [Zm7] at *
  refine Z8t rfl Z17o (Nat.le_of_ble_eq_true rfl) ?_
  refine Z9z ?_
  have h6 : (Z0.agg (Zlo t)).elem 6 := by obtain ⟨k, ns, ks, l, p, s⟩ := t; exact Z0.fit_iff.1 rfl
  refine Z9j rfl h6 fun b1 hb1 => ?_
  (repeat (refine st_q rfl rfl rfl ?_))
  refine Z9j rfl (Z0.fit_iff.1 rfl) fun b2 hb2 => ?_
  refine Z9j rfl (Z0.fit_iff.1 rfl) fun b3 hb3 => ?_
  refine Z9j rfl (Z0.fit_iff.1 rfl) fun b4 hb4 => ?_
  (repeat (refine st_q rfl rfl rfl ?_))
  (refine Z8y ?_; (repeat (first | refine Z9v rfl ?_ | refine Z9w ?_)); refine Z9u ?_)
  refine Zb3 (d := 9) (cs := Zm6 hi) rfl ?_
  (refine Z9y (keep := [1, 5, 7, 8, 9]) ?_; ((repeat (first | refine Z9v rfl ?_ | refine Z9w ?_)); refine Z9u ?_))
  refine Zb3 (d := 8) (cs := Zm6 lo) rfl ?_
  (refine Z9y (keep := [1, 5, 7, 8, 9]) ?_; ((repeat (first | refine Z9v rfl ?_ | refine Z9w ?_)); refine Z9u ?_))
  refine Zb3 (d := 7) (cs := Zm6 v) rfl ?_
  (refine Z9y (keep := [1, 5, 7, 8, 9]) ?_; ((repeat (first | refine Z9v rfl ?_ | refine Z9w ?_)); refine Z9u ?_))
  refine Zb3 (d := 5) (cs := Zlo t) rfl ?_
  (refine Z9y (keep := [1, 5, 7, 8, 9]) ?_; ((repeat (first | refine Z9v rfl ?_ | refine Z9w ?_)); refine Z9u ?_))
  obtain ⟨k, ns, ks, l, p, s⟩ := t
  simp only [Ty.kind] at *
  (repeat (first | refine st_q rfl rfl rfl ?_ | refine Z8v rfl (st_q rfl rfl rfl ?_) | refine Z8w rfl ?_ | refine Z8x rfl ?_ | (refine Z8y ?_; (repeat (first | refine Z9v rfl ?_ | refine Z9w ?_)); refine Z9u ?_) | refine awp_seq ?_ | refine Zbm (fun _ _ => rfl) ?_ | refine Z8h ?_ | refine Zbn (fun _ _ => rfl) ?_ | refine Zbo (fun _ _ => rfl) ?_ | refine Z8f (t := true) rfl (fun _ => ?_) (fun e => by cases e) | refine Z8f (t := false) rfl (fun e => by cases e) (fun _ => ?_)))
  refine Z9t rfl (h1 _) ?_
  (repeat (first | refine st_q rfl rfl rfl ?_ | refine Z8v rfl (st_q rfl rfl rfl ?_) | refine Z8w rfl ?_ | refine Z8x rfl ?_ | (refine Z8y ?_; (repeat (first | refine Z9v rfl ?_ | refine Z9w ?_)); refine Z9u ?_) | refine awp_seq ?_ | refine Zbm (fun _ _ => rfl) ?_ | refine Z8h ?_ | refine Zbn (fun _ _ => rfl) ?_ | refine Zbo (fun _ _ => rfl) ?_ | refine Z8f (t := true) rfl (fun _ => ?_) (fun e => by cases e) | refine Z8f (t := false) rfl (fun e => by cases e) (fun _ => ?_)))
  refine Z9t rfl (h2 _) ?_
  (repeat (first | refine st_q rfl rfl rfl ?_ | refine Z8v rfl (st_q rfl rfl rfl ?_) | refine Z8w rfl ?_ | refine Z8x rfl ?_ | (refine Z8y ?_; (repeat (first | refine Z9v rfl ?_ | refine Z9w ?_)); refine Z9u ?_) | refine awp_seq ?_ | refine Zbm (fun _ _ => rfl) ?_ | refine Z8h ?_ | refine Zbn (fun _ _ => rfl) ?_ | refine Zbo (fun _ _ => rfl) ?_ | refine Z8f (t := true) rfl (fun _ => ?_) (fun e => by cases e) | refine Z8f (t := false) rfl (fun e => by cases e) (fun _ => ?_)))
  by_cases q1 : op = 1
  · subst q1
    by_cases g : a < 0
    · (repeat (first | refine st_q rfl rfl rfl ?_ | refine Z8v rfl (st_q rfl rfl rfl ?_) | refine Z8w rfl ?_ | refine Z8x rfl ?_ | (refine Z8y ?_; (repeat (first | refine Z9v rfl ?_ | refine Z9w ?_)); refine Z9u ?_) | refine awp_seq ?_ | refine Zbm (fun _ _ => rfl) ?_ | refine Z8h ?_ | refine Zbn (fun _ _ => rfl) ?_ | refine Zbo (fun _ _ => rfl) ?_ | refine Z8f (t := true) rfl (fun _ => ?_) (fun e => by cases e) | refine Z8f (t := false) rfl (fun e => by cases e) (fun _ => ?_)))
      (rw [show decide (a < 0) = true from decide_eq_true (by omega)])
      (repeat (first | refine st_q rfl rfl rfl ?_ | refine Z8v rfl (st_q rfl rfl rfl ?_) | refine Z8w rfl ?_ | refine Z8x rfl ?_ | (refine Z8y ?_; (repeat (first | refine Z9v rfl ?_ | refine Z9w ?_)); refine Z9u ?_) | refine awp_seq ?_ | refine Zbm (fun _ _ => rfl) ?_ | refine Z8h ?_ | refine Zbn (fun _ _ => rfl) ?_ | refine Zbo (fun _ _ => rfl) ?_ | refine Z8f (t := true) rfl (fun _ => ?_) (fun e => by cases e) | refine Z8f (t := false) rfl (fun e => by cases e) (fun _ => ?_)))
      refine Z8d ?_
      refine ares rfl (HSub.refl _) ⟨?_, rfl⟩
      change _ = Z0.bool (decide (a < 0 ∨ b > 0))
      rw [show decide (a < 0 ∨ b > 0) = true from decide_eq_true (.inl g)]
      rfl
    · (repeat (first | refine st_q rfl rfl rfl ?_ | refine Z8v rfl (st_q rfl rfl rfl ?_) | refine Z8w rfl ?_ | refine Z8x rfl ?_ | (refine Z8y ?_; (repeat (first | refine Z9v rfl ?_ | refine Z9w ?_)); refine Z9u ?_) | refine awp_seq ?_ | refine Zbm (fun _ _ => rfl) ?_ | refine Z8h ?_ | refine Zbn (fun _ _ => rfl) ?_ | refine Zbo (fun _ _ => rfl) ?_ | refine Z8f (t := true) rfl (fun _ => ?_) (fun e => by cases e) | refine Z8f (t := false) rfl (fun e => by cases e) (fun _ => ?_)))
      (rw [show decide (a < 0) = false from decide_eq_false (by omega)])
      (repeat (first | refine st_q rfl rfl rfl ?_ | refine Z8v rfl (st_q rfl rfl rfl ?_) | refine Z8w rfl ?_ | refine Z8x rfl ?_ | (refine Z8y ?_; (repeat (first | refine Z9v rfl ?_ | refine Z9w ?_)); refine Z9u ?_) | refine awp_seq ?_ | refine Zbm (fun _ _ => rfl) ?_ | refine Z8h ?_ | refine Zbn (fun _ _ => rfl) ?_ | refine Zbo (fun _ _ => rfl) ?_ | refine Z8f (t := true) rfl (fun _ => ?_) (fun e => by cases e) | refine Z8f (t := false) rfl (fun e => by cases e) (fun _ => ?_)))
      refine Z8d ?_
      refine ares rfl (HSub.refl _) ⟨?_, rfl⟩
      change _ = Z0.bool (decide (a < 0 ∨ b > 0))
      rw [show decide (a < 0 ∨ b > 0) = decide (b > 0) by simp [g]]
      rfl
  by_cases q2 : op = 2
  · subst q2
    by_cases g : a = 0
    · (repeat (first | refine st_q rfl rfl rfl ?_ | refine Z8v rfl (st_q rfl rfl rfl ?_) | refine Z8w rfl ?_ | refine Z8x rfl ?_ | (refine Z8y ?_; (repeat (first | refine Z9v rfl ?_ | refine Z9w ?_)); refine Z9u ?_) | refine awp_seq ?_ | refine Zbm (fun _ _ => rfl) ?_ | refine Z8h ?_ | refine Zbn (fun _ _ => rfl) ?_ | refine Zbo (fun _ _ => rfl) ?_ | refine Z8f (t := true) rfl (fun _ => ?_) (fun e => by cases e) | refine Z8f (t := false) rfl (fun e => by cases e) (fun _ => ?_)))
      (rw [show decide (a = 0) = true from decide_eq_true (by omega)])
      (repeat (first | refine st_q rfl rfl rfl ?_ | refine Z8v rfl (st_q rfl rfl rfl ?_) | refine Z8w rfl ?_ | refine Z8x rfl ?_ | (refine Z8y ?_; (repeat (first | refine Z9v rfl ?_ | refine Z9w ?_)); refine Z9u ?_) | refine awp_seq ?_ | refine Zbm (fun _ _ => rfl) ?_ | refine Z8h ?_ | refine Zbn (fun _ _ => rfl) ?_ | refine Zbo (fun _ _ => rfl) ?_ | refine Z8f (t := true) rfl (fun _ => ?_) (fun e => by cases e) | refine Z8f (t := false) rfl (fun e => by cases e) (fun _ => ?_)))
      refine Z8d ?_
      refine ares rfl (HSub.refl _) ⟨?_, rfl⟩
      change _ = Z0.bool (decide (a = 0 ∧ b = 0))
      rw [show decide (a = 0 ∧ b = 0) = decide (b = 0) by simp [g]]
      rfl
    · (repeat (first | refine st_q rfl rfl rfl ?_ | refine Z8v rfl (st_q rfl rfl rfl ?_) | refine Z8w rfl ?_ | refine Z8x rfl ?_ | (refine Z8y ?_; (repeat (first | refine Z9v rfl ?_ | refine Z9w ?_)); refine Z9u ?_) | refine awp_seq ?_ | refine Zbm (fun _ _ => rfl) ?_ | refine Z8h ?_ | refine Zbn (fun _ _ => rfl) ?_ | refine Zbo (fun _ _ => rfl) ?_ | refine Z8f (t := true) rfl (fun _ => ?_) (fun e => by cases e) | refine Z8f (t := false) rfl (fun e => by cases e) (fun _ => ?_)))
      (rw [show decide (a = 0) = false from decide_eq_false (by omega)])
      (repeat (first | refine st_q rfl rfl rfl ?_ | refine Z8v rfl (st_q rfl rfl rfl ?_) | refine Z8w rfl ?_ | refine Z8x rfl ?_ | (refine Z8y ?_; (repeat (first | refine Z9v rfl ?_ | refine Z9w ?_)); refine Z9u ?_) | refine awp_seq ?_ | refine Zbm (fun _ _ => rfl) ?_ | refine Z8h ?_ | refine Zbn (fun _ _ => rfl) ?_ | refine Zbo (fun _ _ => rfl) ?_ | refine Z8f (t := true) rfl (fun _ => ?_) (fun e => by cases e) | refine Z8f (t := false) rfl (fun e => by cases e) (fun _ => ?_)))
      refine Z8d ?_
      refine ares rfl (HSub.refl _) ⟨?_, rfl⟩
      change _ = Z0.bool (decide (a = 0 ∧ b = 0))
      rw [show decide (a = 0 ∧ b = 0) = false by simp [g]]
      rfl
  by_cases q3 : op = 3
  · subst q3; (repeat (first | refine st_q rfl rfl rfl ?_ | refine Z8v rfl (st_q rfl rfl rfl ?_) | refine Z8w rfl ?_ | refine Z8x rfl ?_ | (refine Z8y ?_; (repeat (first | refine Z9v rfl ?_ | refine Z9w ?_)); refine Z9u ?_) | refine awp_seq ?_ | refine Zbm (fun _ _ => rfl) ?_ | refine Z8h ?_ | refine Zbn (fun _ _ => rfl) ?_ | refine Zbo (fun _ _ => rfl) ?_ | refine Z8f (t := true) rfl (fun _ => ?_) (fun e => by cases e) | refine Z8f (t := false) rfl (fun e => by cases e) (fun _ => ?_))); refine Z8d ?_; exact ares rfl (HSub.refl _) ⟨rfl, rfl⟩
  by_cases q4 : op = 4
  · subst q4; (repeat (first | refine st_q rfl rfl rfl ?_ | refine Z8v rfl (st_q rfl rfl rfl ?_) | refine Z8w rfl ?_ | refine Z8x rfl ?_ | (refine Z8y ?_; (repeat (first | refine Z9v rfl ?_ | refine Z9w ?_)); refine Z9u ?_) | refine awp_seq ?_ | refine Zbm (fun _ _ => rfl) ?_ | refine Z8h ?_ | refine Zbn (fun _ _ => rfl) ?_ | refine Zbo (fun _ _ => rfl) ?_ | refine Z8f (t := true) rfl (fun _ => ?_) (fun e => by cases e) | refine Z8f (t := false) rfl (fun e => by cases e) (fun _ => ?_))); refine Z8d ?_; exact ares rfl (HSub.refl _) ⟨rfl, rfl⟩
  by_cases q5 : op = 5
  · subst q5; (repeat (first | refine st_q rfl rfl rfl ?_ | refine Z8v rfl (st_q rfl rfl rfl ?_) | refine Z8w rfl ?_ | refine Z8x rfl ?_ | (refine Z8y ?_; (repeat (first | refine Z9v rfl ?_ | refine Z9w ?_)); refine Z9u ?_) | refine awp_seq ?_ | refine Zbm (fun _ _ => rfl) ?_ | refine Z8h ?_ | refine Zbn (fun _ _ => rfl) ?_ | refine Zbo (fun _ _ => rfl) ?_ | refine Z8f (t := true) rfl (fun _ => ?_) (fun e => by cases e) | refine Z8f (t := false) rfl (fun e => by cases e) (fun _ => ?_))); refine Z8d ?_; exact ares rfl (HSub.refl _) ⟨rfl, rfl⟩
  (repeat (first | refine st_q rfl rfl rfl ?_ | refine Z8v rfl (st_q rfl rfl rfl ?_) | refine Z8w rfl ?_ | refine Z8x rfl ?_ | (refine Z8y ?_; (repeat (first | refine Z9v rfl ?_ | refine Z9w ?_)); refine Z9u ?_) | refine awp_seq ?_ | refine Zbm (fun _ _ => rfl) ?_ | refine Z8h ?_ | refine Zbn (fun _ _ => rfl) ?_ | refine Zbo (fun _ _ => rfl) ?_ | refine Z8f (t := true) rfl (fun _ => ?_) (fun e => by cases e) | refine Z8f (t := false) rfl (fun e => by cases e) (fun _ => ?_)))
  rw [decide_eq_false q1]
  (repeat (first | refine st_q rfl rfl rfl ?_ | refine Z8v rfl (st_q rfl rfl rfl ?_) | refine Z8w rfl ?_ | refine Z8x rfl ?_ | (refine Z8y ?_; (repeat (first | refine Z9v rfl ?_ | refine Z9w ?_)); refine Z9u ?_) | refine awp_seq ?_ | refine Zbm (fun _ _ => rfl) ?_ | refine Z8h ?_ | refine Zbn (fun _ _ => rfl) ?_ | refine Zbo (fun _ _ => rfl) ?_ | refine Z8f (t := true) rfl (fun _ => ?_) (fun e => by cases e) | refine Z8f (t := false) rfl (fun e => by cases e) (fun _ => ?_)))
  rw [decide_eq_false q2]
  (repeat (first | refine st_q rfl rfl rfl ?_ | refine Z8v rfl (st_q rfl rfl rfl ?_) | refine Z8w rfl ?_ | refine Z8x rfl ?_ | (refine Z8y ?_; (repeat (first | refine Z9v rfl ?_ | refine Z9w ?_)); refine Z9u ?_) | refine awp_seq ?_ | refine Zbm (fun _ _ => rfl) ?_ | refine Z8h ?_ | refine Zbn (fun _ _ => rfl) ?_ | refine Zbo (fun _ _ => rfl) ?_ | refine Z8f (t := true) rfl (fun _ => ?_) (fun e => by cases e) | refine Z8f (t := false) rfl (fun e => by cases e) (fun _ => ?_)))
  rw [decide_eq_false q3]
  (repeat (first | refine st_q rfl rfl rfl ?_ | refine Z8v rfl (st_q rfl rfl rfl ?_) | refine Z8w rfl ?_ | refine Z8x rfl ?_ | (refine Z8y ?_; (repeat (first | refine Z9v rfl ?_ | refine Z9w ?_)); refine Z9u ?_) | refine awp_seq ?_ | refine Zbm (fun _ _ => rfl) ?_ | refine Z8h ?_ | refine Zbn (fun _ _ => rfl) ?_ | refine Zbo (fun _ _ => rfl) ?_ | refine Z8f (t := true) rfl (fun _ => ?_) (fun e => by cases e) | refine Z8f (t := false) rfl (fun e => by cases e) (fun _ => ?_)))
  rw [decide_eq_false q4]
  (repeat (first | refine st_q rfl rfl rfl ?_ | refine Z8v rfl (st_q rfl rfl rfl ?_) | refine Z8w rfl ?_ | refine Z8x rfl ?_ | (refine Z8y ?_; (repeat (first | refine Z9v rfl ?_ | refine Z9w ?_)); refine Z9u ?_) | refine awp_seq ?_ | refine Zbm (fun _ _ => rfl) ?_ | refine Z8h ?_ | refine Zbn (fun _ _ => rfl) ?_ | refine Zbo (fun _ _ => rfl) ?_ | refine Z8f (t := true) rfl (fun _ => ?_) (fun e => by cases e) | refine Z8f (t := false) rfl (fun e => by cases e) (fun _ => ?_)))
  rw [decide_eq_false q5]
  (repeat (first | refine st_q rfl rfl rfl ?_ | refine Z8v rfl (st_q rfl rfl rfl ?_) | refine Z8w rfl ?_ | refine Z8x rfl ?_ | (refine Z8y ?_; (repeat (first | refine Z9v rfl ?_ | refine Z9w ?_)); refine Z9u ?_) | refine awp_seq ?_ | refine Zbm (fun _ _ => rfl) ?_ | refine Z8h ?_ | refine Zbn (fun _ _ => rfl) ?_ | refine Zbo (fun _ _ => rfl) ?_ | refine Z8f (t := true) rfl (fun _ => ?_) (fun e => by cases e) | refine Z8f (t := false) rfl (fun e => by cases e) (fun _ => ?_)))
  refine Z8d ?_
  exact ares rfl (HSub.refl _) ⟨by rw [if_neg q1, if_neg q2, if_neg q3, if_neg q4, if_neg q5]; rfl, rfl⟩
def GetF (l : List Nd) (col : Int) (row : Vl) : Vl × Bool := if goodF l col = true then (getF l (col.toNat + 1) col row, true) else (vl0, false)
theorem Z181 {l : List Nd} {col : Int} (h : goodF l col = true) : 0 ≤ col ∧ col < l.length := by
  apply Classical.byContradiction
  intro hn
  rw [goodF, if_pos (by omega)] at h
  cases h
theorem Z182 : nullV.Cl := .mk (by simp [nullV, Vl.b]) (by simp [nullV, Vl.kids]) (by simp [nullV, Vl.kids])
theorem Z183 {v : Vl} (h : v.Cl) (i : Int) : (stepG v i).Cl := by
  unfold stepG
  split
  · rename_i hc
    cases h with
    | mk _ _ hk =>
      obtain ⟨k, hk1⟩ : ∃ k, v.kids[i.toNat]? = some k := ⟨_, List.getElem?_eq_getElem (by omega)⟩
      rw [List.getD_eq_getElem?_getD, hk1]
      exact hk k (List.mem_of_getElem? hk1)
  · exact Z182
theorem Z184 (l : List Nd) (row : Vl) (hr : row.Cl) : ∀ (f : Nat) (col : Int), (getF l f col row).Cl
  | 0, _ => hr
  | f + 1, col => by
    rw [getF]
    cases l[col.toNat]? with
    | none => exact hr
    | some n =>
      simp only
      split
      · exact hr
      · cases l[n.parent.toNat]? with
        | none => exact hr
        | some q => exact Z183 (Z184 l row hr f n.parent) _
theorem c_Get (l : List Nd) (hw : WfN l) (fl : Bool) (col : Int) (row : Vl) (hr : row.Cl) (σ : Zc) : Z1q Try.prog Zdg [.slc 8 (l.map encN) fl, .int .i64 col, encV row] σ fun r σ' => r = .tup [encV (GetF l col row).1, .bool (GetF l col row).2] ∧ σ' = σ := by
  have hrow := Zm7 row
  have hg := fun τ => Z17w l hw fl col τ
  refine Z8t rfl Z17g (Nat.le_of_ble_eq_true rfl) ?_
  rw [hrow]
  refine Z9z ?_
  refine Z9j rfl (Z0.fit_iff.1 rfl) fun b hb => ?_
  refine Z9k (by simp [Z0.cells, Z0.one]) fun b2 hb2 => ?_
  (repeat (refine st_q rfl rfl rfl ?_))
  (refine Z8y ?_; (repeat (first | refine Z9v rfl ?_ | refine Z9w ?_)); refine Z9u ?_)
  refine Z8a (FSub.refl _) (τ := (b, .cells 5 [.agg (Zm6 row)]) :: (b2, .cells 5 [.agg [.bool false, .int .i64 0, .int .i64 0, .slc 0 [] true, .slc 0 [] true]]) :: σ) (HSub.of_perm (List.Perm.swap _ _ _)) ?_
  refine Zb3 (d := 5) (cs := Zm6 row) rfl ?_
  (repeat (first | refine st_q rfl rfl rfl ?_ | refine Z8v rfl (st_q rfl rfl rfl ?_) | refine Z8w rfl ?_ | refine Z8x rfl ?_ | (refine Z8y ?_; (repeat (first | refine Z9v rfl ?_ | refine Z9w ?_)); refine Z9u ?_) | refine awp_seq ?_ | refine Zbm (fun _ _ => rfl) ?_ | refine Z8h ?_ | refine Zbn (fun _ _ => rfl) ?_ | refine Zbo (fun _ _ => rfl) ?_ | refine Z8f (t := true) rfl (fun _ => ?_) (fun e => by cases e) | refine Z8f (t := false) rfl (fun e => by cases e) (fun _ => ?_)))
  refine Z9t rfl (hg _) ?_
  cases hgd : goodF l col with
  | false =>
    have e : GetF l col row = (vl0, false) := by rw [GetF, hgd]; rfl
    rw [e]
    (repeat (first | refine st_q rfl rfl rfl ?_ | refine Z8v rfl (st_q rfl rfl rfl ?_) | refine Z8w rfl ?_ | refine Z8x rfl ?_ | (refine Z8y ?_; (repeat (first | refine Z9v rfl ?_ | refine Z9w ?_)); refine Z9u ?_) | refine awp_seq ?_ | refine Zbm (fun _ _ => rfl) ?_ | refine Z8h ?_ | refine Zbn (fun _ _ => rfl) ?_ | refine Zbo (fun _ _ => rfl) ?_ | refine Z8f (t := true) rfl (fun _ => ?_) (fun e => by cases e) | refine Z8f (t := false) rfl (fun e => by cases e) (fun _ => ?_)))
    refine Z9a rfl Z8z rfl (by decide) (Z0.fit_iff.1 rfl) (fun h => by cases h) Z9b ?_
    (repeat (refine st_q rfl rfl rfl ?_))
    (refine Z8y ?_; (repeat (first | refine Z9v rfl ?_ | refine Z9w ?_)); refine Z9u ?_)
    refine Zb3 (d := 6) (cs := [.bool false, .int .i64 0, .int .i64 0, .slc 0 [] true, .slc 0 [] true]) rfl ?_
    refine Z8d ?_
    have hv : VRle [.agg [.bool false, .int .i64 0, .int .i64 0, .slc 0 [] true, .slc 0 [] true]] [encV vl0] := by
      rw [vl0, encV]
      (repeat (first | exact VRle.refl _ | exact Zc5 | refine Zc6 rfl rfl ?_ | refine Zc7 rfl ?_ | refine Zc4 ?_ ?_))
    exact Zau rfl (VRle.tup (VRle.cons hv (VRle.refl _))) (HSub.refl _) ⟨rfl, rfl⟩
  | true =>
    obtain ⟨h0, h1⟩ := Z181 hgd
    have e : GetF l col row = (getF l (col.toNat + 1) col row, true) := by rw [GetF, hgd]; rfl
    rw [e]
    have hc := fun τ => c_get l hw fl row (col.toNat + 1) col h0 h1 (by omega) τ
    have hcl := fun τ => Zug _ (Z184 l row hr (col.toNat + 1) col) τ
    generalize getF l (col.toNat + 1) col row = v at hc hcl ⊢
    have hve := Zm7 v
    rw [hrow] at hc
    simp only
    (repeat (first | refine st_q rfl rfl rfl ?_ | refine Z8v rfl (st_q rfl rfl rfl ?_) | refine Z8w rfl ?_ | refine Z8x rfl ?_ | (refine Z8y ?_; (repeat (first | refine Z9v rfl ?_ | refine Z9w ?_)); refine Z9u ?_) | refine awp_seq ?_ | refine Zbm (fun _ _ => rfl) ?_ | refine Z8h ?_ | refine Zbn (fun _ _ => rfl) ?_ | refine Zbo (fun _ _ => rfl) ?_ | refine Z8f (t := true) rfl (fun _ => ?_) (fun e => by cases e) | refine Z8f (t := false) rfl (fun e => by cases e) (fun _ => ?_)))
    refine Z9t rfl (hc _) ?_
    refine Z9t rfl (hcl _) ?_
    rw [hve]
    refine Z9a rfl Z8z rfl (by decide) (Z0.fit_iff.1 rfl) (fun h => by cases h) Z9b ?_
    (repeat (refine st_q rfl rfl rfl ?_))
    (refine Z8y ?_; (repeat (first | refine Z9v rfl ?_ | refine Z9w ?_)); refine Z9u ?_)
    refine Zb3 (d := 6) (cs := Zm6 v) rfl ?_
    refine Z8d ?_
    exact ares rfl (HSub.refl _) ⟨rfl, rfl⟩
def mayF (l : List Nd) (t : Tm) (ss : List Stt) : Bool :=
  match l[t.col.toNat]?, ss[t.col.toNat]?, ss[0]? with
  | some n, some x, some z =>
    if t.op = 7 then x.null || decide (x.count ≠ z.count) else if x.count = 0 then false else if t.op = 8 then true
    else if x.has = true then !Z17z n.t.kind t.op t.v x.min x.max
    else if n.t.kind = 0 ∧ x.sums = true then !Z17z n.t.kind t.op t.v (.mk false (if x.sum = x.count then 1 else 0) 0 [] []) (.mk false (if x.sum = 0 then 0 else 1) 0 [] [])
    else true
  | _, _, _ => true
end Go.Abs
namespace Go.Abs
open Go Go.Proofs
set_option linter.unusedVariables false
set_option linter.unusedSimpArgs false
set_option maxHeartbeats 4000000
attribute [local irreducible] AWp aops KP
theorem Z185 {ss : List Stt} {i : Int} {x : Stt} (h : ss[i.toNat]? = some x) : (ss.map encS)[i.toNat]? = some (encS x) := by rw [List.getElem?_map, h]; rfl
theorem Z186 (l : List Nd) (f g : Bool) (t : Tm) (ss : List Stt) (n : Nd) (x z : Stt) (h0 : 0 ≤ t.col) (hn : l[t.col.toNat]? = some n) (hx : ss[t.col.toNat]? = some x) (hz : ss[0]? = some z) (hh : x.has = true) (σ : Zc) :
    Z1q Try.prog Zei [.slc 8 (l.map encN) f, encM t, .slc 15 (ss.map encS) g] σ fun r σ' => r = .bool (mayF l t ss) ∧ σ' = σ := by
  have he : mayF l t ss = (if t.op = 7 then x.null || decide (x.count ≠ z.count) else if x.count = 0 then false else if t.op = 8 then true else !Z17z n.t.kind t.op t.v x.min x.max) := by
    rw [mayF, hn, hx, hz]
    simp only [hh, if_true]
  rw [he]
  clear he
  have hxg := Z185 hx
  have hzg : (ss.map encS)[(0 : Int).toNat]? = some (encS z) := Z185 (i := 0) hz
  have hng := Z17u hn
  obtain ⟨tc, op, tv⟩ := t
  obtain ⟨xc, xn, xh, mn, mx, xs, xsum⟩ := x
  simp only at *
  subst hh
  have hnev := fun τ => Z180 (tyN n) op tv mn mx τ
  have hkn : (tyN n).kind = n.t.kind := rfl
  rw [hkn] at hnev
  simp only [Zm7] at hnev
  generalize Z17z n.t.kind op tv mn mx = nv at hnev ⊢
  refine Z8t rfl Z17j (Nat.le_of_ble_eq_true rfl) ?_
  refine Z9z ?_
  refine Z9j rfl (Z0.fit_iff.1 rfl) fun b1 hb1 => ?_
  (repeat (refine st_q rfl rfl rfl ?_))
  (refine Z8y ?_; (repeat (first | refine Z9v rfl ?_ | refine Z9w ?_)); refine Z9u ?_)
  refine Zb3 (d := 4) (cs := [.int .i64 tc, .int .i64 op, .bool tv.null, .int .i64 tv.i, .int .i64 tv.n, .slc 1 (bytes tv.b) false, .slc 5 (Zm5 tv.kids) false]) rfl ?_
  (refine Z9y (keep := [0, 2, 4]) ?_; ((repeat (first | refine Z9v rfl ?_ | refine Z9w ?_)); refine Z9u ?_))
  (repeat (first | refine st_q rfl rfl rfl ?_ | refine Z8v rfl (st_q rfl rfl rfl ?_) | refine Z8w rfl ?_ | refine Z8x rfl ?_ | (refine Z8y ?_; (repeat (first | refine Z9v rfl ?_ | refine Z9w ?_)); refine Z9u ?_) | refine awp_seq ?_ | refine Zbm (fun _ _ => rfl) ?_ | refine Z8h ?_ | refine Zbn (fun _ _ => rfl) ?_ | refine Zbo (fun _ _ => rfl) ?_ | refine Z8f (t := true) rfl (fun _ => ?_) (fun e => by cases e) | refine Z8f (t := false) rfl (fun e => by cases e) (fun _ => ?_)))
  refine Z93 rfl h0 hxg ?_
  rw [encS, Zxp]
  (repeat (first | refine st_q rfl rfl rfl ?_ | refine Z8v rfl (st_q rfl rfl rfl ?_) | refine Z8w rfl ?_ | refine Z8x rfl ?_ | (refine Z8y ?_; (repeat (first | refine Z9v rfl ?_ | refine Z9w ?_)); refine Z9u ?_) | refine awp_seq ?_ | refine Zbm (fun _ _ => rfl) ?_ | refine Z8h ?_ | refine Zbn (fun _ _ => rfl) ?_ | refine Zbo (fun _ _ => rfl) ?_ | refine Z8f (t := true) rfl (fun _ => ?_) (fun e => by cases e) | refine Z8f (t := false) rfl (fun e => by cases e) (fun _ => ?_)))
  refine Z93 rfl h0 hng ?_
  rw [encN, Zm2]
  (repeat (first | refine st_q rfl rfl rfl ?_ | refine Z8v rfl (st_q rfl rfl rfl ?_) | refine Z8w rfl ?_ | refine Z8x rfl ?_ | (refine Z8y ?_; (repeat (first | refine Z9v rfl ?_ | refine Z9w ?_)); refine Z9u ?_) | refine awp_seq ?_ | refine Zbm (fun _ _ => rfl) ?_ | refine Z8h ?_ | refine Zbn (fun _ _ => rfl) ?_ | refine Zbo (fun _ _ => rfl) ?_ | refine Z8f (t := true) rfl (fun _ => ?_) (fun e => by cases e) | refine Z8f (t := false) rfl (fun e => by cases e) (fun _ => ?_)))
  refine Z9k (by simp [Z0.cells, Z0.one]) fun b7 hb7 => ?_
  refine Z9k (by simp [Z0.cells, Z0.one]) fun b8 hb8 => ?_
  have hne : b8 ≠ b7 := fun e => hb8 (by rw [e]; simp [Zh])
  refine Z9a rfl (Z90 hne Z8z) rfl (by decide) (Z0.fit_iff.1 rfl) (fun h => by cases h) (Z9c hne Z9b) ?_
  refine Z9a rfl Z8z rfl (by decide) (Z0.fit_iff.1 rfl) (fun h => by cases h) Z9b ?_
  (repeat (refine st_q rfl rfl rfl ?_))
  (refine Z8y ?_; (repeat (first | refine Z9v rfl ?_ | refine Z9w ?_)); refine Z9u ?_)
  refine Zb3 (d := 8) (cs := Zm2 n) rfl ?_
  (refine Z9y (keep := [2, 4, 7, 8]) ?_; ((repeat (first | refine Z9v rfl ?_ | refine Z9w ?_)); refine Z9u ?_))
  refine Zb3 (d := 7) (cs := Zxp ⟨xc, xn, true, mn, mx, xs, xsum⟩) rfl ?_
  (refine Z9y (keep := [2, 4, 7, 8]) ?_; ((repeat (first | refine Z9v rfl ?_ | refine Z9w ?_)); refine Z9u ?_))
  by_cases q7 : op = 7
  · subst q7
    (repeat (first | refine st_q rfl rfl rfl ?_ | refine Z8v rfl (st_q rfl rfl rfl ?_) | refine Z8w rfl ?_ | refine Z8x rfl ?_ | (refine Z8y ?_; (repeat (first | refine Z9v rfl ?_ | refine Z9w ?_)); refine Z9u ?_) | refine awp_seq ?_ | refine Zbm (fun _ _ => rfl) ?_ | refine Z8h ?_ | refine Zbn (fun _ _ => rfl) ?_ | refine Zbo (fun _ _ => rfl) ?_ | refine Z8f (t := true) rfl (fun _ => ?_) (fun e => by cases e) | refine Z8f (t := false) rfl (fun e => by cases e) (fun _ => ?_)))
    cases xn with
    | true =>
      (repeat (first | refine st_q rfl rfl rfl ?_ | refine Z8v rfl (st_q rfl rfl rfl ?_) | refine Z8w rfl ?_ | refine Z8x rfl ?_ | (refine Z8y ?_; (repeat (first | refine Z9v rfl ?_ | refine Z9w ?_)); refine Z9u ?_) | refine awp_seq ?_ | refine Zbm (fun _ _ => rfl) ?_ | refine Z8h ?_ | refine Zbn (fun _ _ => rfl) ?_ | refine Zbo (fun _ _ => rfl) ?_ | refine Z8f (t := true) rfl (fun _ => ?_) (fun e => by cases e) | refine Z8f (t := false) rfl (fun e => by cases e) (fun _ => ?_)))
      refine Z8d ?_
      exact ares rfl (HSub.refl _) ⟨rfl, rfl⟩
    | false =>
      (repeat (first | refine st_q rfl rfl rfl ?_ | refine Z8v rfl (st_q rfl rfl rfl ?_) | refine Z8w rfl ?_ | refine Z8x rfl ?_ | (refine Z8y ?_; (repeat (first | refine Z9v rfl ?_ | refine Z9w ?_)); refine Z9u ?_) | refine awp_seq ?_ | refine Zbm (fun _ _ => rfl) ?_ | refine Z8h ?_ | refine Zbn (fun _ _ => rfl) ?_ | refine Zbo (fun _ _ => rfl) ?_ | refine Z8f (t := true) rfl (fun _ => ?_) (fun e => by cases e) | refine Z8f (t := false) rfl (fun e => by cases e) (fun _ => ?_)))
      refine Z8v rfl (Z93 rfl (by decide) hzg ?_)
      rw [encS, Zxp]
      (repeat (first | refine st_q rfl rfl rfl ?_ | refine Z8v rfl (st_q rfl rfl rfl ?_) | refine Z8w rfl ?_ | refine Z8x rfl ?_ | (refine Z8y ?_; (repeat (first | refine Z9v rfl ?_ | refine Z9w ?_)); refine Z9u ?_) | refine awp_seq ?_ | refine Zbm (fun _ _ => rfl) ?_ | refine Z8h ?_ | refine Zbn (fun _ _ => rfl) ?_ | refine Zbo (fun _ _ => rfl) ?_ | refine Z8f (t := true) rfl (fun _ => ?_) (fun e => by cases e) | refine Z8f (t := false) rfl (fun e => by cases e) (fun _ => ?_)))
      refine Z8d ?_
      exact ares rfl (HSub.refl _) ⟨rfl, rfl⟩
  rw [if_neg q7]
  (repeat (first | refine st_q rfl rfl rfl ?_ | refine Z8v rfl (st_q rfl rfl rfl ?_) | refine Z8w rfl ?_ | refine Z8x rfl ?_ | (refine Z8y ?_; (repeat (first | refine Z9v rfl ?_ | refine Z9w ?_)); refine Z9u ?_) | refine awp_seq ?_ | refine Zbm (fun _ _ => rfl) ?_ | refine Z8h ?_ | refine Zbn (fun _ _ => rfl) ?_ | refine Zbo (fun _ _ => rfl) ?_ | refine Z8f (t := true) rfl (fun _ => ?_) (fun e => by cases e) | refine Z8f (t := false) rfl (fun e => by cases e) (fun _ => ?_)))
  (rw [show decide (op = 7) = false from decide_eq_false (by omega)])
  (repeat (first | refine st_q rfl rfl rfl ?_ | refine Z8v rfl (st_q rfl rfl rfl ?_) | refine Z8w rfl ?_ | refine Z8x rfl ?_ | (refine Z8y ?_; (repeat (first | refine Z9v rfl ?_ | refine Z9w ?_)); refine Z9u ?_) | refine awp_seq ?_ | refine Zbm (fun _ _ => rfl) ?_ | refine Z8h ?_ | refine Zbn (fun _ _ => rfl) ?_ | refine Zbo (fun _ _ => rfl) ?_ | refine Z8f (t := true) rfl (fun _ => ?_) (fun e => by cases e) | refine Z8f (t := false) rfl (fun e => by cases e) (fun _ => ?_)))
  by_cases qc : xc = 0
  · rw [if_pos qc]
    (rw [show decide (xc = 0) = true from decide_eq_true (by omega)])
    (repeat (first | refine st_q rfl rfl rfl ?_ | refine Z8v rfl (st_q rfl rfl rfl ?_) | refine Z8w rfl ?_ | refine Z8x rfl ?_ | (refine Z8y ?_; (repeat (first | refine Z9v rfl ?_ | refine Z9w ?_)); refine Z9u ?_) | refine awp_seq ?_ | refine Zbm (fun _ _ => rfl) ?_ | refine Z8h ?_ | refine Zbn (fun _ _ => rfl) ?_ | refine Zbo (fun _ _ => rfl) ?_ | refine Z8f (t := true) rfl (fun _ => ?_) (fun e => by cases e) | refine Z8f (t := false) rfl (fun e => by cases e) (fun _ => ?_)))
    refine Z8d ?_
    exact ares rfl (HSub.refl _) ⟨rfl, rfl⟩
  rw [if_neg qc]
  (rw [show decide (xc = 0) = false from decide_eq_false (by omega)])
  (repeat (first | refine st_q rfl rfl rfl ?_ | refine Z8v rfl (st_q rfl rfl rfl ?_) | refine Z8w rfl ?_ | refine Z8x rfl ?_ | (refine Z8y ?_; (repeat (first | refine Z9v rfl ?_ | refine Z9w ?_)); refine Z9u ?_) | refine awp_seq ?_ | refine Zbm (fun _ _ => rfl) ?_ | refine Z8h ?_ | refine Zbn (fun _ _ => rfl) ?_ | refine Zbo (fun _ _ => rfl) ?_ | refine Z8f (t := true) rfl (fun _ => ?_) (fun e => by cases e) | refine Z8f (t := false) rfl (fun e => by cases e) (fun _ => ?_)))
  by_cases q8 : op = 8
  · rw [if_pos q8]
    (rw [show decide (op = 8) = true from decide_eq_true (by omega)])
    (repeat (first | refine st_q rfl rfl rfl ?_ | refine Z8v rfl (st_q rfl rfl rfl ?_) | refine Z8w rfl ?_ | refine Z8x rfl ?_ | (refine Z8y ?_; (repeat (first | refine Z9v rfl ?_ | refine Z9w ?_)); refine Z9u ?_) | refine awp_seq ?_ | refine Zbm (fun _ _ => rfl) ?_ | refine Z8h ?_ | refine Zbn (fun _ _ => rfl) ?_ | refine Zbo (fun _ _ => rfl) ?_ | refine Z8f (t := true) rfl (fun _ => ?_) (fun e => by cases e) | refine Z8f (t := false) rfl (fun e => by cases e) (fun _ => ?_)))
    refine Z8d ?_
    exact ares rfl (HSub.refl _) ⟨rfl, rfl⟩
  rw [if_neg q8]
  (rw [show decide (op = 8) = false from decide_eq_false (by omega)])
  (repeat (first | refine st_q rfl rfl rfl ?_ | refine Z8v rfl (st_q rfl rfl rfl ?_) | refine Z8w rfl ?_ | refine Z8x rfl ?_ | (refine Z8y ?_; (repeat (first | refine Z9v rfl ?_ | refine Z9w ?_)); refine Z9u ?_) | refine awp_seq ?_ | refine Zbm (fun _ _ => rfl) ?_ | refine Z8h ?_ | refine Zbn (fun _ _ => rfl) ?_ | refine Zbo (fun _ _ => rfl) ?_ | refine Z8f (t := true) rfl (fun _ => ?_) (fun e => by cases e) | refine Z8f (t := false) rfl (fun e => by cases e) (fun _ => ?_)))
  refine Zbw rfl (fun τ => c_typ n τ) ?_
  (repeat (first | refine st_q rfl rfl rfl ?_ | refine Z8v rfl (st_q rfl rfl rfl ?_) | refine Z8w rfl ?_ | refine Z8x rfl ?_ | (refine Z8y ?_; (repeat (first | refine Z9v rfl ?_ | refine Z9w ?_)); refine Z9u ?_) | refine awp_seq ?_ | refine Zbm (fun _ _ => rfl) ?_ | refine Z8h ?_ | refine Zbn (fun _ _ => rfl) ?_ | refine Zbo (fun _ _ => rfl) ?_ | refine Z8f (t := true) rfl (fun _ => ?_) (fun e => by cases e) | refine Z8f (t := false) rfl (fun e => by cases e) (fun _ => ?_)))
  refine Z9t rfl (hnev _) ?_
  (repeat (first | refine st_q rfl rfl rfl ?_ | refine Z8v rfl (st_q rfl rfl rfl ?_) | refine Z8w rfl ?_ | refine Z8x rfl ?_ | (refine Z8y ?_; (repeat (first | refine Z9v rfl ?_ | refine Z9w ?_)); refine Z9u ?_) | refine awp_seq ?_ | refine Zbm (fun _ _ => rfl) ?_ | refine Z8h ?_ | refine Zbn (fun _ _ => rfl) ?_ | refine Zbo (fun _ _ => rfl) ?_ | refine Z8f (t := true) rfl (fun _ => ?_) (fun e => by cases e) | refine Z8f (t := false) rfl (fun e => by cases e) (fun _ => ?_)))
  refine Z8d ?_
  exact ares rfl (HSub.refl _) ⟨rfl, rfl⟩
def MayF (l : List Nd) (ss : List Stt) : List Tm → Bool
  | [] => true
  | t :: ts => if goodF l t.col = true ∧ t.col < ss.length ∧ mayF l t ss = false then false else MayF l ss ts
theorem Z187 {p : List Tm} {i : Int} {t : Tm} (h : p[i.toNat]? = some t) : (p.map encM)[i.toNat]? = some (encM t) := by rw [List.getElem?_map, h]; rfl
theorem Z188 (l : List Nd) (hw : WfN l) (f g e : Bool) (p : List Tm) (hp : p.length ≤ 1000000) (ss : List Stt) (hs : ∀ t ∈ p, goodF l t.col = true → ∀ x, ss[t.col.toNat]? = some x → x.has = true) (σ : Zc) :
    Z1q Try.prog Zdb [.slc 8 (l.map encN) f, .slc 7 (p.map encM) e, .slc 15 (ss.map encS) g] σ fun r σ' => r = .bool (MayF l ss p) ∧ σ' = σ := by
  have hpl : (p.map encM).length = p.length := List.length_map ..
  have hsl : (ss.map encS).length = ss.length := List.length_map ..
  refine Z8t rfl Z17e (Nat.le_of_ble_eq_true rfl) ?_
  (repeat (first | refine st_q rfl rfl rfl ?_ | refine Z8v rfl (st_q rfl rfl rfl ?_) | refine Z8w rfl ?_ | refine Z8x rfl ?_ | (refine Z8y ?_; (repeat (first | refine Z9v rfl ?_ | refine Z9w ?_)); refine Z9u ?_) | refine awp_seq ?_ | refine Zbm (fun _ _ => rfl) ?_ | refine Z8h ?_ | refine Zbn (fun _ _ => rfl) ?_ | refine Zbo (fun _ _ => rfl) ?_ | refine Z8f (t := true) rfl (fun _ => ?_) (fun e => by cases e) | refine Z8f (t := false) rfl (fun e => by cases e) (fun _ => ?_)))
  rw [hpl]
  refine Zaa (fun m F σ' => ∃ i : Nat, F = fset 0 (some (.slc 8 (l.map encN) f)) (fset 2 (some (.slc 15 (ss.map encS) g)) (fset 9 (some (.slc 7 (p.map encM) e)) (fset 10 (some (.int .i64 p.length)) (fset 11 (some (.int .i64 i)) Z27)))) ∧ σ = σ' ∧ i ≤ p.length ∧ m = p.length - i ∧ MayF l ss (p.drop i) = MayF l ss p) (n := p.length)
    ⟨0, rfl, rfl, by omega, by omega, by simp⟩ ?_
  rintro m F σ' ⟨i, rfl, rfl, hi, rfl, hM⟩
  (repeat (first | refine st_q rfl rfl rfl ?_ | refine Z8v rfl (st_q rfl rfl rfl ?_) | refine Z8w rfl ?_ | refine Z8x rfl ?_ | (refine Z8y ?_; (repeat (first | refine Z9v rfl ?_ | refine Z9w ?_)); refine Z9u ?_) | refine awp_seq ?_ | refine Zbm (fun _ _ => rfl) ?_ | refine Z8h ?_ | refine Zbn (fun _ _ => rfl) ?_ | refine Zbo (fun _ _ => rfl) ?_ | refine Z8f (t := true) rfl (fun _ => ?_) (fun e => by cases e) | refine Z8f (t := false) rfl (fun e => by cases e) (fun _ => ?_)))
  refine Za3 (p := (i : Int) < (p.length : Int)) rfl (fun h3 => ?_) (fun h3 => ?_)
  · have hil : i < p.length := by omega
    have hti : p[i]? = some p[i] := List.getElem?_eq_getElem hil
    have hx := Z187 (i := (i : Int)) (show p[(i : Int).toNat]? = some p[i] from hti)
    rw [List.drop_eq_getElem_cons hil, MayF] at hM
    have hst := hs p[i] (List.getElem_mem hil)
    generalize p[i] = t at hx hM hst
    have hgd := fun τ => Z17w l hw f t.col τ
    have hmy : goodF l t.col = true → t.col < ss.length → ∀ τ, Z1q Try.prog Zei [.slc 8 (l.map encN) f, encM t, .slc 15 (ss.map encS) g] τ fun r σ' => r = .bool (mayF l t ss) ∧ σ' = τ := fun h1 h2 τ => by
      obtain ⟨k0, k1⟩ := Z181 h1
      have hx := List.getElem?_eq_getElem (l := ss) (i := t.col.toNat) (by omega)
      have hz := List.getElem?_eq_getElem (l := ss) (i := 0) (by omega)
      exact Z186 l f g t ss _ _ _ k0 (List.getElem?_eq_getElem (by omega)) hx hz (hst h1 _ hx) τ
    obtain ⟨tc, op, tv⟩ := t
    simp only at *
    rw [encM, Z17q, Zm6] at hx hmy
    simp only at hx hmy
    have next : (goodF l tc = true ∧ tc < ss.length ∧ mayF l ⟨tc, op, tv⟩ ss = false → False) → ∀ (R : Z87), (∀ F τ, R .normal F τ = AWp Try.prog Z13i.n (.region Z13f [0, 2, 9, 10, 11]) (Za9 (fun m F σ' => ∃ i : Nat, F = fset 0 (some (.slc 8 (l.map encN) f)) (fset 2 (some (.slc 15 (ss.map encS) g)) (fset 9 (some (.slc 7 (p.map encM) e)) (fset 10 (some (.int .i64 p.length)) (fset 11 (some (.int .i64 i)) Z27)))) ∧ σ = σ' ∧ i ≤ p.length ∧ m = p.length - i ∧ MayF l ss (p.drop i) = MayF l ss p) (p.length - i)
        (Z8g 0 (Z8e Try.prog Z13i.n (Z13i.code.snd 2) (ARet Z13i.res fun r σ' => r = .bool (MayF l ss p) ∧ σ' = σ)))) F τ) → ∀ t : Bool, t = false → AWp Try.prog Z13i.n (.cond (.t 32) (.seq (.region Z13e [6]) .ret) .skip) R (fset 0 (some (.slc 8 (l.map encN) f)) (fset 2 (some (.slc 15 (ss.map encS) g)) (fset 9 (some (.slc 7 (p.map encM) e)) (fset 10 (some (.int .i64 p.length)) (fset 11 (some (.int .i64 i)) (fset 32 (some (.bool t)) Z27)))))) σ := by
      rintro hno R hR t rfl
      rw [if_neg hno] at hM
      refine Z8f (t := false) rfl (fun e => by cases e) (fun _ => ?_)
      refine Zbn hR ?_
      refine Zbp ?_
      (repeat (refine st_q rfl rfl rfl ?_))
      rw [show IntKind.wrap .i64 ((i : Int) + 1) = ((i + 1 : Nat) : Int) by rw [w64 _ (by omega) (by omega)]; omega]
      (repeat (refine st_q rfl rfl rfl ?_))
      (refine Z8y ?_; (repeat (first | refine Z9v rfl ?_ | refine Z9w ?_)); refine Z9u ?_)
      exact ⟨_, _, HSub.refl _, ⟨i + 1, rfl, rfl, by omega, rfl, hM⟩, by omega⟩
    (repeat (first | refine st_q rfl rfl rfl ?_ | refine Z8v rfl (st_q rfl rfl rfl ?_) | refine Z8w rfl ?_ | refine Z8x rfl ?_ | (refine Z8y ?_; (repeat (first | refine Z9v rfl ?_ | refine Z9w ?_)); refine Z9u ?_) | refine awp_seq ?_ | refine Zbm (fun _ _ => rfl) ?_ | refine Z8h ?_ | refine Zbn (fun _ _ => rfl) ?_ | refine Zbo (fun _ _ => rfl) ?_ | refine Z8f (t := true) rfl (fun _ => ?_) (fun e => by cases e) | refine Z8f (t := false) rfl (fun e => by cases e) (fun _ => ?_)))
    refine Z93 rfl (by omega) hx ?_
    (repeat (first | refine st_q rfl rfl rfl ?_ | refine Z8v rfl (st_q rfl rfl rfl ?_) | refine Z8w rfl ?_ | refine Z8x rfl ?_ | (refine Z8y ?_; (repeat (first | refine Z9v rfl ?_ | refine Z9w ?_)); refine Z9u ?_) | refine awp_seq ?_ | refine Zbm (fun _ _ => rfl) ?_ | refine Z8h ?_ | refine Zbn (fun _ _ => rfl) ?_ | refine Zbo (fun _ _ => rfl) ?_ | refine Z8f (t := true) rfl (fun _ => ?_) (fun e => by cases e) | refine Z8f (t := false) rfl (fun e => by cases e) (fun _ => ?_)))
    refine Z9k (by simp [Z0.cells, Z0.one]) fun b hb => ?_
    refine Z9a rfl Z8z rfl (by decide) (Z0.fit_iff.1 rfl) (fun h => by cases h) Z9b ?_
    (repeat (refine st_q rfl rfl rfl ?_))
    (refine Z8y ?_; (repeat (first | refine Z9v rfl ?_ | refine Z9w ?_)); refine Z9u ?_)
    refine Zb3 (d := 8) (cs := [.int .i64 tc, .int .i64 op, .bool tv.null, .int .i64 tv.i, .int .i64 tv.n, .slc 1 (bytes tv.b) false, .slc 5 (Zm5 tv.kids) false]) rfl ?_
    (refine Z9y (keep := [0, 2, 8, 9, 10, 11]) ?_; ((repeat (first | refine Z9v rfl ?_ | refine Z9w ?_)); refine Z9u ?_))
    refine awp_seq ?_
    refine Zbm (fun _ _ => rfl) ?_
    (repeat (refine st_q rfl rfl rfl ?_))
    refine Z9t rfl (hgd _) ?_
    cases hgc : goodF l tc with
    | false =>
      (repeat (first | refine st_q rfl rfl rfl ?_ | refine Z8v rfl (st_q rfl rfl rfl ?_) | refine Z8w rfl ?_ | refine Z8x rfl ?_))
      (refine Z8y ?_; (repeat (first | refine Z9v rfl ?_ | refine Z9w ?_)); refine Z9u ?_)
      exact next (fun h => by rw [hgc] at h; cases h.1) _ (fun _ _ => rfl) _ rfl
    | true =>
      (repeat (first | refine st_q rfl rfl rfl ?_ | refine Z8v rfl (st_q rfl rfl rfl ?_) | refine Z8w rfl ?_ | refine Z8x rfl ?_))
      rw [hsl]
      by_cases hlt : tc < (ss.length : Int)
      · (rw [show decide (tc < (ss.length : Int)) = true from decide_eq_true (by omega)])
        (repeat (first | refine st_q rfl rfl rfl ?_ | refine Z8v rfl (st_q rfl rfl rfl ?_) | refine Z8w rfl ?_ | refine Z8x rfl ?_))
        refine Z8v rfl (Z9t rfl (hmy hgc hlt _) ?_)
        cases hmm : mayF l ⟨tc, op, tv⟩ ss with
        | false =>
          (repeat (first | refine st_q rfl rfl rfl ?_ | refine Z8v rfl (st_q rfl rfl rfl ?_) | refine Z8w rfl ?_ | refine Z8x rfl ?_))
          (refine Z8y ?_; (repeat (first | refine Z9v rfl ?_ | refine Z9w ?_)); refine Z9u ?_)
          refine Z8f (t := true) rfl (fun _ => ?_) (fun e => by cases e)
          rw [if_pos ⟨hgc, hlt, hmm⟩] at hM
          rw [← hM]
          (repeat (first | refine st_q rfl rfl rfl ?_ | refine Z8v rfl (st_q rfl rfl rfl ?_) | refine Z8w rfl ?_ | refine Z8x rfl ?_ | (refine Z8y ?_; (repeat (first | refine Z9v rfl ?_ | refine Z9w ?_)); refine Z9u ?_) | refine awp_seq ?_ | refine Zbm (fun _ _ => rfl) ?_ | refine Z8h ?_ | refine Zbn (fun _ _ => rfl) ?_ | refine Zbo (fun _ _ => rfl) ?_ | refine Z8f (t := true) rfl (fun _ => ?_) (fun e => by cases e) | refine Z8f (t := false) rfl (fun e => by cases e) (fun _ => ?_)))
          refine Z8d ?_
          exact ares rfl (HSub.refl _) ⟨rfl, rfl⟩
        | true =>
          (repeat (first | refine st_q rfl rfl rfl ?_ | refine Z8v rfl (st_q rfl rfl rfl ?_) | refine Z8w rfl ?_ | refine Z8x rfl ?_))
          (refine Z8y ?_; (repeat (first | refine Z9v rfl ?_ | refine Z9w ?_)); refine Z9u ?_)
          exact next (fun h => by rw [hmm] at h; cases h.2.2) _ (fun _ _ => rfl) _ rfl
      · (rw [show decide (tc < (ss.length : Int)) = false from decide_eq_false (by omega)])
        (repeat (first | refine st_q rfl rfl rfl ?_ | refine Z8v rfl (st_q rfl rfl rfl ?_) | refine Z8w rfl ?_ | refine Z8x rfl ?_))
        (refine Z8y ?_; (repeat (first | refine Z9v rfl ?_ | refine Z9w ?_)); refine Z9u ?_)
        exact next (fun h => hlt h.2.1) _ (fun _ _ => rfl) _ rfl
  · (repeat (first | refine st_q rfl rfl rfl ?_ | refine Z8v rfl (st_q rfl rfl rfl ?_) | refine Z8w rfl ?_ | refine Z8x rfl ?_ | (refine Z8y ?_; (repeat (first | refine Z9v rfl ?_ | refine Z9w ?_)); refine Z9u ?_) | refine awp_seq ?_ | refine Zbm (fun _ _ => rfl) ?_ | refine Z8h ?_ | refine Zbn (fun _ _ => rfl) ?_ | refine Zbo (fun _ _ => rfl) ?_ | refine Z8f (t := true) rfl (fun _ => ?_) (fun e => by cases e) | refine Z8f (t := false) rfl (fun e => by cases e) (fun _ => ?_)))
    have e : p.drop i = [] := List.drop_eq_nil_of_le (by omega)
    rw [e, MayF] at hM
    rw [← hM]
    refine Z8d ?_
    exact ares rfl (HSub.refl _) ⟨rfl, rfl⟩
end Go.Abs
namespace Go.Abs
open Go Go.Proofs
set_option linter.unusedVariables false
set_option linter.unusedSimpArgs false
set_option maxHeartbeats 4000000
attribute [local irreducible] AWp aops KP
def Z189 (l : List Nd) (row : Vl) : List Tm → Int → Int
  | [], out => out
  | t :: ts, out =>
    if goodF l t.col = false then 0 else
    if t.op = 7 then (if (getF l (t.col.toNat + 1) t.col row).null = true then Z189 l row ts out else 0)
    else if t.op = 8 then (if (getF l (t.col.toNat + 1) t.col row).null = true then 0 else Z189 l row ts out)
    else if (getF l (t.col.toNat + 1) t.col row).null = true then Z189 l row ts 2
    else match l[t.col.toNat]? with
      | none => 0
      | some n => if Z17x t.op (cmpV n.t.kind (getF l (t.col.toNat + 1) t.col row) t.v).1 = true then Z189 l row ts out else 0
theorem Z18a (l : List Nd) (hw : WfN l) (f e : Bool) (p : List Tm) (hp : p.length ≤ 1000000) (row : Vl) (σ : Zc) :
    Z1q Try.prog Zdd [.slc 8 (l.map encN) f, .slc 7 (p.map encM) e, encV row] σ fun r σ' => r = .int .i64 (Z189 l row p 1) ∧ σ' = σ := by
  have hpl : (p.map encM).length = p.length := List.length_map ..
  have hrow := Zm7 row
  refine Z8t rfl Z17f (Nat.le_of_ble_eq_true rfl) ?_
  rw [hrow]
  refine Z9z ?_
  refine Z9j rfl (Z0.fit_iff.1 rfl) fun b1 hb1 => ?_
  (repeat (refine st_q rfl rfl rfl ?_))
  (refine Z8y ?_; (repeat (first | refine Z9v rfl ?_ | refine Z9w ?_)); refine Z9u ?_)
  refine Zb3 (d := 5) (cs := Zm6 row) rfl ?_
  (refine Z9y (keep := [0, 1, 5]) ?_; ((repeat (first | refine Z9v rfl ?_ | refine Z9w ?_)); refine Z9u ?_))
  (repeat (first | refine st_q rfl rfl rfl ?_ | refine Z8v rfl (st_q rfl rfl rfl ?_) | refine Z8w rfl ?_ | refine Z8x rfl ?_ | (refine Z8y ?_; (repeat (first | refine Z9v rfl ?_ | refine Z9w ?_)); refine Z9u ?_) | refine awp_seq ?_ | refine Zbm (fun _ _ => rfl) ?_ | refine Z8h ?_ | refine Zbn (fun _ _ => rfl) ?_ | refine Zbo (fun _ _ => rfl) ?_ | refine Z8f (t := true) rfl (fun _ => ?_) (fun e => by cases e) | refine Z8f (t := false) rfl (fun e => by cases e) (fun _ => ?_)))
  rw [hpl]
  obtain ⟨I, hI⟩ : ∃ I : Nat → Z26 → Zc → Prop, I = fun m F σ' => ∃ (i : Nat) (out : Int), F = fset 0 (some (.slc 8 (l.map encN) f)) (fset 5 (some (.iptr (Zm6 row))) (fset 7 (some (.int .i64 out)) (fset 14 (some (.slc 7 (p.map encM) e)) (fset 15 (some (.int .i64 p.length)) (fset 16 (some (.int .i64 i)) Z27))))) ∧ σ = σ' ∧ i ≤ p.length ∧ m = p.length - i ∧ Z189 l row (p.drop i) out = Z189 l row p 1 := ⟨_, rfl⟩
  refine Zaa I (n := p.length) (by rw [hI]; exact ⟨0, 1, rfl, rfl, by omega, by omega, by simp⟩) ?_
  intro m F σ' hIm
  rw [hI] at hIm
  obtain ⟨i, out, rfl, rfl, hi, rfl, hM⟩ := hIm
  (repeat (first | refine st_q rfl rfl rfl ?_ | refine Z8v rfl (st_q rfl rfl rfl ?_) | refine Z8w rfl ?_ | refine Z8x rfl ?_ | (refine Z8y ?_; (repeat (first | refine Z9v rfl ?_ | refine Z9w ?_)); refine Z9u ?_) | refine awp_seq ?_ | refine Zbm (fun _ _ => rfl) ?_ | refine Z8h ?_ | refine Zbn (fun _ _ => rfl) ?_ | refine Zbo (fun _ _ => rfl) ?_ | refine Z8f (t := true) rfl (fun _ => ?_) (fun e => by cases e) | refine Z8f (t := false) rfl (fun e => by cases e) (fun _ => ?_)))
  refine Za3 (p := (i : Int) < (p.length : Int)) rfl (fun h3 => ?_) (fun h3 => ?_)
  · have hil : i < p.length := by omega
    have hti : p[i]? = some p[i] := List.getElem?_eq_getElem hil
    have hx := Z187 (i := (i : Int)) (show p[(i : Int).toNat]? = some p[i] from hti)
    rw [List.drop_eq_getElem_cons hil, Z189] at hM
    generalize p[i] = t at hx hM
    have hgd := fun τ => Z17w l hw f t.col τ
    obtain ⟨tc, op, tv⟩ := t
    simp only at *
    rw [encM, Z17q, Zm6] at hx
    simp only at hx
    have next : ∀ out' : Int, Z189 l row (p.drop (i + 1)) out' = Z189 l row p 1 → ∀ Q : Z87, AWp Try.prog Z145.n (.region Z142 [0, 5, 7, 14, 15, 16]) (Za9 I (p.length - i) Q)
        (fset 0 (some (.slc 8 (l.map encN) f)) (fset 5 (some (.iptr (Zm6 row))) (fset 7 (some (.int .i64 out')) (fset 14 (some (.slc 7 (p.map encM) e)) (fset 15 (some (.int .i64 p.length)) (fset 16 (some (.int .i64 i)) Z27)))))) σ := fun out' ho Q => by
      refine Zbp ?_
      (repeat (refine st_q rfl rfl rfl ?_))
      rw [show IntKind.wrap .i64 ((i : Int) + 1) = ((i + 1 : Nat) : Int) by rw [w64 _ (by omega) (by omega)]; omega]
      (repeat (refine st_q rfl rfl rfl ?_))
      (refine Z8y ?_; (repeat (first | refine Z9v rfl ?_ | refine Z9w ?_)); refine Z9u ?_)
      refine ⟨_, p.length - (i + 1), HSub.refl _, ?_, by omega⟩
      rw [hI]
      exact ⟨i + 1, out', rfl, rfl, by omega, rfl, ho⟩
    (repeat (first | refine st_q rfl rfl rfl ?_ | refine Z8v rfl (st_q rfl rfl rfl ?_) | refine Z8w rfl ?_ | refine Z8x rfl ?_ | (refine Z8y ?_; (repeat (first | refine Z9v rfl ?_ | refine Z9w ?_)); refine Z9u ?_) | refine awp_seq ?_ | refine Zbm (fun _ _ => rfl) ?_ | refine Z8h ?_ | refine Zbn (fun _ _ => rfl) ?_ | refine Zbo (fun _ _ => rfl) ?_ | refine Z8f (t := true) rfl (fun _ => ?_) (fun e => by cases e) | refine Z8f (t := false) rfl (fun e => by cases e) (fun _ => ?_)))
    refine Z93 rfl (by omega) hx ?_
    (repeat (first | refine st_q rfl rfl rfl ?_ | refine Z8v rfl (st_q rfl rfl rfl ?_) | refine Z8w rfl ?_ | refine Z8x rfl ?_ | (refine Z8y ?_; (repeat (first | refine Z9v rfl ?_ | refine Z9w ?_)); refine Z9u ?_) | refine awp_seq ?_ | refine Zbm (fun _ _ => rfl) ?_ | refine Z8h ?_ | refine Zbn (fun _ _ => rfl) ?_ | refine Zbo (fun _ _ => rfl) ?_ | refine Z8f (t := true) rfl (fun _ => ?_) (fun e => by cases e) | refine Z8f (t := false) rfl (fun e => by cases e) (fun _ => ?_)))
    refine Z9k (by simp [Z0.cells, Z0.one]) fun b hb => ?_
    refine Z9a rfl Z8z rfl (by decide) (Z0.fit_iff.1 rfl) (fun h => by cases h) Z9b ?_
    (repeat (refine st_q rfl rfl rfl ?_))
    (refine Z8y ?_; (repeat (first | refine Z9v rfl ?_ | refine Z9w ?_)); refine Z9u ?_)
    refine Zb3 (d := 9) (cs := [.int .i64 tc, .int .i64 op, .bool tv.null, .int .i64 tv.i, .int .i64 tv.n, .slc 1 (bytes tv.b) false, .slc 5 (Zm5 tv.kids) false]) rfl ?_
    (refine Z9y (keep := [0, 5, 7, 9, 14, 15, 16]) ?_; ((repeat (first | refine Z9v rfl ?_ | refine Z9w ?_)); refine Z9u ?_))
    (repeat (first | refine st_q rfl rfl rfl ?_ | refine Z8v rfl (st_q rfl rfl rfl ?_) | refine Z8w rfl ?_ | refine Z8x rfl ?_ | (refine Z8y ?_; (repeat (first | refine Z9v rfl ?_ | refine Z9w ?_)); refine Z9u ?_) | refine awp_seq ?_ | refine Zbm (fun _ _ => rfl) ?_ | refine Z8h ?_ | refine Zbn (fun _ _ => rfl) ?_ | refine Zbo (fun _ _ => rfl) ?_ | refine Z8f (t := true) rfl (fun _ => ?_) (fun e => by cases e) | refine Z8f (t := false) rfl (fun e => by cases e) (fun _ => ?_)))
    refine Z9t rfl (hgd _) ?_
    cases hgc : goodF l tc with
    | false =>
      rw [if_pos hgc] at hM
      rw [← hM]
      (repeat (first | refine st_q rfl rfl rfl ?_ | refine Z8v rfl (st_q rfl rfl rfl ?_) | refine Z8w rfl ?_ | refine Z8x rfl ?_ | (refine Z8y ?_; (repeat (first | refine Z9v rfl ?_ | refine Z9w ?_)); refine Z9u ?_) | refine awp_seq ?_ | refine Zbm (fun _ _ => rfl) ?_ | refine Z8h ?_ | refine Zbn (fun _ _ => rfl) ?_ | refine Zbo (fun _ _ => rfl) ?_ | refine Z8f (t := true) rfl (fun _ => ?_) (fun e => by cases e) | refine Z8f (t := false) rfl (fun e => by cases e) (fun _ => ?_)))
      refine Z8d ?_
      exact ares rfl (HSub.refl _) ⟨rfl, rfl⟩
    | true =>
    obtain ⟨k0, k1⟩ := Z181 hgc
    obtain ⟨n, hn⟩ : ∃ n, l[tc.toNat]? = some n := ⟨_, List.getElem?_eq_getElem (by omega)⟩
    rw [if_neg (by rw [hgc]; simp), hn] at hM
    have hc := fun τ => c_get l hw f row (tc.toNat + 1) tc k0 k1 (by omega) τ
    generalize getF l (tc.toNat + 1) tc row = v at hc hM
    have hve := Zm7 v
    rw [hrow] at hc
    simp only at hM
    have hone : ∀ c ∈ Zlo (tyN n), c.one = true := by
      intro c hc
      simp only [Zlo, tyN, List.mem_cons, List.not_mem_nil, or_false] at hc
      rcases hc with rfl | rfl | rfl | rfl | rfl | rfl <;> rfl
    have hcmp := fun τ => Zu9 (Zlo (tyN n)) n.t.kind rfl rfl hone v tv τ
    simp only [Zm7] at hcmp
    (repeat (first | refine st_q rfl rfl rfl ?_ | refine Z8v rfl (st_q rfl rfl rfl ?_) | refine Z8w rfl ?_ | refine Z8x rfl ?_ | (refine Z8y ?_; (repeat (first | refine Z9v rfl ?_ | refine Z9w ?_)); refine Z9u ?_) | refine awp_seq ?_ | refine Zbm (fun _ _ => rfl) ?_ | refine Z8h ?_ | refine Zbn (fun _ _ => rfl) ?_ | refine Zbo (fun _ _ => rfl) ?_ | refine Z8f (t := true) rfl (fun _ => ?_) (fun e => by cases e) | refine Z8f (t := false) rfl (fun e => by cases e) (fun _ => ?_)))
    refine Z9t rfl (hc _) ?_
    rw [hve]
    refine Z9k (by simp [Z0.cells, Z0.one]) fun b2 hb2 => ?_
    refine Z9a rfl Z8z rfl (by decide) (Z0.fit_iff.1 rfl) (fun h => by cases h) Z9b ?_
    (repeat (refine st_q rfl rfl rfl ?_))
    (refine Z8y ?_; (repeat (first | refine Z9v rfl ?_ | refine Z9w ?_)); refine Z9u ?_)
    refine Zb3 (d := 10) (cs := Zm6 v) rfl ?_
    (refine Z9y (keep := [0, 5, 7, 9, 10, 14, 15, 16]) ?_; ((repeat (first | refine Z9v rfl ?_ | refine Z9w ?_)); refine Z9u ?_))
    by_cases q7 : op = 7
    · rw [if_pos q7] at hM
      (repeat (first | refine st_q rfl rfl rfl ?_ | refine Z8v rfl (st_q rfl rfl rfl ?_) | refine Z8w rfl ?_ | refine Z8x rfl ?_ | (refine Z8y ?_; (repeat (first | refine Z9v rfl ?_ | refine Z9w ?_)); refine Z9u ?_) | refine awp_seq ?_ | refine Zbm (fun _ _ => rfl) ?_ | refine Z8h ?_ | refine Zbn (fun _ _ => rfl) ?_ | refine Zbo (fun _ _ => rfl) ?_ | refine Z8f (t := true) rfl (fun _ => ?_) (fun e => by cases e) | refine Z8f (t := false) rfl (fun e => by cases e) (fun _ => ?_)))
      (rw [show decide (op = 7) = true from decide_eq_true (by omega)])
      (repeat (first | refine st_q rfl rfl rfl ?_ | refine Z8v rfl (st_q rfl rfl rfl ?_) | refine Z8w rfl ?_ | refine Z8x rfl ?_ | (refine Z8y ?_; (repeat (first | refine Z9v rfl ?_ | refine Z9w ?_)); refine Z9u ?_) | refine awp_seq ?_ | refine Zbm (fun _ _ => rfl) ?_ | refine Z8h ?_ | refine Zbn (fun _ _ => rfl) ?_ | refine Zbo (fun _ _ => rfl) ?_ | refine Z8f (t := true) rfl (fun _ => ?_) (fun e => by cases e) | refine Z8f (t := false) rfl (fun e => by cases e) (fun _ => ?_)))
      cases hvn : v.null with
      | true =>
        rw [if_pos hvn] at hM
        (repeat (first | refine st_q rfl rfl rfl ?_ | refine Z8v rfl (st_q rfl rfl rfl ?_) | refine Z8w rfl ?_ | refine Z8x rfl ?_ | (refine Z8y ?_; (repeat (first | refine Z9v rfl ?_ | refine Z9w ?_)); refine Z9u ?_) | refine awp_seq ?_ | refine Zbm (fun _ _ => rfl) ?_ | refine Z8h ?_ | refine Zbn (fun _ _ => rfl) ?_ | refine Zbo (fun _ _ => rfl) ?_ | refine Z8f (t := true) rfl (fun _ => ?_) (fun e => by cases e) | refine Z8f (t := false) rfl (fun e => by cases e) (fun _ => ?_)))
        (refine Z9y (keep := [0, 5, 7, 14, 15, 16]) ?_; ((repeat (first | refine Z9v rfl ?_ | refine Z9w ?_)); refine Z9u ?_))
        exact next out hM _
      | false =>
        rw [if_neg (by rw [hvn]; simp)] at hM
        rw [← hM]
        (repeat (first | refine st_q rfl rfl rfl ?_ | refine Z8v rfl (st_q rfl rfl rfl ?_) | refine Z8w rfl ?_ | refine Z8x rfl ?_ | (refine Z8y ?_; (repeat (first | refine Z9v rfl ?_ | refine Z9w ?_)); refine Z9u ?_) | refine awp_seq ?_ | refine Zbm (fun _ _ => rfl) ?_ | refine Z8h ?_ | refine Zbn (fun _ _ => rfl) ?_ | refine Zbo (fun _ _ => rfl) ?_ | refine Z8f (t := true) rfl (fun _ => ?_) (fun e => by cases e) | refine Z8f (t := false) rfl (fun e => by cases e) (fun _ => ?_)))
        refine Z8d ?_
        exact ares rfl (HSub.refl _) ⟨rfl, rfl⟩
    rw [if_neg q7] at hM
    by_cases q8 : op = 8
    · rw [if_pos q8] at hM
      (repeat (first | refine st_q rfl rfl rfl ?_ | refine Z8v rfl (st_q rfl rfl rfl ?_) | refine Z8w rfl ?_ | refine Z8x rfl ?_ | (refine Z8y ?_; (repeat (first | refine Z9v rfl ?_ | refine Z9w ?_)); refine Z9u ?_) | refine awp_seq ?_ | refine Zbm (fun _ _ => rfl) ?_ | refine Z8h ?_ | refine Zbn (fun _ _ => rfl) ?_ | refine Zbo (fun _ _ => rfl) ?_ | refine Z8f (t := true) rfl (fun _ => ?_) (fun e => by cases e) | refine Z8f (t := false) rfl (fun e => by cases e) (fun _ => ?_)))
      (rw [show decide (op = 7) = false from decide_eq_false (by omega)])
      (repeat (first | refine st_q rfl rfl rfl ?_ | refine Z8v rfl (st_q rfl rfl rfl ?_) | refine Z8w rfl ?_ | refine Z8x rfl ?_ | (refine Z8y ?_; (repeat (first | refine Z9v rfl ?_ | refine Z9w ?_)); refine Z9u ?_) | refine awp_seq ?_ | refine Zbm (fun _ _ => rfl) ?_ | refine Z8h ?_ | refine Zbn (fun _ _ => rfl) ?_ | refine Zbo (fun _ _ => rfl) ?_ | refine Z8f (t := true) rfl (fun _ => ?_) (fun e => by cases e) | refine Z8f (t := false) rfl (fun e => by cases e) (fun _ => ?_)))
      (rw [show decide (op = 8) = true from decide_eq_true (by omega)])
      (repeat (first | refine st_q rfl rfl rfl ?_ | refine Z8v rfl (st_q rfl rfl rfl ?_) | refine Z8w rfl ?_ | refine Z8x rfl ?_ | (refine Z8y ?_; (repeat (first | refine Z9v rfl ?_ | refine Z9w ?_)); refine Z9u ?_) | refine awp_seq ?_ | refine Zbm (fun _ _ => rfl) ?_ | refine Z8h ?_ | refine Zbn (fun _ _ => rfl) ?_ | refine Zbo (fun _ _ => rfl) ?_ | refine Z8f (t := true) rfl (fun _ => ?_) (fun e => by cases e) | refine Z8f (t := false) rfl (fun e => by cases e) (fun _ => ?_)))
      cases hvn : v.null with
      | true =>
        rw [if_pos hvn] at hM
        rw [← hM]
        (repeat (first | refine st_q rfl rfl rfl ?_ | refine Z8v rfl (st_q rfl rfl rfl ?_) | refine Z8w rfl ?_ | refine Z8x rfl ?_ | (refine Z8y ?_; (repeat (first | refine Z9v rfl ?_ | refine Z9w ?_)); refine Z9u ?_) | refine awp_seq ?_ | refine Zbm (fun _ _ => rfl) ?_ | refine Z8h ?_ | refine Zbn (fun _ _ => rfl) ?_ | refine Zbo (fun _ _ => rfl) ?_ | refine Z8f (t := true) rfl (fun _ => ?_) (fun e => by cases e) | refine Z8f (t := false) rfl (fun e => by cases e) (fun _ => ?_)))
        refine Z8d ?_
        exact ares rfl (HSub.refl _) ⟨rfl, rfl⟩
      | false =>
        rw [if_neg (by rw [hvn]; simp)] at hM
        (repeat (first | refine st_q rfl rfl rfl ?_ | refine Z8v rfl (st_q rfl rfl rfl ?_) | refine Z8w rfl ?_ | refine Z8x rfl ?_ | (refine Z8y ?_; (repeat (first | refine Z9v rfl ?_ | refine Z9w ?_)); refine Z9u ?_) | refine awp_seq ?_ | refine Zbm (fun _ _ => rfl) ?_ | refine Z8h ?_ | refine Zbn (fun _ _ => rfl) ?_ | refine Zbo (fun _ _ => rfl) ?_ | refine Z8f (t := true) rfl (fun _ => ?_) (fun e => by cases e) | refine Z8f (t := false) rfl (fun e => by cases e) (fun _ => ?_)))
        (refine Z9y (keep := [0, 5, 7, 14, 15, 16]) ?_; ((repeat (first | refine Z9v rfl ?_ | refine Z9w ?_)); refine Z9u ?_))
        exact next out hM _
    rw [if_neg q8] at hM
    (repeat (first | refine st_q rfl rfl rfl ?_ | refine Z8v rfl (st_q rfl rfl rfl ?_) | refine Z8w rfl ?_ | refine Z8x rfl ?_ | (refine Z8y ?_; (repeat (first | refine Z9v rfl ?_ | refine Z9w ?_)); refine Z9u ?_) | refine awp_seq ?_ | refine Zbm (fun _ _ => rfl) ?_ | refine Z8h ?_ | refine Zbn (fun _ _ => rfl) ?_ | refine Zbo (fun _ _ => rfl) ?_ | refine Z8f (t := true) rfl (fun _ => ?_) (fun e => by cases e) | refine Z8f (t := false) rfl (fun e => by cases e) (fun _ => ?_)))
    (rw [show decide (op = 7) = false from decide_eq_false (by omega)])
    (repeat (first | refine st_q rfl rfl rfl ?_ | refine Z8v rfl (st_q rfl rfl rfl ?_) | refine Z8w rfl ?_ | refine Z8x rfl ?_ | (refine Z8y ?_; (repeat (first | refine Z9v rfl ?_ | refine Z9w ?_)); refine Z9u ?_) | refine awp_seq ?_ | refine Zbm (fun _ _ => rfl) ?_ | refine Z8h ?_ | refine Zbn (fun _ _ => rfl) ?_ | refine Zbo (fun _ _ => rfl) ?_ | refine Z8f (t := true) rfl (fun _ => ?_) (fun e => by cases e) | refine Z8f (t := false) rfl (fun e => by cases e) (fun _ => ?_)))
    (rw [show decide (op = 8) = false from decide_eq_false (by omega)])
    (repeat (first | refine st_q rfl rfl rfl ?_ | refine Z8v rfl (st_q rfl rfl rfl ?_) | refine Z8w rfl ?_ | refine Z8x rfl ?_ | (refine Z8y ?_; (repeat (first | refine Z9v rfl ?_ | refine Z9w ?_)); refine Z9u ?_) | refine awp_seq ?_ | refine Zbm (fun _ _ => rfl) ?_ | refine Z8h ?_ | refine Zbn (fun _ _ => rfl) ?_ | refine Zbo (fun _ _ => rfl) ?_ | refine Z8f (t := true) rfl (fun _ => ?_) (fun e => by cases e) | refine Z8f (t := false) rfl (fun e => by cases e) (fun _ => ?_)))
    cases hvn : v.null with
    | true =>
      rw [if_pos hvn] at hM
      (repeat (first | refine st_q rfl rfl rfl ?_ | refine Z8v rfl (st_q rfl rfl rfl ?_) | refine Z8w rfl ?_ | refine Z8x rfl ?_ | (refine Z8y ?_; (repeat (first | refine Z9v rfl ?_ | refine Z9w ?_)); refine Z9u ?_) | refine awp_seq ?_ | refine Zbm (fun _ _ => rfl) ?_ | refine Z8h ?_ | refine Zbn (fun _ _ => rfl) ?_ | refine Zbo (fun _ _ => rfl) ?_ | refine Z8f (t := true) rfl (fun _ => ?_) (fun e => by cases e) | refine Z8f (t := false) rfl (fun e => by cases e) (fun _ => ?_)))
      (refine Z9y (keep := [0, 5, 7, 14, 15, 16]) ?_; ((repeat (first | refine Z9v rfl ?_ | refine Z9w ?_)); refine Z9u ?_))
      exact next 2 hM _
    | false =>
    rw [if_neg (by rw [hvn]; simp)] at hM
    (repeat (first | refine st_q rfl rfl rfl ?_ | refine Z8v rfl (st_q rfl rfl rfl ?_) | refine Z8w rfl ?_ | refine Z8x rfl ?_ | (refine Z8y ?_; (repeat (first | refine Z9v rfl ?_ | refine Z9w ?_)); refine Z9u ?_) | refine awp_seq ?_ | refine Zbm (fun _ _ => rfl) ?_ | refine Z8h ?_ | refine Zbn (fun _ _ => rfl) ?_ | refine Zbo (fun _ _ => rfl) ?_ | refine Z8f (t := true) rfl (fun _ => ?_) (fun e => by cases e) | refine Z8f (t := false) rfl (fun e => by cases e) (fun _ => ?_)))
    refine Z93 rfl k0 (Z17u hn) ?_
    rw [encN, Zm2]
    (repeat (first | refine st_q rfl rfl rfl ?_ | refine Z8v rfl (st_q rfl rfl rfl ?_) | refine Z8w rfl ?_ | refine Z8x rfl ?_ | (refine Z8y ?_; (repeat (first | refine Z9v rfl ?_ | refine Z9w ?_)); refine Z9u ?_) | refine awp_seq ?_ | refine Zbm (fun _ _ => rfl) ?_ | refine Z8h ?_ | refine Zbn (fun _ _ => rfl) ?_ | refine Zbo (fun _ _ => rfl) ?_ | refine Z8f (t := true) rfl (fun _ => ?_) (fun e => by cases e) | refine Z8f (t := false) rfl (fun e => by cases e) (fun _ => ?_)))
    refine Zbw rfl (fun τ => c_typ n τ) ?_
    (repeat (first | refine st_q rfl rfl rfl ?_ | refine Z8v rfl (st_q rfl rfl rfl ?_) | refine Z8w rfl ?_ | refine Z8x rfl ?_ | (refine Z8y ?_; (repeat (first | refine Z9v rfl ?_ | refine Z9w ?_)); refine Z9u ?_) | refine awp_seq ?_ | refine Zbm (fun _ _ => rfl) ?_ | refine Z8h ?_ | refine Zbn (fun _ _ => rfl) ?_ | refine Zbo (fun _ _ => rfl) ?_ | refine Z8f (t := true) rfl (fun _ => ?_) (fun e => by cases e) | refine Z8f (t := false) rfl (fun e => by cases e) (fun _ => ?_)))
    refine Z9t rfl (hcmp _) ?_
    (repeat (first | refine st_q rfl rfl rfl ?_ | refine Z8v rfl (st_q rfl rfl rfl ?_) | refine Z8w rfl ?_ | refine Z8x rfl ?_ | (refine Z8y ?_; (repeat (first | refine Z9v rfl ?_ | refine Z9w ?_)); refine Z9u ?_) | refine awp_seq ?_ | refine Zbm (fun _ _ => rfl) ?_ | refine Z8h ?_ | refine Zbn (fun _ _ => rfl) ?_ | refine Zbo (fun _ _ => rfl) ?_ | refine Z8f (t := true) rfl (fun _ => ?_) (fun e => by cases e) | refine Z8f (t := false) rfl (fun e => by cases e) (fun _ => ?_)))
    refine Z9t rfl (Z17y _ _ _) ?_
    cases hh : Z17x op (cmpV n.t.kind v tv).1 with
    | true =>
      rw [if_pos hh] at hM
      (repeat (first | refine st_q rfl rfl rfl ?_ | refine Z8v rfl (st_q rfl rfl rfl ?_) | refine Z8w rfl ?_ | refine Z8x rfl ?_ | (refine Z8y ?_; (repeat (first | refine Z9v rfl ?_ | refine Z9w ?_)); refine Z9u ?_) | refine awp_seq ?_ | refine Zbm (fun _ _ => rfl) ?_ | refine Z8h ?_ | refine Zbn (fun _ _ => rfl) ?_ | refine Zbo (fun _ _ => rfl) ?_ | refine Z8f (t := true) rfl (fun _ => ?_) (fun e => by cases e) | refine Z8f (t := false) rfl (fun e => by cases e) (fun _ => ?_)))
      (refine Z9y (keep := [0, 5, 7, 14, 15, 16]) ?_; ((repeat (first | refine Z9v rfl ?_ | refine Z9w ?_)); refine Z9u ?_))
      exact next out hM _
    | false =>
      rw [if_neg (by rw [hh]; simp)] at hM
      rw [← hM]
      (repeat (first | refine st_q rfl rfl rfl ?_ | refine Z8v rfl (st_q rfl rfl rfl ?_) | refine Z8w rfl ?_ | refine Z8x rfl ?_ | (refine Z8y ?_; (repeat (first | refine Z9v rfl ?_ | refine Z9w ?_)); refine Z9u ?_) | refine awp_seq ?_ | refine Zbm (fun _ _ => rfl) ?_ | refine Z8h ?_ | refine Zbn (fun _ _ => rfl) ?_ | refine Zbo (fun _ _ => rfl) ?_ | refine Z8f (t := true) rfl (fun _ => ?_) (fun e => by cases e) | refine Z8f (t := false) rfl (fun e => by cases e) (fun _ => ?_)))
      refine Z8d ?_
      exact ares rfl (HSub.refl _) ⟨rfl, rfl⟩
  · (repeat (first | refine st_q rfl rfl rfl ?_ | refine Z8v rfl (st_q rfl rfl rfl ?_) | refine Z8w rfl ?_ | refine Z8x rfl ?_ | (refine Z8y ?_; (repeat (first | refine Z9v rfl ?_ | refine Z9w ?_)); refine Z9u ?_) | refine awp_seq ?_ | refine Zbm (fun _ _ => rfl) ?_ | refine Z8h ?_ | refine Zbn (fun _ _ => rfl) ?_ | refine Zbo (fun _ _ => rfl) ?_ | refine Z8f (t := true) rfl (fun _ => ?_) (fun e => by cases e) | refine Z8f (t := false) rfl (fun e => by cases e) (fun _ => ?_)))
    have e : p.drop i = [] := List.drop_eq_nil_of_le (by omega)
    rw [e, Z189] at hM
    rw [← hM]
    refine Z8d ?_
    exact ares rfl (HSub.refl _) ⟨rfl, rfl⟩
end Go.Abs
namespace Go.Abs
open Go Go.Proofs
set_option linter.unusedVariables false
set_option linter.unusedSimpArgs false
set_option maxHeartbeats 4000000
attribute [local irreducible] AWp aops KP
def okM (l : List Nd) (t : Tm) : Bool :=
  goodF l t.col && (if t.op = 7 ∨ t.op = 8 then Z17r t.v else if 1 ≤ t.op ∧ t.op ≤ 6 then !t.v.null && (match l[t.col.toNat]? with | none => false | some n => decide (vchk (tyN n) t.v = 0)) else false)
def Z18b (l : List Nd) (p : List Tm) : Nat := if 16 < p.length then 1 else if p.all (okM l) = true then 0 else 1
theorem Z18c (l : List Nd) (hw : WfN l) (hok : ∀ n ∈ l, Zlt n.t.kind = true → (tyN n).Ok) (f e : Bool) (p : List Tm) (hfit : ∀ t ∈ p, t.v.Fit) (σ : Zc) :
    Z1q Try.prog Zdh [.slc 8 (l.map encN) f, .slc 7 (p.map encM) e] σ fun r σ' => r = .int .i64 (Z18b l p : Int) ∧ σ' = σ := by
  have hpl : (p.map encM).length = p.length := List.length_map ..
  refine Z8t rfl Z17h (Nat.le_of_ble_eq_true rfl) ?_
  (repeat (first | refine st_q rfl rfl rfl ?_ | refine Z8v rfl (st_q rfl rfl rfl ?_) | refine Z8w rfl ?_ | refine Z8x rfl ?_ | (refine Z8y ?_; (repeat (first | refine Z9v rfl ?_ | refine Z9w ?_)); refine Z9u ?_) | refine awp_seq ?_ | refine Zbm (fun _ _ => rfl) ?_ | refine Z8h ?_ | refine Zbn (fun _ _ => rfl) ?_ | refine Zbo (fun _ _ => rfl) ?_ | refine Z8f (t := true) rfl (fun _ => ?_) (fun e => by cases e) | refine Z8f (t := false) rfl (fun e => by cases e) (fun _ => ?_)))
  rw [hpl]
  by_cases h16 : 16 < p.length
  · rw [Z18b, if_pos h16]
    (rw [show decide ((p.length : Int) > 16) = true from decide_eq_true (by omega)])
    (repeat (first | refine st_q rfl rfl rfl ?_ | refine Z8v rfl (st_q rfl rfl rfl ?_) | refine Z8w rfl ?_ | refine Z8x rfl ?_ | (refine Z8y ?_; (repeat (first | refine Z9v rfl ?_ | refine Z9w ?_)); refine Z9u ?_) | refine awp_seq ?_ | refine Zbm (fun _ _ => rfl) ?_ | refine Z8h ?_ | refine Zbn (fun _ _ => rfl) ?_ | refine Zbo (fun _ _ => rfl) ?_ | refine Z8f (t := true) rfl (fun _ => ?_) (fun e => by cases e) | refine Z8f (t := false) rfl (fun e => by cases e) (fun _ => ?_)))
    refine Z8d ?_
    exact ares rfl (HSub.refl _) ⟨rfl, rfl⟩
  rw [Z18b, if_neg h16]
  (rw [show decide ((p.length : Int) > 16) = false from decide_eq_false (by omega)])
  (repeat (first | refine st_q rfl rfl rfl ?_ | refine Z8v rfl (st_q rfl rfl rfl ?_) | refine Z8w rfl ?_ | refine Z8x rfl ?_ | (refine Z8y ?_; (repeat (first | refine Z9v rfl ?_ | refine Z9w ?_)); refine Z9u ?_) | refine awp_seq ?_ | refine Zbm (fun _ _ => rfl) ?_ | refine Z8h ?_ | refine Zbn (fun _ _ => rfl) ?_ | refine Zbo (fun _ _ => rfl) ?_ | refine Z8f (t := true) rfl (fun _ => ?_) (fun e => by cases e) | refine Z8f (t := false) rfl (fun e => by cases e) (fun _ => ?_)))
  rw [hpl]
  generalize hX : (if p.all (okM l) = true then 0 else 1 : Nat) = X
  obtain ⟨I, hI⟩ : ∃ I : Nat → Z26 → Zc → Prop, I = fun m F σ' => ∃ i : Nat, F = fset 0 (some (.slc 8 (l.map encN) f)) (fset 11 (some (.slc 7 (p.map encM) e)) (fset 12 (some (.int .i64 p.length)) (fset 13 (some (.int .i64 i)) Z27))) ∧ σ = σ' ∧ i ≤ p.length ∧ m = p.length - i ∧ (if (p.drop i).all (okM l) = true then 0 else 1 : Nat) = X := ⟨_, rfl⟩
  refine Zaa I (n := p.length) (by rw [hI]; exact ⟨0, rfl, rfl, by omega, by omega, by rw [List.drop_zero]; exact hX⟩) ?_
  intro m F σ' hIm
  rw [hI] at hIm
  obtain ⟨i, rfl, rfl, hi, rfl, hM⟩ := hIm
  (repeat (first | refine st_q rfl rfl rfl ?_ | refine Z8v rfl (st_q rfl rfl rfl ?_) | refine Z8w rfl ?_ | refine Z8x rfl ?_ | (refine Z8y ?_; (repeat (first | refine Z9v rfl ?_ | refine Z9w ?_)); refine Z9u ?_) | refine awp_seq ?_ | refine Zbm (fun _ _ => rfl) ?_ | refine Z8h ?_ | refine Zbn (fun _ _ => rfl) ?_ | refine Zbo (fun _ _ => rfl) ?_ | refine Z8f (t := true) rfl (fun _ => ?_) (fun e => by cases e) | refine Z8f (t := false) rfl (fun e => by cases e) (fun _ => ?_)))
  refine Za3 (p := (i : Int) < (p.length : Int)) rfl (fun h3 => ?_) (fun h3 => ?_)
  · have hil : i < p.length := by omega
    have hti : p[i]? = some p[i] := List.getElem?_eq_getElem hil
    have hx := Z187 (i := (i : Int)) (show p[(i : Int).toNat]? = some p[i] from hti)
    have hft := hfit p[i] (List.getElem_mem hil)
    rw [List.drop_eq_getElem_cons hil, List.all_cons] at hM
    generalize p[i] = t at hx hM hft
    have hgd := fun τ => Z17w l hw f t.col τ
    have hno := fun τ => Z17s t.v τ
    obtain ⟨tc, op, tv⟩ := t
    simp only at *
    rw [encM, Z17q, Zm6] at hx
    simp only at hx
    rw [Zm7] at hno
    have next : okM l ⟨tc, op, tv⟩ = true → ∀ Q : Z87, AWp Try.prog Z150.n (.region Z14x [0, 11, 12, 13]) (Za9 I (p.length - i) Q)
        (fset 0 (some (.slc 8 (l.map encN) f)) (fset 11 (some (.slc 7 (p.map encM) e)) (fset 12 (some (.int .i64 p.length)) (fset 13 (some (.int .i64 i)) Z27)))) σ := fun ho Q => by
      rw [ho, Bool.true_and] at hM
      refine Zbp ?_
      (repeat (refine st_q rfl rfl rfl ?_))
      rw [show IntKind.wrap .i64 ((i : Int) + 1) = ((i + 1 : Nat) : Int) by rw [w64 _ (by omega) (by omega)]; omega]
      (repeat (refine st_q rfl rfl rfl ?_))
      (refine Z8y ?_; (repeat (first | refine Z9v rfl ?_ | refine Z9w ?_)); refine Z9u ?_)
      refine ⟨_, p.length - (i + 1), HSub.refl _, ?_, by omega⟩
      rw [hI]
      exact ⟨i + 1, rfl, rfl, by omega, rfl, hM⟩
    have bad : okM l ⟨tc, op, tv⟩ = false → 1 = X := fun h => by
      rw [h, Bool.false_and, if_neg (by simp)] at hM
      exact hM
    (repeat (first | refine st_q rfl rfl rfl ?_ | refine Z8v rfl (st_q rfl rfl rfl ?_) | refine Z8w rfl ?_ | refine Z8x rfl ?_ | (refine Z8y ?_; (repeat (first | refine Z9v rfl ?_ | refine Z9w ?_)); refine Z9u ?_) | refine awp_seq ?_ | refine Zbm (fun _ _ => rfl) ?_ | refine Z8h ?_ | refine Zbn (fun _ _ => rfl) ?_ | refine Zbo (fun _ _ => rfl) ?_ | refine Z8f (t := true) rfl (fun _ => ?_) (fun e => by cases e) | refine Z8f (t := false) rfl (fun e => by cases e) (fun _ => ?_)))
    refine Z93 rfl (by omega) hx ?_
    (repeat (first | refine st_q rfl rfl rfl ?_ | refine Z8v rfl (st_q rfl rfl rfl ?_) | refine Z8w rfl ?_ | refine Z8x rfl ?_ | (refine Z8y ?_; (repeat (first | refine Z9v rfl ?_ | refine Z9w ?_)); refine Z9u ?_) | refine awp_seq ?_ | refine Zbm (fun _ _ => rfl) ?_ | refine Z8h ?_ | refine Zbn (fun _ _ => rfl) ?_ | refine Zbo (fun _ _ => rfl) ?_ | refine Z8f (t := true) rfl (fun _ => ?_) (fun e => by cases e) | refine Z8f (t := false) rfl (fun e => by cases e) (fun _ => ?_)))
    refine Z9k (by simp [Z0.cells, Z0.one]) fun b hb => ?_
    refine Z9a rfl Z8z rfl (by decide) (Z0.fit_iff.1 rfl) (fun h => by cases h) Z9b ?_
    (repeat (refine st_q rfl rfl rfl ?_))
    (refine Z8y ?_; (repeat (first | refine Z9v rfl ?_ | refine Z9w ?_)); refine Z9u ?_)
    refine Zb3 (d := 6) (cs := [.int .i64 tc, .int .i64 op, .bool tv.null, .int .i64 tv.i, .int .i64 tv.n, .slc 1 (bytes tv.b) false, .slc 5 (Zm5 tv.kids) false]) rfl ?_
    (refine Z9y (keep := [0, 6, 11, 12, 13]) ?_; ((repeat (first | refine Z9v rfl ?_ | refine Z9w ?_)); refine Z9u ?_))
    (repeat (first | refine st_q rfl rfl rfl ?_ | refine Z8v rfl (st_q rfl rfl rfl ?_) | refine Z8w rfl ?_ | refine Z8x rfl ?_ | (refine Z8y ?_; (repeat (first | refine Z9v rfl ?_ | refine Z9w ?_)); refine Z9u ?_) | refine awp_seq ?_ | refine Zbm (fun _ _ => rfl) ?_ | refine Z8h ?_ | refine Zbn (fun _ _ => rfl) ?_ | refine Zbo (fun _ _ => rfl) ?_ | refine Z8f (t := true) rfl (fun _ => ?_) (fun e => by cases e) | refine Z8f (t := false) rfl (fun e => by cases e) (fun _ => ?_)))
    refine Z9t rfl (hgd _) ?_
    cases hgc : goodF l tc with
    | false =>
      rw [← bad (by rw [okM]; simp only [hgc, Bool.false_and])]
      (repeat (first | refine st_q rfl rfl rfl ?_ | refine Z8v rfl (st_q rfl rfl rfl ?_) | refine Z8w rfl ?_ | refine Z8x rfl ?_ | (refine Z8y ?_; (repeat (first | refine Z9v rfl ?_ | refine Z9w ?_)); refine Z9u ?_) | refine awp_seq ?_ | refine Zbm (fun _ _ => rfl) ?_ | refine Z8h ?_ | refine Zbn (fun _ _ => rfl) ?_ | refine Zbo (fun _ _ => rfl) ?_ | refine Z8f (t := true) rfl (fun _ => ?_) (fun e => by cases e) | refine Z8f (t := false) rfl (fun e => by cases e) (fun _ => ?_)))
      refine Z8d ?_
      exact ares rfl (HSub.refl _) ⟨rfl, rfl⟩
    | true =>
    obtain ⟨k0, k1⟩ := Z181 hgc
    obtain ⟨n, hn⟩ : ∃ n, l[tc.toNat]? = some n := ⟨_, List.getElem?_eq_getElem (by omega)⟩
    have hleaf : Zlt n.t.kind = true := by
      rw [goodF, if_neg (by omega), hn] at hgc
      simp only [Bool.and_eq_true] at hgc
      exact hgc.1
    have hokn := hok n (List.mem_of_getElem? hn) hleaf
    have hchk := fun τ => Z138 tv hft (tyN n) hokn τ
    rw [Zm7] at hchk
    have hom : okM l ⟨tc, op, tv⟩ = (if op = 7 ∨ op = 8 then Z17r tv else if 1 ≤ op ∧ op ≤ 6 then !tv.null && decide (vchk (tyN n) tv = 0) else false) := by
      rw [okM]
      simp only [hgc, hn, Bool.true_and]
    by_cases q7 : op = 7
    · rw [if_pos (.inl q7)] at hom
      subst q7
      (repeat (first | refine st_q rfl rfl rfl ?_ | refine Z8v rfl (st_q rfl rfl rfl ?_) | refine Z8w rfl ?_ | refine Z8x rfl ?_ | (refine Z8y ?_; (repeat (first | refine Z9v rfl ?_ | refine Z9w ?_)); refine Z9u ?_) | refine awp_seq ?_ | refine Zbm (fun _ _ => rfl) ?_ | refine Z8h ?_ | refine Zbn (fun _ _ => rfl) ?_ | refine Zbo (fun _ _ => rfl) ?_ | refine Z8f (t := true) rfl (fun _ => ?_) (fun e => by cases e) | refine Z8f (t := false) rfl (fun e => by cases e) (fun _ => ?_)))
      refine Z9t rfl (hno _) ?_
      cases hnn : Z17r tv with
      | true =>
        (repeat (first | refine st_q rfl rfl rfl ?_ | refine Z8v rfl (st_q rfl rfl rfl ?_) | refine Z8w rfl ?_ | refine Z8x rfl ?_ | (refine Z8y ?_; (repeat (first | refine Z9v rfl ?_ | refine Z9w ?_)); refine Z9u ?_) | refine awp_seq ?_ | refine Zbm (fun _ _ => rfl) ?_ | refine Z8h ?_ | refine Zbn (fun _ _ => rfl) ?_ | refine Zbo (fun _ _ => rfl) ?_ | refine Z8f (t := true) rfl (fun _ => ?_) (fun e => by cases e) | refine Z8f (t := false) rfl (fun e => by cases e) (fun _ => ?_)))
        (refine Z9y (keep := [0, 11, 12, 13]) ?_; ((repeat (first | refine Z9v rfl ?_ | refine Z9w ?_)); refine Z9u ?_))
        exact next (by rw [hom, hnn]) _
      | false =>
        rw [← bad (by rw [hom, hnn])]
        (repeat (first | refine st_q rfl rfl rfl ?_ | refine Z8v rfl (st_q rfl rfl rfl ?_) | refine Z8w rfl ?_ | refine Z8x rfl ?_ | (refine Z8y ?_; (repeat (first | refine Z9v rfl ?_ | refine Z9w ?_)); refine Z9u ?_) | refine awp_seq ?_ | refine Zbm (fun _ _ => rfl) ?_ | refine Z8h ?_ | refine Zbn (fun _ _ => rfl) ?_ | refine Zbo (fun _ _ => rfl) ?_ | refine Z8f (t := true) rfl (fun _ => ?_) (fun e => by cases e) | refine Z8f (t := false) rfl (fun e => by cases e) (fun _ => ?_)))
        refine Z8d ?_
        exact ares rfl (HSub.refl _) ⟨rfl, rfl⟩
    by_cases q8 : op = 8
    · rw [if_pos (.inr q8)] at hom
      subst q8
      (repeat (first | refine st_q rfl rfl rfl ?_ | refine Z8v rfl (st_q rfl rfl rfl ?_) | refine Z8w rfl ?_ | refine Z8x rfl ?_ | (refine Z8y ?_; (repeat (first | refine Z9v rfl ?_ | refine Z9w ?_)); refine Z9u ?_) | refine awp_seq ?_ | refine Zbm (fun _ _ => rfl) ?_ | refine Z8h ?_ | refine Zbn (fun _ _ => rfl) ?_ | refine Zbo (fun _ _ => rfl) ?_ | refine Z8f (t := true) rfl (fun _ => ?_) (fun e => by cases e) | refine Z8f (t := false) rfl (fun e => by cases e) (fun _ => ?_)))
      refine Z9t rfl (hno _) ?_
      cases hnn : Z17r tv with
      | true =>
        (repeat (first | refine st_q rfl rfl rfl ?_ | refine Z8v rfl (st_q rfl rfl rfl ?_) | refine Z8w rfl ?_ | refine Z8x rfl ?_ | (refine Z8y ?_; (repeat (first | refine Z9v rfl ?_ | refine Z9w ?_)); refine Z9u ?_) | refine awp_seq ?_ | refine Zbm (fun _ _ => rfl) ?_ | refine Z8h ?_ | refine Zbn (fun _ _ => rfl) ?_ | refine Zbo (fun _ _ => rfl) ?_ | refine Z8f (t := true) rfl (fun _ => ?_) (fun e => by cases e) | refine Z8f (t := false) rfl (fun e => by cases e) (fun _ => ?_)))
        (refine Z9y (keep := [0, 11, 12, 13]) ?_; ((repeat (first | refine Z9v rfl ?_ | refine Z9w ?_)); refine Z9u ?_))
        exact next (by rw [hom, hnn]) _
      | false =>
        rw [← bad (by rw [hom, hnn])]
        (repeat (first | refine st_q rfl rfl rfl ?_ | refine Z8v rfl (st_q rfl rfl rfl ?_) | refine Z8w rfl ?_ | refine Z8x rfl ?_ | (refine Z8y ?_; (repeat (first | refine Z9v rfl ?_ | refine Z9w ?_)); refine Z9u ?_) | refine awp_seq ?_ | refine Zbm (fun _ _ => rfl) ?_ | refine Z8h ?_ | refine Zbn (fun _ _ => rfl) ?_ | refine Zbo (fun _ _ => rfl) ?_ | refine Z8f (t := true) rfl (fun _ => ?_) (fun e => by cases e) | refine Z8f (t := false) rfl (fun e => by cases e) (fun _ => ?_)))
        refine Z8d ?_
        exact ares rfl (HSub.refl _) ⟨rfl, rfl⟩
    rw [if_neg (by omega)] at hom
    by_cases hop : 1 ≤ op ∧ op ≤ 6
    · rw [if_pos hop] at hom
      have h6 : op = 1 ∨ op = 2 ∨ op = 3 ∨ op = 4 ∨ op = 5 ∨ op = 6 := by omega
      rcases h6 with rfl | rfl | rfl | rfl | rfl | rfl
      all_goals
        (repeat (first | refine st_q rfl rfl rfl ?_ | refine Z8v rfl (st_q rfl rfl rfl ?_) | refine Z8w rfl ?_ | refine Z8x rfl ?_ | (refine Z8y ?_; (repeat (first | refine Z9v rfl ?_ | refine Z9w ?_)); refine Z9u ?_) | refine awp_seq ?_ | refine Zbm (fun _ _ => rfl) ?_ | refine Z8h ?_ | refine Zbn (fun _ _ => rfl) ?_ | refine Zbo (fun _ _ => rfl) ?_ | refine Z8f (t := true) rfl (fun _ => ?_) (fun e => by cases e) | refine Z8f (t := false) rfl (fun e => by cases e) (fun _ => ?_)))
        cases hvn : tv.null with
        | true =>
          rw [hvn] at hom
          rw [← bad (by rw [hom]; rfl)]
          (repeat (first | refine st_q rfl rfl rfl ?_ | refine Z8v rfl (st_q rfl rfl rfl ?_) | refine Z8w rfl ?_ | refine Z8x rfl ?_ | (refine Z8y ?_; (repeat (first | refine Z9v rfl ?_ | refine Z9w ?_)); refine Z9u ?_) | refine awp_seq ?_ | refine Zbm (fun _ _ => rfl) ?_ | refine Z8h ?_ | refine Zbn (fun _ _ => rfl) ?_ | refine Zbo (fun _ _ => rfl) ?_ | refine Z8f (t := true) rfl (fun _ => ?_) (fun e => by cases e) | refine Z8f (t := false) rfl (fun e => by cases e) (fun _ => ?_)))
          refine Z8d ?_
          exact ares rfl (HSub.refl _) ⟨rfl, rfl⟩
        | false =>
          rw [hvn] at hom
          simp only [Zm6, hvn] at hchk
          (repeat (first | refine st_q rfl rfl rfl ?_ | refine Z8v rfl (st_q rfl rfl rfl ?_) | refine Z8w rfl ?_ | refine Z8x rfl ?_ | (refine Z8y ?_; (repeat (first | refine Z9v rfl ?_ | refine Z9w ?_)); refine Z9u ?_) | refine awp_seq ?_ | refine Zbm (fun _ _ => rfl) ?_ | refine Z8h ?_ | refine Zbn (fun _ _ => rfl) ?_ | refine Zbo (fun _ _ => rfl) ?_ | refine Z8f (t := true) rfl (fun _ => ?_) (fun e => by cases e) | refine Z8f (t := false) rfl (fun e => by cases e) (fun _ => ?_)))
          refine Z8v rfl (Z93 rfl k0 (Z17u hn) ?_)
          rw [encN, Zm2]
          (repeat (first | refine st_q rfl rfl rfl ?_ | refine Z8v rfl (st_q rfl rfl rfl ?_) | refine Z8w rfl ?_ | refine Z8x rfl ?_ | (refine Z8y ?_; (repeat (first | refine Z9v rfl ?_ | refine Z9w ?_)); refine Z9u ?_) | refine awp_seq ?_ | refine Zbm (fun _ _ => rfl) ?_ | refine Z8h ?_ | refine Zbn (fun _ _ => rfl) ?_ | refine Zbo (fun _ _ => rfl) ?_ | refine Z8f (t := true) rfl (fun _ => ?_) (fun e => by cases e) | refine Z8f (t := false) rfl (fun e => by cases e) (fun _ => ?_)))
          refine Z8v rfl (Zbw rfl (fun τ => c_typ n τ) ?_)
          (repeat (first | refine st_q rfl rfl rfl ?_ | refine Z8v rfl (st_q rfl rfl rfl ?_) | refine Z8w rfl ?_ | refine Z8x rfl ?_ | (refine Z8y ?_; (repeat (first | refine Z9v rfl ?_ | refine Z9w ?_)); refine Z9u ?_) | refine awp_seq ?_ | refine Zbm (fun _ _ => rfl) ?_ | refine Z8h ?_ | refine Zbn (fun _ _ => rfl) ?_ | refine Zbo (fun _ _ => rfl) ?_ | refine Z8f (t := true) rfl (fun _ => ?_) (fun e => by cases e) | refine Z8f (t := false) rfl (fun e => by cases e) (fun _ => ?_)))
          refine Z8v rfl (Z9t rfl (hchk _) ?_)
          (repeat (first | refine st_q rfl rfl rfl ?_ | refine Z8v rfl (st_q rfl rfl rfl ?_) | refine Z8w rfl ?_ | refine Z8x rfl ?_ | (refine Z8y ?_; (repeat (first | refine Z9v rfl ?_ | refine Z9w ?_)); refine Z9u ?_) | refine awp_seq ?_ | refine Zbm (fun _ _ => rfl) ?_ | refine Z8h ?_ | refine Zbn (fun _ _ => rfl) ?_ | refine Zbo (fun _ _ => rfl) ?_ | refine Z8f (t := true) rfl (fun _ => ?_) (fun e => by cases e) | refine Z8f (t := false) rfl (fun e => by cases e) (fun _ => ?_)))
          by_cases hv0 : vchk (tyN n) tv = 0
          · (rw [show decide ((vchk (tyN n) tv : Int) = 0) = true from decide_eq_true (by omega)])
            (repeat (first | refine st_q rfl rfl rfl ?_ | refine Z8v rfl (st_q rfl rfl rfl ?_) | refine Z8w rfl ?_ | refine Z8x rfl ?_ | (refine Z8y ?_; (repeat (first | refine Z9v rfl ?_ | refine Z9w ?_)); refine Z9u ?_) | refine awp_seq ?_ | refine Zbm (fun _ _ => rfl) ?_ | refine Z8h ?_ | refine Zbn (fun _ _ => rfl) ?_ | refine Zbo (fun _ _ => rfl) ?_ | refine Z8f (t := true) rfl (fun _ => ?_) (fun e => by cases e) | refine Z8f (t := false) rfl (fun e => by cases e) (fun _ => ?_)))
            (refine Z9y (keep := [0, 11, 12, 13]) ?_; ((repeat (first | refine Z9v rfl ?_ | refine Z9w ?_)); refine Z9u ?_))
            exact next (by rw [hom, decide_eq_true hv0]; rfl) _
          · (rw [show decide ((vchk (tyN n) tv : Int) = 0) = false from decide_eq_false (by omega)])
            rw [← bad (by rw [hom, decide_eq_false hv0]; rfl)]
            (repeat (first | refine st_q rfl rfl rfl ?_ | refine Z8v rfl (st_q rfl rfl rfl ?_) | refine Z8w rfl ?_ | refine Z8x rfl ?_ | (refine Z8y ?_; (repeat (first | refine Z9v rfl ?_ | refine Z9w ?_)); refine Z9u ?_) | refine awp_seq ?_ | refine Zbm (fun _ _ => rfl) ?_ | refine Z8h ?_ | refine Zbn (fun _ _ => rfl) ?_ | refine Zbo (fun _ _ => rfl) ?_ | refine Z8f (t := true) rfl (fun _ => ?_) (fun e => by cases e) | refine Z8f (t := false) rfl (fun e => by cases e) (fun _ => ?_)))
            refine Z8d ?_
            exact ares rfl (HSub.refl _) ⟨rfl, rfl⟩
    rw [if_neg (by omega)] at hom
    rw [← bad hom]
    (repeat (first | refine st_q rfl rfl rfl ?_ | refine Z8v rfl (st_q rfl rfl rfl ?_) | refine Z8w rfl ?_ | refine Z8x rfl ?_ | (refine Z8y ?_; (repeat (first | refine Z9v rfl ?_ | refine Z9w ?_)); refine Z9u ?_) | refine awp_seq ?_ | refine Zbm (fun _ _ => rfl) ?_ | refine Z8h ?_ | refine Zbn (fun _ _ => rfl) ?_ | refine Zbo (fun _ _ => rfl) ?_ | refine Z8f (t := true) rfl (fun _ => ?_) (fun e => by cases e) | refine Z8f (t := false) rfl (fun e => by cases e) (fun _ => ?_)))
    (rw [show decide (op = 7) = false from decide_eq_false (by omega)])
    (repeat (first | refine st_q rfl rfl rfl ?_ | refine Z8v rfl (st_q rfl rfl rfl ?_) | refine Z8w rfl ?_ | refine Z8x rfl ?_ | (refine Z8y ?_; (repeat (first | refine Z9v rfl ?_ | refine Z9w ?_)); refine Z9u ?_) | refine awp_seq ?_ | refine Zbm (fun _ _ => rfl) ?_ | refine Z8h ?_ | refine Zbn (fun _ _ => rfl) ?_ | refine Zbo (fun _ _ => rfl) ?_ | refine Z8f (t := true) rfl (fun _ => ?_) (fun e => by cases e) | refine Z8f (t := false) rfl (fun e => by cases e) (fun _ => ?_)))
    (rw [show decide (op = 8) = false from decide_eq_false (by omega)])
    (repeat (first | refine st_q rfl rfl rfl ?_ | refine Z8v rfl (st_q rfl rfl rfl ?_) | refine Z8w rfl ?_ | refine Z8x rfl ?_ | (refine Z8y ?_; (repeat (first | refine Z9v rfl ?_ | refine Z9w ?_)); refine Z9u ?_) | refine awp_seq ?_ | refine Zbm (fun _ _ => rfl) ?_ | refine Z8h ?_ | refine Zbn (fun _ _ => rfl) ?_ | refine Zbo (fun _ _ => rfl) ?_ | refine Z8f (t := true) rfl (fun _ => ?_) (fun e => by cases e) | refine Z8f (t := false) rfl (fun e => by cases e) (fun _ => ?_)))
    (rw [show decide (op = 1) = false from decide_eq_false (by omega)])
    (repeat (first | refine st_q rfl rfl rfl ?_ | refine Z8v rfl (st_q rfl rfl rfl ?_) | refine Z8w rfl ?_ | refine Z8x rfl ?_ | (refine Z8y ?_; (repeat (first | refine Z9v rfl ?_ | refine Z9w ?_)); refine Z9u ?_) | refine awp_seq ?_ | refine Zbm (fun _ _ => rfl) ?_ | refine Z8h ?_ | refine Zbn (fun _ _ => rfl) ?_ | refine Zbo (fun _ _ => rfl) ?_ | refine Z8f (t := true) rfl (fun _ => ?_) (fun e => by cases e) | refine Z8f (t := false) rfl (fun e => by cases e) (fun _ => ?_)))
    (rw [show decide (op = 2) = false from decide_eq_false (by omega)])
    (repeat (first | refine st_q rfl rfl rfl ?_ | refine Z8v rfl (st_q rfl rfl rfl ?_) | refine Z8w rfl ?_ | refine Z8x rfl ?_ | (refine Z8y ?_; (repeat (first | refine Z9v rfl ?_ | refine Z9w ?_)); refine Z9u ?_) | refine awp_seq ?_ | refine Zbm (fun _ _ => rfl) ?_ | refine Z8h ?_ | refine Zbn (fun _ _ => rfl) ?_ | refine Zbo (fun _ _ => rfl) ?_ | refine Z8f (t := true) rfl (fun _ => ?_) (fun e => by cases e) | refine Z8f (t := false) rfl (fun e => by cases e) (fun _ => ?_)))
    (rw [show decide (op = 3) = false from decide_eq_false (by omega)])
    (repeat (first | refine st_q rfl rfl rfl ?_ | refine Z8v rfl (st_q rfl rfl rfl ?_) | refine Z8w rfl ?_ | refine Z8x rfl ?_ | (refine Z8y ?_; (repeat (first | refine Z9v rfl ?_ | refine Z9w ?_)); refine Z9u ?_) | refine awp_seq ?_ | refine Zbm (fun _ _ => rfl) ?_ | refine Z8h ?_ | refine Zbn (fun _ _ => rfl) ?_ | refine Zbo (fun _ _ => rfl) ?_ | refine Z8f (t := true) rfl (fun _ => ?_) (fun e => by cases e) | refine Z8f (t := false) rfl (fun e => by cases e) (fun _ => ?_)))
    (rw [show decide (op = 4) = false from decide_eq_false (by omega)])
    (repeat (first | refine st_q rfl rfl rfl ?_ | refine Z8v rfl (st_q rfl rfl rfl ?_) | refine Z8w rfl ?_ | refine Z8x rfl ?_ | (refine Z8y ?_; (repeat (first | refine Z9v rfl ?_ | refine Z9w ?_)); refine Z9u ?_) | refine awp_seq ?_ | refine Zbm (fun _ _ => rfl) ?_ | refine Z8h ?_ | refine Zbn (fun _ _ => rfl) ?_ | refine Zbo (fun _ _ => rfl) ?_ | refine Z8f (t := true) rfl (fun _ => ?_) (fun e => by cases e) | refine Z8f (t := false) rfl (fun e => by cases e) (fun _ => ?_)))
    (rw [show decide (op = 5) = false from decide_eq_false (by omega)])
    (repeat (first | refine st_q rfl rfl rfl ?_ | refine Z8v rfl (st_q rfl rfl rfl ?_) | refine Z8w rfl ?_ | refine Z8x rfl ?_ | (refine Z8y ?_; (repeat (first | refine Z9v rfl ?_ | refine Z9w ?_)); refine Z9u ?_) | refine awp_seq ?_ | refine Zbm (fun _ _ => rfl) ?_ | refine Z8h ?_ | refine Zbn (fun _ _ => rfl) ?_ | refine Zbo (fun _ _ => rfl) ?_ | refine Z8f (t := true) rfl (fun _ => ?_) (fun e => by cases e) | refine Z8f (t := false) rfl (fun e => by cases e) (fun _ => ?_)))
    (rw [show decide (op = 6) = false from decide_eq_false (by omega)])
    (repeat (first | refine st_q rfl rfl rfl ?_ | refine Z8v rfl (st_q rfl rfl rfl ?_) | refine Z8w rfl ?_ | refine Z8x rfl ?_ | (refine Z8y ?_; (repeat (first | refine Z9v rfl ?_ | refine Z9w ?_)); refine Z9u ?_) | refine awp_seq ?_ | refine Zbm (fun _ _ => rfl) ?_ | refine Z8h ?_ | refine Zbn (fun _ _ => rfl) ?_ | refine Zbo (fun _ _ => rfl) ?_ | refine Z8f (t := true) rfl (fun _ => ?_) (fun e => by cases e) | refine Z8f (t := false) rfl (fun e => by cases e) (fun _ => ?_)))
    refine Z8d ?_
    exact ares rfl (HSub.refl _) ⟨rfl, rfl⟩
  · (repeat (first | refine st_q rfl rfl rfl ?_ | refine Z8v rfl (st_q rfl rfl rfl ?_) | refine Z8w rfl ?_ | refine Z8x rfl ?_ | (refine Z8y ?_; (repeat (first | refine Z9v rfl ?_ | refine Z9w ?_)); refine Z9u ?_) | refine awp_seq ?_ | refine Zbm (fun _ _ => rfl) ?_ | refine Z8h ?_ | refine Zbn (fun _ _ => rfl) ?_ | refine Zbo (fun _ _ => rfl) ?_ | refine Z8f (t := true) rfl (fun _ => ?_) (fun e => by cases e) | refine Z8f (t := false) rfl (fun e => by cases e) (fun _ => ?_)))
    have e : p.drop i = [] := List.drop_eq_nil_of_le (by omega)
    rw [e, List.all_nil, if_pos rfl] at hM
    rw [← hM]
    refine Z8d ?_
    exact ares rfl (HSub.refl _) ⟨rfl, rfl⟩
end Go.Abs

