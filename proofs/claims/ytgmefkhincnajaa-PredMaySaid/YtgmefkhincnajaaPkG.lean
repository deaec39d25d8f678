/- Part G of a proof: merged by program. -/
import Derived.Test.YtgmefkhincnajaaPkE
import Derived.Test.YtgmefkhincnajaaProg
import Derived.KernelRfl
namespace Go.Abs
open Go
def Z151 : List Z2a := [
  ⟨some 4, .mov, [.c (.bool false)], none⟩]
def Z152 : List Z2a := [
  ⟨some 6, .mov, [.t 1], none⟩,
  ⟨some 7, (.bin .lss), [.t 6, .c (.int .i64 0)], none⟩,
  ⟨some 8, .mov, [.t 7], none⟩,
  ⟨some 9, .mov, [.t 1], some (8, false)⟩,
  ⟨some 10, .mov, [.t 0], some (8, false)⟩,
  ⟨some 11, .lens, [.t 10], some (8, false)⟩,
  ⟨some 12, (.bin .geq), [.t 9, .t 11], some (8, false)⟩,
  ⟨some 13, .pick, [.t 8, .c (.bool true), .t 12], none⟩,
  ⟨some 14, .mov, [.t 13], none⟩,
  ⟨some 15, .mov, [.t 0], some (14, false)⟩,
  ⟨some 16, .mov, [.t 1], some (14, false)⟩,
  ⟨some 17, (.iad 8), [.t 15, .t 16], some (14, false)⟩,
  ⟨some 18, (.fad 0), [.t 17], some (14, false)⟩,
  ⟨some 19, (.load false 1), [.t 18], some (14, false)⟩,
  ⟨some 20, (.call Zfd), [.t 19], some (14, false)⟩,
  ⟨some 21, .unot, [.t 20], some (14, false)⟩,
  ⟨some 22, .pick, [.t 14, .c (.bool true), .t 21], none⟩]
def Z153 : List Z2a := [
  ⟨some 4, .mov, [.c (.bool false)], none⟩]
def Z154 : List Z2a := [
  ⟨some 23, .mov, [.t 0], none⟩,
  ⟨some 24, .mov, [.t 1], none⟩,
  ⟨some 25, (.iad 8), [.t 23, .t 24], none⟩,
  ⟨some 26, (.fad 6), [.t 25], none⟩,
  ⟨some 27, (.load false 1), [.t 26], none⟩,
  ⟨some 5, .mov, [.t 27], none⟩]
def Z155 : List Z2a := [
  ⟨some 28, .mov, [.t 5], none⟩,
  ⟨some 29, (.bin .geq), [.t 28, .c (.int .i64 0)], none⟩,
  ⟨some 30, .mov, [.t 29], none⟩,
  ⟨some 31, .mov, [.t 5], some (30, true)⟩,
  ⟨some 32, .mov, [.t 0], some (30, true)⟩,
  ⟨some 33, .lens, [.t 32], some (30, true)⟩,
  ⟨some 34, (.bin .lss), [.t 31, .t 33], some (30, true)⟩,
  ⟨some 35, .pick, [.t 30, .t 34, .c (.bool false)], none⟩]
def Z156 : List Z2a := [
  ⟨some 41, .mov, [.t 0], none⟩,
  ⟨some 42, .mov, [.t 5], none⟩,
  ⟨some 43, (.iad 8), [.t 41, .t 42], none⟩,
  ⟨some 44, (.fad 0), [.t 43], none⟩,
  ⟨some 45, (.load false 1), [.t 44], none⟩,
  ⟨some 46, (.bin .neq), [.t 45, .c (.int .i64 12)], none⟩]
def Z157 : List Z2a := [
  ⟨some 4, .mov, [.c (.bool false)], none⟩]
def Z158 : List Z2a := [
  ⟨some 36, .mov, [.t 0], none⟩,
  ⟨some 37, .mov, [.t 5], none⟩,
  ⟨some 38, (.iad 8), [.t 36, .t 37], none⟩,
  ⟨some 39, (.fad 6), [.t 38], none⟩,
  ⟨some 40, (.load false 1), [.t 39], none⟩,
  ⟨some 5, .mov, [.t 40], none⟩]
def Z159 : Z2b := (.seq (.seq (.region Z155 [0, 5, 35]) (.cond (.t 35) .skip (.exit 0))) (.seq (.block 1 (.seq (.region Z156 [0, 5, 46]) (.cond (.t 46) (.seq (.region Z157 [4]) .ret) .skip))) (.region Z158 [0, 5])))
def Z15a : List Z2a := [
  ⟨some 4, .mov, [.c (.bool true)], none⟩]
def Z15b : Z2y := ⟨47, (.seq (.region Z151 [0, 1]) (.seq (.seq (.region Z152 [0, 1, 22]) (.cond (.t 22) (.seq (.region Z153 [4]) .ret) .skip)) (.seq (.seq (.region Z154 [0, 5]) (.block 0 (.loop Z159))) (.seq (.region Z15a [4]) .ret)))), [.t 4]⟩
def Z15v : List Z2a := [
  ⟨some 5, (.box 5), [.t 2], none⟩,
  ⟨some 6, (.alloc (.agg [(.bool false), (.int .i64 0), (.int .i64 0), (.slc 0 [] true), (.slc 0 [] true)])), [], none⟩]
def Z15w : List Z2a := [
  ⟨some 9, .mov, [.t 0], none⟩,
  ⟨some 10, .mov, [.t 1], none⟩,
  ⟨some 11, (.iad 8), [.t 9, .t 10], none⟩,
  ⟨some 12, (.fad 6), [.t 11], none⟩,
  ⟨some 13, (.load false 1), [.t 12], none⟩,
  ⟨some 14, (.bin .lss), [.t 13, .c (.int .i64 0)], none⟩]
def Z15x : List Z2a := [
  ⟨some 15, (.load true 5), [.t 5], none⟩,
  ⟨none, (.store 5), [.t 6, .t 15], none⟩]
def Z15y : List Z2a := [
  ⟨some 16, .mov, [.t 0], none⟩,
  ⟨some 17, .mov, [.t 0], none⟩,
  ⟨some 18, .mov, [.t 1], none⟩,
  ⟨some 19, (.iad 8), [.t 17, .t 18], none⟩,
  ⟨some 20, (.fad 6), [.t 19], none⟩,
  ⟨some 21, (.load false 1), [.t 20], none⟩,
  ⟨some 22, (.load true 5), [.t 5], none⟩,
  ⟨some 23, (.callp Zek), [.t 16, .t 21, .t 22], none⟩,
  ⟨some 7, (.alloc (.agg [(.bool false), (.int .i64 0), (.int .i64 0), (.slc 0 [] true), (.slc 0 [] true)])), [], none⟩,
  ⟨none, (.store 5), [.t 7, .t 23], none⟩]
def Z15z : List Z2a := [
  ⟨some 24, .mov, [.t 0], none⟩,
  ⟨some 25, .mov, [.t 1], none⟩,
  ⟨some 26, (.call Zfh), [.t 24, .t 25], none⟩,
  ⟨some 8, .mov, [.t 26], none⟩]
def Z160 : List Z2a := [
  ⟨some 27, (.fad 0), [.t 7], none⟩,
  ⟨some 28, (.load false 1), [.t 27], none⟩,
  ⟨some 29, .unot, [.t 28], none⟩,
  ⟨some 30, .mov, [.t 29], none⟩,
  ⟨some 31, .mov, [.t 8], some (30, true)⟩,
  ⟨some 32, (.bin .geq), [.t 31, .c (.int .i64 0)], some (30, true)⟩,
  ⟨some 33, .pick, [.t 30, .t 32, .c (.bool false)], none⟩,
  ⟨some 34, .mov, [.t 33], none⟩,
  ⟨some 35, .mov, [.t 8], some (34, true)⟩,
  ⟨some 36, (.fad 4), [.t 7], some (34, true)⟩,
  ⟨some 37, (.load false 1), [.t 36], some (34, true)⟩,
  ⟨some 38, .lens, [.t 37], some (34, true)⟩,
  ⟨some 39, (.bin .lss), [.t 35, .t 38], some (34, true)⟩,
  ⟨some 40, .pick, [.t 34, .t 39, .c (.bool false)], none⟩]
def Z161 : List Z2a := [
  ⟨some 41, (.fad 4), [.t 7], none⟩,
  ⟨some 42, (.load false 1), [.t 41], none⟩,
  ⟨some 43, .mov, [.t 8], none⟩,
  ⟨some 44, (.iad 5), [.t 42, .t 43], none⟩,
  ⟨some 45, (.load true 5), [.t 44], none⟩,
  ⟨none, (.store 5), [.t 6, .t 45], none⟩]
def Z162 : List Z2a := [
  ⟨some 46, (.bld [(.bool false), (.int .i64 0), (.int .i64 0), (.slc 0 [] true), (.slc 0 [] true)] [(0, 1)]), [.c (.bool true)], none⟩,
  ⟨none, (.store 5), [.t 6, .t 46], none⟩]
def Z163 : Z2y := ⟨47, (.seq (.region Z15v [0, 1, 5, 6]) (.seq (.seq (.region Z15w [0, 1, 5, 6, 14]) (.cond (.t 14) (.seq (.region Z15x [6]) .ret) .skip)) (.seq (.region Z15y [0, 1, 6, 7]) (.seq (.seq (.region Z15z [6, 7, 8]) (.seq (.region Z160 [6, 7, 8, 40]) (.cond (.t 40) (.seq (.region Z161 [6]) .ret) .skip))) (.seq (.region Z162 [6]) .ret))))), [.cell 6 true 5]⟩
def Z164 : List Z2a := [
  ⟨some 1, (.box 8), [.t 0], none⟩,
  ⟨some 2, (.alloc (.agg [(.int .i64 0), (.slc 0 [] true), (.slc 0 [] true), (.int .i64 0), (.int .i64 0), (.int .i64 0)])), [], none⟩]
def Z165 : List Z2a := [
  ⟨some 3, (.fad 0), [.t 1], none⟩,
  ⟨some 4, (.load false 1), [.t 3], none⟩,
  ⟨some 5, (.fad 3), [.t 1], none⟩,
  ⟨some 6, (.load false 1), [.t 5], none⟩,
  ⟨some 7, (.fad 4), [.t 1], none⟩,
  ⟨some 8, (.load false 1), [.t 7], none⟩,
  ⟨some 9, (.fad 5), [.t 1], none⟩,
  ⟨some 10, (.load false 1), [.t 9], none⟩,
  ⟨some 11, (.bld [(.int .i64 0), (.slc 0 [] true), (.slc 0 [] true), (.int .i64 0), (.int .i64 0), (.int .i64 0)] [(0, 1), (3, 1), (4, 1), (5, 1)]), [.t 4, .t 6, .t 8, .t 10], none⟩,
  ⟨none, (.store 6), [.t 2, .t 11], none⟩]
def Z166 : Z2y := ⟨12, (.seq (.region Z164 [1, 2]) (.seq (.region Z165 [2]) .ret)), [.cell 2 true 6]⟩
def Z167 : List Z2a := [
  ⟨some 4, .mov, [.c (.bool false)], none⟩]
def Z168 : List Z2a := [
  ⟨some 5, .mov, [.t 0], none⟩]
def Z169 : List Z2a := [
  ⟨some 7, (.bin .eql), [.t 5, .c (.int .i64 1)], none⟩,
  ⟨some 6, .mov, [.t 7], none⟩]
def Z16a : List Z2a := [
  ⟨some 8, .mov, [.t 1], none⟩,
  ⟨some 9, (.bin .eql), [.t 8, .c (.int .i64 0)], none⟩,
  ⟨some 4, .mov, [.t 9], none⟩]
def Z16b : List Z2a := [
  ⟨some 11, (.bin .eql), [.t 5, .c (.int .i64 2)], none⟩,
  ⟨some 10, .mov, [.t 11], none⟩]
def Z16c : List Z2a := [
  ⟨some 12, .mov, [.t 1], none⟩,
  ⟨some 13, (.bin .neq), [.t 12, .c (.int .i64 0)], none⟩,
  ⟨some 4, .mov, [.t 13], none⟩]
def Z16d : List Z2a := [
  ⟨some 15, (.bin .eql), [.t 5, .c (.int .i64 3)], none⟩,
  ⟨some 14, .mov, [.t 15], none⟩]
def Z16e : List Z2a := [
  ⟨some 16, .mov, [.t 1], none⟩,
  ⟨some 17, (.bin .lss), [.t 16, .c (.int .i64 0)], none⟩,
  ⟨some 4, .mov, [.t 17], none⟩]
def Z16f : List Z2a := [
  ⟨some 19, (.bin .eql), [.t 5, .c (.int .i64 4)], none⟩,
  ⟨some 18, .mov, [.t 19], none⟩]
def Z16g : List Z2a := [
  ⟨some 20, .mov, [.t 1], none⟩,
  ⟨some 21, (.bin .leq), [.t 20, .c (.int .i64 0)], none⟩,
  ⟨some 4, .mov, [.t 21], none⟩]
def Z16h : List Z2a := [
  ⟨some 23, (.bin .eql), [.t 5, .c (.int .i64 5)], none⟩,
  ⟨some 22, .mov, [.t 23], none⟩]
def Z16i : List Z2a := [
  ⟨some 24, .mov, [.t 1], none⟩,
  ⟨some 25, (.bin .gtr), [.t 24, .c (.int .i64 0)], none⟩,
  ⟨some 4, .mov, [.t 25], none⟩]
def Z16j : List Z2a := [
  ⟨some 26, .mov, [.t 1], none⟩,
  ⟨some 27, (.bin .geq), [.t 26, .c (.int .i64 0)], none⟩,
  ⟨some 4, .mov, [.t 27], none⟩]
def Z16k : Z2y := ⟨28, (.seq (.region Z167 [0, 1]) (.seq (.seq (.region Z168 [1, 5]) (.block 0 (.seq (.region Z169 [1, 5, 6]) (.cond (.t 6) (.seq (.region Z16a [4]) .ret) (.seq (.region Z16b [1, 5, 10]) (.cond (.t 10) (.seq (.region Z16c [4]) .ret) (.seq (.region Z16d [1, 5, 14]) (.cond (.t 14) (.seq (.region Z16e [4]) .ret) (.seq (.region Z16f [1, 5, 18]) (.cond (.t 18) (.seq (.region Z16g [4]) .ret) (.seq (.region Z16h [1, 22]) (.cond (.t 22) (.seq (.region Z16i [4]) .ret) .skip)))))))))))) (.seq (.region Z16j [4]) .ret))), [.t 4]⟩
def Z16l : List Z2a := [
  ⟨some 1, (.box 5), [.t 0], none⟩,
  ⟨some 2, .mov, [.c (.bool false)], none⟩]
def Z16m : List Z2a := [
  ⟨some 3, (.fad 0), [.t 1], none⟩,
  ⟨some 4, (.load false 1), [.t 3], none⟩,
  ⟨some 5, .unot, [.t 4], none⟩,
  ⟨some 6, .mov, [.t 5], none⟩,
  ⟨some 7, (.fad 1), [.t 1], some (6, true)⟩,
  ⟨some 8, (.load false 1), [.t 7], some (6, true)⟩,
  ⟨some 9, (.bin .eql), [.t 8, .c (.int .i64 0)], some (6, true)⟩,
  ⟨some 10, .pick, [.t 6, .t 9, .c (.bool false)], none⟩,
  ⟨some 11, .mov, [.t 10], none⟩,
  ⟨some 12, (.fad 2), [.t 1], some (11, true)⟩,
  ⟨some 13, (.load false 1), [.t 12], some (11, true)⟩,
  ⟨some 14, (.bin .eql), [.t 13, .c (.int .i64 0)], some (11, true)⟩,
  ⟨some 15, .pick, [.t 11, .t 14, .c (.bool false)], none⟩,
  ⟨some 16, .mov, [.t 15], none⟩,
  ⟨some 17, (.fad 3), [.t 1], some (16, true)⟩,
  ⟨some 18, (.load false 1), [.t 17], some (16, true)⟩,
  ⟨some 19, .lens, [.t 18], some (16, true)⟩,
  ⟨some 20, (.bin .eql), [.t 19, .c (.int .i64 0)], some (16, true)⟩,
  ⟨some 21, .pick, [.t 16, .t 20, .c (.bool false)], none⟩,
  ⟨some 22, .mov, [.t 21], none⟩,
  ⟨some 23, (.fad 4), [.t 1], some (22, true)⟩,
  ⟨some 24, (.load false 1), [.t 23], some (22, true)⟩,
  ⟨some 25, .lens, [.t 24], some (22, true)⟩,
  ⟨some 26, (.bin .eql), [.t 25, .c (.int .i64 0)], some (22, true)⟩,
  ⟨some 27, .pick, [.t 22, .t 26, .c (.bool false)], none⟩,
  ⟨some 2, .mov, [.t 27], none⟩]
def Z16n : Z2y := ⟨28, (.seq (.region Z16l [1]) (.seq (.region Z16m [2]) .ret)), [.t 2]⟩
def Z174 : List Z2a := [
  ⟨some 4, .mov, [.c (.int .i64 0)], none⟩]
def Z175 : List Z2a := [
  ⟨some 7, .mov, [.t 0], none⟩,
  ⟨some 8, .mov, [.t 0], none⟩,
  ⟨some 9, .mov, [.t 1], none⟩,
  ⟨some 10, (.iad 8), [.t 8, .t 9], none⟩,
  ⟨some 11, (.fad 6), [.t 10], none⟩,
  ⟨some 12, (.load false 1), [.t 11], none⟩,
  ⟨some 13, (.iad 8), [.t 7, .t 12], none⟩,
  ⟨some 14, (.fad 1), [.t 13], none⟩,
  ⟨some 15, (.load false 1), [.t 14], none⟩,
  ⟨some 16, .lens, [.t 15], none⟩,
  ⟨some 17, .mov, [.c (.int .i64 0)], none⟩]
def Z176 : List Z2a := [
  ⟨some 18, (.bin .lss), [.t 17, .t 16], none⟩]
def Z177 : List Z2a := [
  ⟨some 19, .mov, [.t 17], none⟩,
  ⟨some 20, (.iad 1), [.t 15, .t 17], none⟩,
  ⟨some 21, (.load false 1), [.t 20], none⟩,
  ⟨some 5, .mov, [.t 19], none⟩,
  ⟨some 6, .mov, [.t 21], none⟩]
def Z178 : List Z2a := [
  ⟨some 22, .mov, [.t 6], none⟩,
  ⟨some 23, .mov, [.t 1], none⟩,
  ⟨some 24, (.bin .eql), [.t 22, .t 23], none⟩]
def Z179 : List Z2a := [
  ⟨some 25, .mov, [.t 5], none⟩,
  ⟨some 4, .mov, [.t 25], none⟩]
def Z17a : List Z2a := [
  ⟨some 26, (.bin .add), [.t 17, .c (.int .i64 1)], none⟩,
  ⟨some 17, .mov, [.t 26], none⟩]
def Z17b : Z2b := (.seq (.region Z176 [1, 15, 16, 17, 18]) (.seq (.cond (.t 18) .skip (.exit 0)) (.seq (.block 1 (.seq (.region Z177 [1, 5, 6, 15, 16, 17]) (.seq (.region Z178 [1, 5, 15, 16, 17, 24]) (.cond (.t 24) (.seq (.region Z179 [4]) .ret) .skip)))) (.region Z17a [1, 15, 16, 17]))))
def Z17c : List Z2a := [
  ⟨some 4, .mov, [.c (.int .i64 (-1))], none⟩]
def Z17d : Z2y := ⟨27, (.seq (.region Z174 [0, 1]) (.seq (.seq (.region Z175 [1, 15, 16, 17]) (.block 0 (.loop Z17b))) (.seq (.region Z17c [4]) .ret))), [.t 4]⟩
def Zyw : List Z2a := [
  ⟨some 2, (.box 6), [.t 0], none⟩,
  ⟨some 3, (.box 5), [.t 1], none⟩,
  ⟨some 4, .mov, [.c (.int .i64 0)], none⟩]
def Zyx : List Z2a := [
  ⟨some 12, (.load true 6), [.t 2], none⟩,
  ⟨some 13, (.load true 5), [.t 3], none⟩,
  ⟨some 14, (.call Zfs), [.t 12, .t 13], none⟩,
  ⟨some 15, .unot, [.t 14], none⟩,
  ⟨some 16, .mov, [.t 15], none⟩,
  ⟨some 17, (.fad 0), [.t 3], some (16, false)⟩,
  ⟨some 18, (.load false 1), [.t 17], some (16, false)⟩,
  ⟨some 19, .unot, [.t 18], some (16, false)⟩,
  ⟨some 20, .mov, [.t 19], some (16, false)⟩,
  ⟨some 21, (.load true 6), [.t 2], some (20, true)⟩,
  ⟨some 22, (.load true 5), [.t 3], some (20, true)⟩,
  ⟨some 23, (.call Zft), [.t 21, .t 22], some (20, true)⟩,
  ⟨some 24, .unot, [.t 23], some (20, true)⟩,
  ⟨some 25, .pick, [.t 20, .t 24, .c (.bool false)], some (16, false)⟩,
  ⟨some 26, .pick, [.t 16, .c (.bool true), .t 25], none⟩,
  ⟨some 11, .mov, [.t 26], none⟩]
def Zyy : List Z2a := [
  ⟨some 4, .mov, [.c (.int .i64 1)], none⟩]
def Zyz : List Z2a := [
  ⟨some 28, (.fad 0), [.t 3], none⟩,
  ⟨some 29, (.load false 1), [.t 28], none⟩,
  ⟨some 27, .mov, [.t 29], none⟩]
def Zz0 : List Z2a := [
  ⟨some 4, .mov, [.c (.int .i64 0)], none⟩]
def Zz1 : List Z2a := [
  ⟨some 31, (.load true 6), [.t 2], none⟩,
  ⟨some 32, (.load true 5), [.t 3], none⟩,
  ⟨some 33, (.call Zfu), [.t 31, .t 32], none⟩,
  ⟨some 30, .mov, [.t 33], none⟩]
def Zz2 : List Z2a := [
  ⟨some 4, .mov, [.c (.int .i64 4)], none⟩]
def Zz3 : List Z2a := [
  ⟨some 34, (.load true 6), [.t 2], none⟩,
  ⟨some 35, (.load true 5), [.t 3], none⟩,
  ⟨some 36, (.call Zfv), [.t 34, .t 35], none⟩,
  ⟨some 5, .mov, [.t 36], none⟩]
def Zz4 : List Z2a := [
  ⟨some 37, .mov, [.t 5], none⟩,
  ⟨some 38, (.bin .neq), [.t 37, .c (.int .i64 0)], none⟩]
def Zz5 : List Z2a := [
  ⟨some 39, .mov, [.t 5], none⟩,
  ⟨some 4, .mov, [.t 39], none⟩]
def Zz6 : List Z2a := [
  ⟨some 40, (.fad 4), [.t 3], none⟩,
  ⟨some 41, (.load false 1), [.t 40], none⟩,
  ⟨some 42, .lens, [.t 41], none⟩,
  ⟨some 43, .mov, [.c (.int .i64 0)], none⟩]
def Zz7 : List Z2a := [
  ⟨some 44, (.bin .lss), [.t 43, .t 42], none⟩]
def Zz8 : List Z2a := [
  ⟨some 45, .mov, [.t 43], none⟩,
  ⟨some 46, (.iad 5), [.t 41, .t 43], none⟩,
  ⟨some 47, (.load true 5), [.t 46], none⟩,
  ⟨some 7, (.alloc (.agg [(.bool false), (.int .i64 0), (.int .i64 0), (.slc 0 [] true), (.slc 0 [] true)])), [], none⟩,
  ⟨some 6, .mov, [.t 45], none⟩,
  ⟨none, (.store 5), [.t 7, .t 47], none⟩]
def Zz9 : List Z2a := [
  ⟨some 49, (.load true 6), [.t 2], none⟩,
  ⟨some 50, (.load true 5), [.t 3], none⟩,
  ⟨some 51, .mov, [.t 6], none⟩,
  ⟨some 52, (.call Zfw), [.t 49, .t 50, .t 51], none⟩,
  ⟨some 48, .mov, [.t 52], none⟩,
  ⟨some 53, (.ext 0), [.t 48], none⟩,
  ⟨some 54, (.ext 1), [.t 48], none⟩,
  ⟨some 8, (.alloc (.agg [(.int .i64 0), (.slc 0 [] true), (.slc 0 [] true), (.int .i64 0), (.int .i64 0), (.int .i64 0)])), [], none⟩,
  ⟨none, (.store 6), [.t 8, .t 53], none⟩,
  ⟨some 9, .mov, [.t 54], none⟩]
def Zza : List Z2a := [
  ⟨some 55, .mov, [.t 9], none⟩,
  ⟨some 56, .unot, [.t 55], none⟩,
  ⟨some 57, .mov, [.t 56], none⟩,
  ⟨some 58, (.fad 0), [.t 2], some (57, false)⟩,
  ⟨some 59, (.load false 1), [.t 58], some (57, false)⟩,
  ⟨some 60, (.bin .eql), [.t 59, .c (.int .i64 11)], some (57, false)⟩,
  ⟨some 61, .mov, [.t 60], some (57, false)⟩,
  ⟨some 62, .mov, [.t 6], some (61, true)⟩,
  ⟨some 63, (.bin .rem), [.t 62, .c (.int .i64 2)], some (61, true)⟩,
  ⟨some 64, (.bin .eql), [.t 63, .c (.int .i64 0)], some (61, true)⟩,
  ⟨some 65, .pick, [.t 61, .t 64, .c (.bool false)], some (57, false)⟩,
  ⟨some 66, .mov, [.t 65], some (57, false)⟩,
  ⟨some 67, (.fad 0), [.t 7], some (66, true)⟩,
  ⟨some 68, (.load false 1), [.t 67], some (66, true)⟩,
  ⟨some 69, .pick, [.t 66, .t 68, .c (.bool false)], some (57, false)⟩,
  ⟨some 70, .pick, [.t 57, .c (.bool true), .t 69], none⟩]
def Zzb : List Z2a := [
  ⟨some 4, .mov, [.c (.int .i64 1)], none⟩]
def Zzc : List Z2a := [
  ⟨some 71, (.load true 6), [.t 8], none⟩,
  ⟨some 72, (.load true 5), [.t 7], none⟩,
  ⟨some 73, (.call Zet), [.t 71, .t 72], none⟩,
  ⟨some 10, .mov, [.t 73], none⟩]
def Zzd : List Z2a := [
  ⟨some 74, .mov, [.t 10], none⟩,
  ⟨some 75, (.bin .neq), [.t 74, .c (.int .i64 0)], none⟩]
def Zze : List Z2a := [
  ⟨some 76, .mov, [.t 10], none⟩,
  ⟨some 4, .mov, [.t 76], none⟩]
def Zzf : List Z2a := [
  ⟨some 77, (.bin .add), [.t 43, .c (.int .i64 1)], none⟩,
  ⟨some 43, .mov, [.t 77], none⟩]
def Zzg : Z2b := (.seq (.region Zz7 [2, 3, 41, 42, 43, 44]) (.seq (.cond (.t 44) .skip (.exit 1)) (.seq (.block 2 (.seq (.region Zz8 [2, 3, 6, 7, 41, 42, 43]) (.seq (.region Zz9 [2, 3, 6, 7, 8, 9, 41, 42, 43]) (.seq (.seq (.region Zza [2, 3, 7, 8, 41, 42, 43, 70]) (.cond (.t 70) (.seq (.region Zzb [4]) .ret) .skip)) (.seq (.region Zzc [2, 3, 10, 41, 42, 43]) (.seq (.region Zzd [2, 3, 10, 41, 42, 43, 75]) (.cond (.t 75) (.seq (.region Zze [4]) .ret) .skip))))))) (.region Zzf [2, 3, 41, 42, 43]))))
def Zzh : List Z2a := [
  ⟨some 4, .mov, [.c (.int .i64 0)], none⟩]
def Zzi : Z2y := ⟨78, (.seq (.region Zyw [2, 3]) (.seq (.block 0 (.seq (.region Zyx [2, 3, 11]) (.cond (.t 11) (.seq (.region Zyy [4]) .ret) (.seq (.region Zyz [2, 3, 27]) (.cond (.t 27) (.seq (.region Zz0 [4]) .ret) (.seq (.region Zz1 [2, 3, 30]) (.cond (.t 30) (.seq (.region Zz2 [4]) .ret) .skip))))))) (.seq (.seq (.region Zz3 [2, 3, 5]) (.seq (.region Zz4 [2, 3, 5, 38]) (.cond (.t 38) (.seq (.region Zz5 [4]) .ret) .skip))) (.seq (.seq (.region Zz6 [2, 3, 41, 42, 43]) (.block 1 (.loop Zzg))) (.seq (.region Zzh [4]) .ret))))), [.t 4]⟩
def Zzj : List Z2a := [
  ⟨some 2, (.box 6), [.t 0], none⟩,
  ⟨some 3, (.box 5), [.t 1], none⟩,
  ⟨some 4, .mov, [.c (.bool false)], none⟩]
def Zzk : List Z2a := [
  ⟨some 5, (.fad 0), [.t 3], none⟩,
  ⟨some 6, (.load false 1), [.t 5], none⟩]
def Zzl : List Z2a := [
  ⟨some 7, (.fad 1), [.t 3], none⟩,
  ⟨some 8, (.load false 1), [.t 7], none⟩,
  ⟨some 9, (.bin .eql), [.t 8, .c (.int .i64 0)], none⟩,
  ⟨some 10, .mov, [.t 9], none⟩,
  ⟨some 11, (.fad 2), [.t 3], some (10, true)⟩,
  ⟨some 12, (.load false 1), [.t 11], some (10, true)⟩,
  ⟨some 13, (.bin .eql), [.t 12, .c (.int .i64 0)], some (10, true)⟩,
  ⟨some 14, .pick, [.t 10, .t 13, .c (.bool false)], none⟩,
  ⟨some 15, .mov, [.t 14], none⟩,
  ⟨some 16, (.fad 3), [.t 3], some (15, true)⟩,
  ⟨some 17, (.load false 1), [.t 16], some (15, true)⟩,
  ⟨some 18, .lens, [.t 17], some (15, true)⟩,
  ⟨some 19, (.bin .eql), [.t 18, .c (.int .i64 0)], some (15, true)⟩,
  ⟨some 20, .pick, [.t 15, .t 19, .c (.bool false)], none⟩,
  ⟨some 21, .mov, [.t 20], none⟩,
  ⟨some 22, (.fad 4), [.t 3], some (21, true)⟩,
  ⟨some 23, (.load false 1), [.t 22], some (21, true)⟩,
  ⟨some 24, .lens, [.t 23], some (21, true)⟩,
  ⟨some 25, (.bin .eql), [.t 24, .c (.int .i64 0)], some (21, true)⟩,
  ⟨some 26, .pick, [.t 21, .t 25, .c (.bool false)], none⟩,
  ⟨some 4, .mov, [.t 26], none⟩]
def Zzm : List Z2a := [
  ⟨some 27, (.fad 2), [.t 3], none⟩,
  ⟨some 28, (.load false 1), [.t 27], none⟩,
  ⟨some 29, (.bin .eql), [.t 28, .c (.int .i64 0)], none⟩,
  ⟨some 30, .mov, [.t 29], none⟩,
  ⟨some 31, (.fad 0), [.t 2], some (30, false)⟩,
  ⟨some 32, (.load false 1), [.t 31], some (30, false)⟩,
  ⟨some 33, (.bin .eql), [.t 32, .c (.int .i64 9)], some (30, false)⟩,
  ⟨some 34, .pick, [.t 30, .c (.bool true), .t 33], none⟩,
  ⟨some 35, .mov, [.t 34], none⟩,
  ⟨some 36, (.fad 3), [.t 3], some (35, true)⟩,
  ⟨some 37, (.load false 1), [.t 36], some (35, true)⟩,
  ⟨some 38, .lens, [.t 37], some (35, true)⟩,
  ⟨some 39, (.bin .eql), [.t 38, .c (.int .i64 0)], some (35, true)⟩,
  ⟨some 40, .mov, [.t 39], some (35, true)⟩,
  ⟨some 41, (.fad 0), [.t 2], some (40, false)⟩,
  ⟨some 42, (.load false 1), [.t 41], some (40, false)⟩,
  ⟨some 43, (.call Zfi), [.t 42], some (40, false)⟩,
  ⟨some 44, .pick, [.t 40, .c (.bool true), .t 43], some (35, true)⟩,
  ⟨some 45, .pick, [.t 35, .t 44, .c (.bool false)], none⟩,
  ⟨some 46, .mov, [.t 45], none⟩,
  ⟨some 47, (.fad 4), [.t 3], some (46, true)⟩,
  ⟨some 48, (.load false 1), [.t 47], some (46, true)⟩,
  ⟨some 49, .lens, [.t 48], some (46, true)⟩,
  ⟨some 50, (.bin .eql), [.t 49, .c (.int .i64 0)], some (46, true)⟩,
  ⟨some 51, .mov, [.t 50], some (46, true)⟩,
  ⟨some 52, (.fad 0), [.t 2], some (51, false)⟩,
  ⟨some 53, (.load false 1), [.t 52], some (51, false)⟩,
  ⟨some 54, (.call Zfd), [.t 53], some (51, false)⟩,
  ⟨some 55, .unot, [.t 54], some (51, false)⟩,
  ⟨some 56, .pick, [.t 51, .c (.bool true), .t 55], some (46, true)⟩,
  ⟨some 57, .pick, [.t 46, .t 56, .c (.bool false)], none⟩,
  ⟨some 4, .mov, [.t 57], none⟩]
def Zzn : Z2y := ⟨58, (.seq (.region Zzj [2, 3]) (.seq (.seq (.region Zzk [2, 3, 6]) (.cond (.t 6) (.seq (.region Zzl [4]) .ret) .skip)) (.seq (.region Zzm [4]) .ret))), [.t 4]⟩
def Zzo : List Z2a := [
  ⟨some 2, (.box 6), [.t 0], none⟩,
  ⟨some 3, (.box 5), [.t 1], none⟩,
  ⟨some 4, .mov, [.c (.bool false)], none⟩]
def Zzp : List Z2a := [
  ⟨some 5, (.fad 0), [.t 2], none⟩,
  ⟨some 6, (.load false 1), [.t 5], none⟩]
def Zzq : List Z2a := [
  ⟨some 8, (.bin .eql), [.t 6, .c (.int .i64 0)], none⟩,
  ⟨some 7, .mov, [.t 8], none⟩]
def Zzr : List Z2a := [
  ⟨some 9, (.fad 1), [.t 3], none⟩,
  ⟨some 10, (.load false 1), [.t 9], none⟩,
  ⟨some 11, (.bin .eql), [.t 10, .c (.int .i64 0)], none⟩,
  ⟨some 12, .mov, [.t 11], none⟩,
  ⟨some 13, (.fad 1), [.t 3], some (12, false)⟩,
  ⟨some 14, (.load false 1), [.t 13], some (12, false)⟩,
  ⟨some 15, (.bin .eql), [.t 14, .c (.int .i64 1)], some (12, false)⟩,
  ⟨some 16, .pick, [.t 12, .c (.bool true), .t 15], none⟩,
  ⟨some 4, .mov, [.t 16], none⟩]
def Zzs : List Z2a := [
  ⟨some 18, (.bin .eql), [.t 6, .c (.int .i64 1)], none⟩,
  ⟨some 17, .mov, [.t 18], none⟩]
def Zzt : List Z2a := [
  ⟨some 19, (.fad 1), [.t 3], none⟩,
  ⟨some 20, (.load false 1), [.t 19], none⟩,
  ⟨some 21, (.call Zgb), [.t 20, .c (.int .i64 8)], none⟩,
  ⟨some 4, .mov, [.t 21], none⟩]
def Zzu : List Z2a := [
  ⟨some 23, (.bin .eql), [.t 6, .c (.int .i64 2)], none⟩,
  ⟨some 22, .mov, [.t 23], none⟩]
def Zzv : List Z2a := [
  ⟨some 24, (.fad 1), [.t 3], none⟩,
  ⟨some 25, (.load false 1), [.t 24], none⟩,
  ⟨some 26, (.call Zgb), [.t 25, .c (.int .i64 16)], none⟩,
  ⟨some 4, .mov, [.t 26], none⟩]
def Zzw : List Z2a := [
  ⟨some 28, (.bin .eql), [.t 6, .c (.int .i64 3)], none⟩,
  ⟨some 27, .mov, [.t 28], none⟩]
def Zzx : List Z2a := [
  ⟨some 29, (.bin .eql), [.t 6, .c (.int .i64 15)], none⟩,
  ⟨some 27, .mov, [.t 29], none⟩]
def Zzy : List Z2a := [
  ⟨some 30, (.fad 1), [.t 3], none⟩,
  ⟨some 31, (.load false 1), [.t 30], none⟩,
  ⟨some 32, (.call Zgb), [.t 31, .c (.int .i64 32)], none⟩,
  ⟨some 4, .mov, [.t 32], none⟩]
def Zzz : List Z2a := [
  ⟨some 34, (.bin .eql), [.t 6, .c (.int .i64 4)], none⟩,
  ⟨some 33, .mov, [.t 34], none⟩]
def Z100 : List Z2a := [
  ⟨some 4, .mov, [.c (.bool true)], none⟩]
def Z101 : List Z2a := [
  ⟨some 36, (.bin .eql), [.t 6, .c (.int .i64 14)], none⟩,
  ⟨some 35, .mov, [.t 36], none⟩]
def Z102 : List Z2a := [
  ⟨some 37, (.fad 1), [.t 3], none⟩,
  ⟨some 38, (.load false 1), [.t 37], none⟩,
  ⟨some 39, (.callp Zgc), [.t 38], none⟩,
  ⟨some 40, (.fad 4), [.t 2], none⟩,
  ⟨some 41, (.load false 1), [.t 40], none⟩,
  ⟨some 42, (.bin .leq), [.t 39, .t 41], none⟩,
  ⟨some 4, .mov, [.t 42], none⟩]
def Z103 : List Z2a := [
  ⟨some 44, (.bin .eql), [.t 6, .c (.int .i64 9)], none⟩,
  ⟨some 43, .mov, [.t 44], none⟩]
def Z104 : List Z2a := [
  ⟨some 45, (.fad 1), [.t 3], none⟩,
  ⟨some 46, (.load false 1), [.t 45], none⟩,
  ⟨some 47, (.fad 2), [.t 3], none⟩,
  ⟨some 48, (.load false 1), [.t 47], none⟩,
  ⟨some 49, (.call Zgd), [.t 46, .t 48], none⟩,
  ⟨some 4, .mov, [.t 49], none⟩]
def Z105 : List Z2a := [
  ⟨some 51, (.bin .eql), [.t 6, .c (.int .i64 13)], none⟩,
  ⟨some 50, .mov, [.t 51], none⟩]
def Z106 : List Z2a := [
  ⟨some 52, (.fad 1), [.t 3], none⟩,
  ⟨some 53, (.load false 1), [.t 52], none⟩,
  ⟨some 54, (.bin .geq), [.t 53, .c (.int .i64 0)], none⟩,
  ⟨some 55, .mov, [.t 54], none⟩,
  ⟨some 56, (.fad 1), [.t 3], some (55, true)⟩,
  ⟨some 57, (.load false 1), [.t 56], some (55, true)⟩,
  ⟨some 58, (.fad 2), [.t 2], some (55, true)⟩,
  ⟨some 59, (.load false 1), [.t 58], some (55, true)⟩,
  ⟨some 60, .lens, [.t 59], some (55, true)⟩,
  ⟨some 61, (.bin .lss), [.t 57, .t 60], some (55, true)⟩,
  ⟨some 62, .pick, [.t 55, .t 61, .c (.bool false)], none⟩,
  ⟨some 4, .mov, [.t 62], none⟩]
def Z107 : List Z2a := [
  ⟨some 63, (.fad 1), [.t 3], none⟩,
  ⟨some 64, (.load false 1), [.t 63], none⟩,
  ⟨some 65, (.bin .eql), [.t 64, .c (.int .i64 0)], none⟩,
  ⟨some 4, .mov, [.t 65], none⟩]
def Z108 : Z2y := ⟨66, (.seq (.region Zzo [2, 3]) (.seq (.seq (.region Zzp [2, 3, 6]) (.block 0 (.seq (.region Zzq [2, 3, 6, 7]) (.cond (.t 7) (.seq (.region Zzr [4]) .ret) (.seq (.region Zzs [2, 3, 6, 17]) (.cond (.t 17) (.seq (.region Zzt [4]) .ret) (.seq (.region Zzu [2, 3, 6, 22]) (.cond (.t 22) (.seq (.region Zzv [4]) .ret) (.seq (.seq (.region Zzw [2, 3, 6, 27]) (.cond (.t 27) .skip (.region Zzx [2, 3, 6, 27]))) (.cond (.t 27) (.seq (.region Zzy [4]) .ret) (.seq (.region Zzz [2, 3, 6, 33]) (.cond (.t 33) (.seq (.region Z100 [4]) .ret) (.seq (.region Z101 [2, 3, 6, 35]) (.cond (.t 35) (.seq (.region Z102 [4]) .ret) (.seq (.region Z103 [2, 3, 6, 43]) (.cond (.t 43) (.seq (.region Z104 [4]) .ret) (.seq (.region Z105 [2, 3, 50]) (.cond (.t 50) (.seq (.region Z106 [4]) .ret) .skip)))))))))))))))))) (.seq (.region Z107 [4]) .ret))), [.t 4]⟩
def Z109 : List Z2a := [
  ⟨some 2, (.box 6), [.t 0], none⟩,
  ⟨some 3, (.box 5), [.t 1], none⟩,
  ⟨some 4, .mov, [.c (.bool false)], none⟩]
def Z10a : List Z2a := [
  ⟨some 5, (.fad 0), [.t 2], none⟩,
  ⟨some 6, (.load false 1), [.t 5], none⟩]
def Z10b : List Z2a := [
  ⟨some 8, (.bin .eql), [.t 6, .c (.int .i64 16)], none⟩,
  ⟨some 7, .mov, [.t 8], none⟩]
def Z10c : List Z2a := [
  ⟨some 9, (.bin .eql), [.t 6, .c (.int .i64 17)], none⟩,
  ⟨some 7, .mov, [.t 9], none⟩]
def Z10d : List Z2a := [
  ⟨some 11, (.bin .eql), [.t 6, .c (.int .i64 7)], none⟩,
  ⟨some 10, .mov, [.t 11], none⟩]
def Z10e : List Z2a := [
  ⟨some 12, (.bin .eql), [.t 6, .c (.int .i64 8)], none⟩,
  ⟨some 10, .mov, [.t 12], none⟩]
def Z10f : List Z2a := [
  ⟨some 13, (.fad 3), [.t 3], none⟩,
  ⟨some 14, (.load false 1), [.t 13], none⟩,
  ⟨some 15, (.callp Zge), [.t 14], none⟩,
  ⟨some 16, (.fad 3), [.t 2], none⟩,
  ⟨some 17, (.load false 1), [.t 16], none⟩,
  ⟨some 18, (.bin .gtr), [.t 15, .t 17], none⟩]
def Z10g : List Z2a := [
  ⟨some 4, .mov, [.c (.bool true)], none⟩]
def Z10h : List Z2a := [
  ⟨some 19, (.fad 3), [.t 3], none⟩,
  ⟨some 20, (.load false 1), [.t 19], none⟩,
  ⟨some 21, .lens, [.t 20], none⟩,
  ⟨some 22, (.bin .gtr), [.t 21, .c (.int .i64 4096)], none⟩,
  ⟨some 4, .mov, [.t 22], none⟩]
def Z10i : List Z2a := [
  ⟨some 4, .mov, [.c (.bool false)], none⟩]
def Z10j : Z2y := ⟨23, (.seq (.region Z109 [2, 3]) (.seq (.seq (.region Z10a [2, 3, 6]) (.block 0 (.seq (.block 2 (.seq (.block 1 (.seq (.seq (.seq (.seq (.region Z10b [2, 3, 6, 7]) (.cond (.t 7) .skip (.region Z10c [2, 3, 6, 7]))) (.cond (.t 7) (.exit 1) .skip)) (.seq (.seq (.region Z10d [3, 6, 10]) (.cond (.t 10) .skip (.region Z10e [3, 10]))) (.cond (.t 10) (.exit 2) .skip))) (.exit 0))) (.seq (.region Z10f [3, 18]) (.cond (.t 18) (.seq (.region Z10g [4]) .ret) .skip)))) (.seq (.seq (.region Z10h [4]) .ret) (.exit 0))))) (.seq (.region Z10i [4]) .ret))), [.t 4]⟩
def Z10k : List Z2a := [
  ⟨some 2, (.box 6), [.t 0], none⟩,
  ⟨some 3, (.box 5), [.t 1], none⟩,
  ⟨some 4, .mov, [.c (.int .i64 0)], none⟩]
def Z10l : List Z2a := [
  ⟨some 7, (.fad 4), [.t 3], none⟩,
  ⟨some 8, (.load false 1), [.t 7], none⟩,
  ⟨some 9, .lens, [.t 8], none⟩,
  ⟨some 5, .mov, [.t 9], none⟩,
  ⟨some 6, .mov, [.c (.bool true)], none⟩]
def Z10m : List Z2a := [
  ⟨some 10, (.fad 0), [.t 2], none⟩,
  ⟨some 11, (.load false 1), [.t 10], none⟩]
def Z10n : List Z2a := [
  ⟨some 13, (.bin .eql), [.t 11, .c (.int .i64 11)], none⟩,
  ⟨some 12, .mov, [.t 13], none⟩]
def Z10o : List Z2a := [
  ⟨some 15, (.bin .eql), [.t 11, .c (.int .i64 10)], none⟩,
  ⟨some 14, .mov, [.t 15], none⟩]
def Z10p : List Z2a := [
  ⟨some 17, (.bin .eql), [.t 11, .c (.int .i64 12)], none⟩,
  ⟨some 16, .mov, [.t 17], none⟩]
def Z10q : List Z2a := [
  ⟨some 19, (.bin .eql), [.t 11, .c (.int .i64 13)], none⟩,
  ⟨some 18, .mov, [.t 19], none⟩]
def Z10r : List Z2a := [
  ⟨some 20, .mov, [.t 5], none⟩,
  ⟨some 21, (.bin .rem), [.t 20, .c (.int .i64 2)], none⟩,
  ⟨some 22, (.bin .eql), [.t 21, .c (.int .i64 0)], none⟩,
  ⟨some 23, .mov, [.t 5], none⟩,
  ⟨some 24, (.bin .quo), [.t 23, .c (.int .i64 2)], none⟩,
  ⟨some 6, .mov, [.t 22], none⟩,
  ⟨some 5, .mov, [.t 24], none⟩]
def Z10s : List Z2a := [
  ⟨some 25, .mov, [.t 6], none⟩,
  ⟨some 26, .mov, [.t 25], none⟩,
  ⟨some 27, .mov, [.t 5], some (26, true)⟩,
  ⟨some 28, (.bin .gtr), [.t 27, .c (.int .i64 16384)], some (26, true)⟩,
  ⟨some 29, .pick, [.t 26, .t 28, .c (.bool false)], none⟩]
def Z10t : List Z2a := [
  ⟨some 4, .mov, [.c (.int .i64 4)], none⟩]
def Z10u : List Z2a := [
  ⟨some 30, .mov, [.t 5], none⟩,
  ⟨some 31, (.fad 2), [.t 2], none⟩,
  ⟨some 32, (.load false 1), [.t 31], none⟩,
  ⟨some 33, .lens, [.t 32], none⟩,
  ⟨some 34, (.bin .eql), [.t 30, .t 33], none⟩,
  ⟨some 6, .mov, [.t 34], none⟩]
def Z10v : List Z2a := [
  ⟨some 35, .mov, [.t 5], none⟩,
  ⟨some 36, (.bin .eql), [.t 35, .c (.int .i64 1)], none⟩,
  ⟨some 6, .mov, [.t 36], none⟩]
def Z10w : List Z2a := [
  ⟨some 37, .mov, [.t 6], none⟩,
  ⟨some 38, .unot, [.t 37], none⟩]
def Z10x : List Z2a := [
  ⟨some 4, .mov, [.c (.int .i64 1)], none⟩]
def Z10y : List Z2a := [
  ⟨some 4, .mov, [.c (.int .i64 0)], none⟩]
def Z10z : Z2y := ⟨39, (.seq (.region Z10k [2, 3]) (.seq (.region Z10l [2, 5, 6]) (.seq (.seq (.region Z10m [2, 5, 6, 11]) (.block 0 (.seq (.block 4 (.seq (.block 3 (.seq (.block 2 (.seq (.block 1 (.seq (.seq (.seq (.region Z10n [2, 5, 6, 11, 12]) (.cond (.t 12) (.exit 1) .skip)) (.seq (.seq (.region Z10o [2, 5, 6, 11, 14]) (.cond (.t 14) (.exit 2) .skip)) (.seq (.seq (.region Z10p [2, 5, 6, 11, 16]) (.cond (.t 16) (.exit 3) .skip)) (.seq (.region Z10q [5, 6, 18]) (.cond (.t 18) (.exit 4) .skip))))) (.exit 0))) (.region Z10r [5, 6]))) (.seq (.seq (.region Z10s [6, 29]) (.cond (.t 29) (.seq (.region Z10t [4]) .ret) .skip)) (.exit 0)))) (.seq (.region Z10u [6]) (.exit 0)))) (.seq (.region Z10v [6]) (.exit 0))))) (.seq (.seq (.region Z10w [38]) (.cond (.t 38) (.seq (.region Z10x [4]) .ret) .skip)) (.seq (.region Z10y [4]) .ret))))), [.t 4]⟩
def Z110 : List Z2a := [
  ⟨some 3, (.box 6), [.t 0], none⟩,
  ⟨some 4, (.box 5), [.t 1], none⟩,
  ⟨some 6, (.alloc (.agg [(.int .i64 0), (.slc 0 [] true), (.slc 0 [] true), (.int .i64 0), (.int .i64 0), (.int .i64 0)])), [], none⟩,
  ⟨some 7, .mov, [.c (.bool false)], none⟩]
def Z111 : List Z2a := [
  ⟨some 8, (.fad 0), [.t 3], none⟩,
  ⟨some 9, (.load false 1), [.t 8], none⟩]
def Z112 : List Z2a := [
  ⟨some 11, (.bin .eql), [.t 9, .c (.int .i64 10)], none⟩,
  ⟨some 10, .mov, [.t 11], none⟩]
def Z113 : List Z2a := [
  ⟨some 2, .mov, [.c (.int .i64 0)], none⟩]
def Z114 : List Z2a := [
  ⟨some 13, (.bin .eql), [.t 9, .c (.int .i64 11)], none⟩,
  ⟨some 12, .mov, [.t 13], none⟩]
def Z115 : List Z2a := [
  ⟨some 14, .mov, [.t 2], none⟩,
  ⟨some 15, (.bin .rem), [.t 14, .c (.int .i64 2)], none⟩,
  ⟨some 2, .mov, [.t 15], none⟩]
def Z116 : List Z2a := [
  ⟨some 17, (.bin .eql), [.t 9, .c (.int .i64 13)], none⟩,
  ⟨some 16, .mov, [.t 17], none⟩]
def Z117 : List Z2a := [
  ⟨some 18, (.fad 1), [.t 4], none⟩,
  ⟨some 19, (.load false 1), [.t 18], none⟩,
  ⟨some 20, (.bin .lss), [.t 19, .c (.int .i64 0)], none⟩,
  ⟨some 21, .mov, [.t 20], none⟩,
  ⟨some 22, (.fad 1), [.t 4], some (21, false)⟩,
  ⟨some 23, (.load false 1), [.t 22], some (21, false)⟩,
  ⟨some 24, (.fad 2), [.t 3], some (21, false)⟩,
  ⟨some 25, (.load false 1), [.t 24], some (21, false)⟩,
  ⟨some 26, .lens, [.t 25], some (21, false)⟩,
  ⟨some 27, (.bin .geq), [.t 23, .t 26], some (21, false)⟩,
  ⟨some 28, .pick, [.t 21, .c (.bool true), .t 27], none⟩]
def Z118 : List Z2a := [
  ⟨some 29, (.bld [(.int .i64 0), (.slc 0 [] true), (.slc 0 [] true), (.int .i64 0), (.int .i64 0), (.int .i64 0)] []), [], none⟩,
  ⟨none, (.store 6), [.t 6, .t 29], none⟩,
  ⟨some 7, .mov, [.c (.bool false)], none⟩]
def Z119 : List Z2a := [
  ⟨some 30, (.fad 1), [.t 4], none⟩,
  ⟨some 31, (.load false 1), [.t 30], none⟩,
  ⟨some 2, .mov, [.t 31], none⟩]
def Z11a : List Z2a := [
  ⟨some 32, .mov, [.t 2], none⟩,
  ⟨some 33, (.fad 2), [.t 3], none⟩,
  ⟨some 34, (.load false 1), [.t 33], none⟩,
  ⟨some 35, .lens, [.t 34], none⟩,
  ⟨some 36, (.bin .geq), [.t 32, .t 35], none⟩]
def Z11b : List Z2a := [
  ⟨some 37, (.bld [(.int .i64 0), (.slc 0 [] true), (.slc 0 [] true), (.int .i64 0), (.int .i64 0), (.int .i64 0)] []), [], none⟩,
  ⟨none, (.store 6), [.t 6, .t 37], none⟩,
  ⟨some 7, .mov, [.c (.bool false)], none⟩]
def Z11c : List Z2a := [
  ⟨some 38, (.fad 2), [.t 3], none⟩,
  ⟨some 39, (.load false 1), [.t 38], none⟩,
  ⟨some 40, .mov, [.t 2], none⟩,
  ⟨some 41, (.iad 6), [.t 39, .t 40], none⟩,
  ⟨some 42, (.load true 6), [.t 41], none⟩,
  ⟨none, (.store 6), [.t 6, .t 42], none⟩,
  ⟨some 7, .mov, [.c (.bool true)], none⟩]
def Z11d : Z2y := ⟨43, (.seq (.region Z110 [2, 3, 4, 6]) (.seq (.seq (.region Z111 [2, 3, 4, 6, 9]) (.block 0 (.seq (.region Z112 [2, 3, 4, 6, 9, 10]) (.cond (.t 10) (.region Z113 [2, 3, 6]) (.seq (.region Z114 [2, 3, 4, 6, 9, 12]) (.cond (.t 12) (.region Z115 [2, 3, 6]) (.seq (.region Z116 [2, 3, 4, 6, 16]) (.cond (.t 16) (.seq (.seq (.region Z117 [3, 4, 6, 28]) (.cond (.t 28) (.seq (.region Z118 [6, 7]) .ret) .skip)) (.region Z119 [2, 3, 6])) .skip)))))))) (.seq (.seq (.region Z11a [2, 3, 6, 36]) (.cond (.t 36) (.seq (.region Z11b [6, 7]) .ret) .skip)) (.seq (.region Z11c [6, 7]) .ret)))), [.cell 6 true 6, .t 7]⟩
def Z11e : List Z2a := [
  ⟨some 4, .mov, [.c (.bool false)], none⟩]
def Z11f : List Z2a := [
  ⟨some 5, .mov, [.t 0], none⟩,
  ⟨some 6, .mov, [.t 1], none⟩,
  ⟨some 7, (.bin .sub), [.t 6, .c (.int .i64 1)], none⟩,
  ⟨some 8, (.bin .shl), [.c (.int .i64 (-1)), .t 7], none⟩,
  ⟨some 9, (.bin .geq), [.t 5, .t 8], none⟩,
  ⟨some 10, .mov, [.t 9], none⟩,
  ⟨some 11, .mov, [.t 0], some (10, true)⟩,
  ⟨some 12, .mov, [.t 1], some (10, true)⟩,
  ⟨some 13, (.bin .sub), [.t 12, .c (.int .i64 1)], some (10, true)⟩,
  ⟨some 14, (.bin .shl), [.c (.int .i64 1), .t 13], some (10, true)⟩,
  ⟨some 15, (.bin .sub), [.t 14, .c (.int .i64 1)], some (10, true)⟩,
  ⟨some 16, (.bin .leq), [.t 11, .t 15], some (10, true)⟩,
  ⟨some 17, .pick, [.t 10, .t 16, .c (.bool false)], none⟩,
  ⟨some 4, .mov, [.t 17], none⟩]
def Z11g : Z2y := ⟨18, (.seq (.region Z11e [0, 1]) (.seq (.region Z11f [4]) .ret)), [.t 4]⟩
def Z11h : List Z2a := [
  ⟨some 2, .mov, [.c (.int .i64 0)], none⟩]
def Z11i : List Z2a := [
  ⟨some 3, .mov, [.c (.int .i64 1)], none⟩]
def Z11j : List Z2a := [
  ⟨some 5, .mov, [.t 0], none⟩,
  ⟨some 6, (.call Zgi), [.t 5], none⟩,
  ⟨some 4, .mov, [.t 6], none⟩]
def Z11k : List Z2a := [
  ⟨some 8, .mov, [.t 4], none⟩,
  ⟨some 9, (.bin .geq), [.t 8, .c (.int .u64 10000000000000000)], none⟩,
  ⟨some 7, .mov, [.t 9], none⟩]
def Z11l : List Z2a := [
  ⟨some 11, .mov, [.t 4], none⟩,
  ⟨some 12, (.bin .geq), [.t 11, .c (.int .u64 100000000)], none⟩,
  ⟨some 10, .mov, [.t 12], none⟩]
def Z11m : List Z2a := [
  ⟨some 13, .mov, [.t 3], none⟩,
  ⟨some 14, (.bin .add), [.t 13, .c (.int .i64 8)], none⟩,
  ⟨some 3, .mov, [.t 14], none⟩]
def Z11n : List Z2a := [
  ⟨some 15, .mov, [.t 4], none⟩,
  ⟨some 16, (.bin .quo), [.t 15, .c (.int .u64 100000000)], none⟩,
  ⟨some 4, .mov, [.t 16], none⟩]
def Z11o : List Z2a := [
  ⟨some 17, .mov, [.t 3], none⟩,
  ⟨some 18, (.bin .add), [.t 17, .c (.int .i64 8)], none⟩,
  ⟨some 3, .mov, [.t 18], none⟩]
def Z11p : List Z2a := [
  ⟨some 19, .mov, [.t 4], none⟩,
  ⟨some 20, (.bin .quo), [.t 19, .c (.int .u64 100000000)], none⟩,
  ⟨some 4, .mov, [.t 20], none⟩]
def Z11q : List Z2a := [
  ⟨some 21, .mov, [.t 4], none⟩,
  ⟨some 22, (.bin .geq), [.t 21, .c (.int .u64 10)], none⟩]
def Z11r : List Z2a := [
  ⟨some 23, .mov, [.t 3], none⟩,
  ⟨some 24, (.bin .add), [.t 23, .c (.int .i64 1)], none⟩,
  ⟨some 3, .mov, [.t 24], none⟩]
def Z11s : List Z2a := [
  ⟨some 25, .mov, [.t 4], none⟩,
  ⟨some 26, (.bin .quo), [.t 25, .c (.int .u64 10)], none⟩,
  ⟨some 4, .mov, [.t 26], none⟩]
def Z11t : Z2b := (.seq (.seq (.region Z11q [3, 4, 22]) (.cond (.t 22) .skip (.exit 4))) (.block 5 (.seq (.region Z11r [3, 4]) (.region Z11s [3, 4]))))
def Z11u : List Z2a := [
  ⟨some 27, .mov, [.t 3], none⟩,
  ⟨some 2, .mov, [.t 27], none⟩]
def Z11v : Z2y := ⟨28, (.seq (.region Z11h [0]) (.seq (.region Z11i [0, 3]) (.seq (.seq (.region Z11j [3, 4]) (.block 0 (.seq (.block 3 (.seq (.block 2 (.seq (.block 1 (.seq (.seq (.seq (.region Z11k [3, 4, 7]) (.cond (.t 7) (.exit 1) .skip)) (.seq (.region Z11l [3, 4, 10]) (.cond (.t 10) (.exit 2) .skip))) (.exit 3))) (.seq (.region Z11m [3, 4]) (.region Z11n [3, 4])))) (.seq (.region Z11o [3, 4]) (.region Z11p [3, 4])))) (.seq (.block 4 (.loop Z11t)) (.exit 0))))) (.seq (.region Z11u [2]) .ret)))), [.t 2]⟩
def Z11w : List Z2a := [
  ⟨some 4, .mov, [.c (.bool false)], none⟩]
def Z11x : List Z2a := [
  ⟨some 5, .mov, [.t 0], none⟩,
  ⟨some 6, (.bin .geq), [.t 5, .c (.int .i64 (-1099511627776))], none⟩,
  ⟨some 7, .mov, [.t 6], none⟩,
  ⟨some 8, .mov, [.t 0], some (7, true)⟩,
  ⟨some 9, (.bin .leq), [.t 8, .c (.int .i64 1099511627776)], some (7, true)⟩,
  ⟨some 10, .pick, [.t 7, .t 9, .c (.bool false)], none⟩,
  ⟨some 11, .mov, [.t 10], none⟩,
  ⟨some 12, .mov, [.t 1], some (11, true)⟩,
  ⟨some 13, (.bin .geq), [.t 12, .c (.int .i64 0)], some (11, true)⟩,
  ⟨some 14, .pick, [.t 11, .t 13, .c (.bool false)], none⟩,
  ⟨some 15, .mov, [.t 14], none⟩,
  ⟨some 16, .mov, [.t 1], some (15, true)⟩,
  ⟨some 17, (.bin .leq), [.t 16, .c (.int .i64 999999999)], some (15, true)⟩,
  ⟨some 18, .pick, [.t 15, .t 17, .c (.bool false)], none⟩,
  ⟨some 4, .mov, [.t 18], none⟩]
def Z11y : Z2y := ⟨19, (.seq (.region Z11w [0, 1]) (.seq (.region Z11x [4]) .ret)), [.t 4]⟩
def Z11z : List Z2a := [
  ⟨some 2, .mov, [.c (.int .i64 0)], none⟩]
def Z120 : List Z2a := [
  ⟨some 3, .mov, [.c (.int .i64 0)], none⟩]
def Z121 : List Z2a := [
  ⟨some 6, .mov, [.t 0], none⟩,
  ⟨some 7, .lens, [.t 6], none⟩,
  ⟨some 8, .mov, [.c (.int .i64 0)], none⟩]
def Z122 : List Z2a := [
  ⟨some 9, (.bin .lss), [.t 8, .t 7], none⟩]
def Z123 : List Z2a := [
  ⟨some 10, (.iad 1), [.t 6, .t 8], none⟩,
  ⟨some 11, (.load false 1), [.t 10], none⟩,
  ⟨some 5, .mov, [.t 11], none⟩]
def Z124 : List Z2a := [
  ⟨some 12, .mov, [.t 5], none⟩,
  ⟨some 13, (.bin .shr), [.t 12, .c (.int .u64 6)], none⟩,
  ⟨some 14, (.bin .neq), [.t 13, .c (.int .u8 2)], none⟩]
def Z125 : List Z2a := [
  ⟨some 15, .mov, [.t 3], none⟩,
  ⟨some 16, (.bin .add), [.t 15, .c (.int .i64 1)], none⟩,
  ⟨some 3, .mov, [.t 16], none⟩]
def Z126 : List Z2a := [
  ⟨some 17, (.bin .add), [.t 8, .c (.int .i64 1)], none⟩,
  ⟨some 8, .mov, [.t 17], none⟩]
def Z127 : Z2b := (.seq (.region Z122 [3, 6, 7, 8, 9]) (.seq (.cond (.t 9) .skip (.exit 0)) (.seq (.block 1 (.seq (.region Z123 [3, 5, 6, 7, 8]) (.seq (.region Z124 [3, 6, 7, 8, 14]) (.cond (.t 14) (.region Z125 [3, 6, 7, 8]) .skip)))) (.region Z126 [3, 6, 7, 8]))))
def Z128 : List Z2a := [
  ⟨some 18, .mov, [.t 3], none⟩,
  ⟨some 2, .mov, [.t 18], none⟩]
def Z129 : Z2y := ⟨19, (.seq (.region Z11z [0]) (.seq (.region Z120 [0, 3]) (.seq (.seq (.region Z121 [3, 6, 7, 8]) (.block 0 (.loop Z127))) (.seq (.region Z128 [2]) .ret)))), [.t 2]⟩
def Z12a : List Z2a := [
  ⟨some 2, .mov, [.c (.int .u64 0)], none⟩]
def Z12b : List Z2a := [
  ⟨some 3, .mov, [.t 0], none⟩,
  ⟨some 4, (.bin .lss), [.t 3, .c (.int .i64 0)], none⟩]
def Z12c : List Z2a := [
  ⟨some 5, .mov, [.t 0], none⟩,
  ⟨some 6, (.conv .u64), [.t 5], none⟩,
  ⟨some 7, .uneg, [.t 6], none⟩,
  ⟨some 2, .mov, [.t 7], none⟩]
def Z12d : List Z2a := [
  ⟨some 8, .mov, [.t 0], none⟩,
  ⟨some 9, (.conv .u64), [.t 8], none⟩,
  ⟨some 2, .mov, [.t 9], none⟩]
def Z12e : Z2y := ⟨10, (.seq (.region Z12a [0]) (.seq (.seq (.region Z12b [0, 4]) (.cond (.t 4) (.seq (.region Z12c [2]) .ret) .skip)) (.seq (.region Z12d [2]) .ret))), [.t 2]⟩
end Go.Abs
namespace Go.Abs
open Go Go.Proofs
theorem Z17i : Z2z Try.prog [] Zeh = some Z15b.erase := by kernel_rfl
theorem Z17k : Z2z Try.prog [(3, 7)] Zek = some Z163.erase := by kernel_rfl
theorem Z17l : Z2z Try.prog [] Zem = some Z166.erase := by kernel_rfl
theorem Z17m : Z2z Try.prog [] Zen = some Z16k.erase := by kernel_rfl
theorem Z17n : Z2z Try.prog [] Zes = some Z16n.erase := by kernel_rfl
theorem Z17p : Z2z Try.prog [] Zfh = some Z17d.erase := by kernel_rfl
theorem Z12f : Z2z Try.prog [] Zet = some Zzi.erase := by kernel_rfl
theorem Z12g : Z2z Try.prog [] Zfs = some Zzn.erase := by kernel_rfl
theorem Z12h : Z2z Try.prog [(14, 2)] Zft = some Z108.erase := by kernel_rfl
theorem Z12i : Z2z Try.prog [(6, 2)] Zfu = some Z10j.erase := by kernel_rfl
theorem Z12j : Z2z Try.prog [] Zfv = some Z10z.erase := by kernel_rfl
theorem Z12k : Z2z Try.prog [] Zfw = some Z11d.erase := by kernel_rfl
theorem Z12l : Z2z Try.prog [] Zgb = some Z11g.erase := by kernel_rfl
theorem Z12m : Z2z Try.prog [] Zgc = some Z11v.erase := by kernel_rfl
theorem Z12n : Z2z Try.prog [] Zgd = some Z11y.erase := by kernel_rfl
theorem Z12o : Z2z Try.prog [] Zge = some Z129.erase := by kernel_rfl
theorem Z12p : Z2z Try.prog [] Zgi = some Z12e.erase := by kernel_rfl
end Go.Abs
namespace Go.Abs
open Go Go.Proofs
set_option linter.unusedVariables false
set_option linter.unusedSimpArgs false
theorem u8_lt (a b : UInt8) : (a < b) ↔ a.toNat < b.toNat := UInt8.lt_iff_toNat_lt
theorem Z1kf : ∀ a b : List UInt8, Lib.compareBytes b a = - Lib.compareBytes a b
  | [], [] => rfl
  | [], _ :: _ => rfl
  | _ :: _, [] => rfl
  | a :: xs, b :: bs => by
    simp only [Lib.compareBytes]
    simp only [u8_lt]
    (repeat' split) <;> first | omega | exact Z1kf xs bs | rfl
theorem Z1kg : ∀ a b c : List UInt8, Lib.compareBytes a b < 0 → Lib.compareBytes b c ≤ 0 → Lib.compareBytes a c < 0
  | [], [], _, h, _ => by simp [Lib.compareBytes] at h
  | [], _ :: _, [], _, h => by simp [Lib.compareBytes] at h
  | [], _ :: _, _ :: _, _, _ => by simp [Lib.compareBytes]
  | _ :: _, [], _, h, _ => by simp [Lib.compareBytes] at h
  | _ :: _, _ :: _, [], _, h => by simp [Lib.compareBytes] at h
  | a :: xs, b :: bs, c :: cs, h1, h2 => by
    simp only [Lib.compareBytes, u8_lt] at h1 h2 ⊢
    split at h1
    · split at h2
      · rw [if_pos (by omega)]; omega
      · split at h2
        · omega
        · rw [if_pos (by omega)]; omega
    · split at h1
      · omega
      · split at h2
        · rw [if_pos (by omega)]; omega
        · split at h2
          · omega
          · rw [if_neg (by omega), if_neg (by omega)]
            exact Z1kg xs bs cs h1 h2
theorem Z1kh {k : Int} (hk : Zlt k = true) (a b : Vl) (ha : a.null = false) (hb : b.null = false) : (cmpV k a b).1 = if Zmb k = true then Lib.compareBytes a.b b.b else if cmpI a.i b.i ≠ 0 then cmpI a.i b.i else cmpI a.n b.n := by
  have h : ¬ (Zlt k = false ∨ a.null = true ∨ b.null = true) := by simp [hk, ha, hb]
  unfold cmpV
  rw [if_neg h]
  split <;> rfl
theorem Z1ki {k : Int} (hk : Zlt k = true) (a b : Vl) (ha : a.null = false) (hb : b.null = false) : (cmpV k b a).1 = - (cmpV k a b).1 := by
  rw [Z1kh hk b a hb ha, Z1kh hk a b ha hb]
  cases Zmb k with
  | true => exact Z1kf _ _
  | false =>
    simp only [Bool.false_eq_true, if_false, cmpI]
    (repeat' split) <;> omega
theorem Z1kj (x y u v : Int) : (if cmpI x y ≠ 0 then cmpI x y else cmpI u v) < 0 ↔ x < y ∨ (x = y ∧ u < v) := by
  unfold cmpI
  rcases Int.lt_trichotomy x y with h | h | h
  · simp [h]
  · subst h
    simp only [Int.lt_irrefl, if_false, ne_eq, not_true_eq_false, false_or, true_and]
    (repeat' split) <;> omega
  · rw [if_neg (show ¬ x < y by omega), if_pos h]
    simp
    omega
theorem Z1kk (x y u v : Int) : (if cmpI x y ≠ 0 then cmpI x y else cmpI u v) ≤ 0 ↔ x < y ∨ (x = y ∧ u ≤ v) := by
  unfold cmpI
  rcases Int.lt_trichotomy x y with h | h | h
  · simp [h]
  · subst h
    simp only [Int.lt_irrefl, if_false, ne_eq, not_true_eq_false, false_or, true_and]
    (repeat' split) <;> omega
  · rw [if_neg (show ¬ x < y by omega), if_pos h]
    simp
    omega
theorem Z1kl {k : Int} (hk : Zlt k = true) (a b c : Vl) (ha : a.null = false) (hb : b.null = false) (hc : c.null = false) (h1 : (cmpV k a b).1 < 0) (h2 : (cmpV k b c).1 ≤ 0) : (cmpV k a c).1 < 0 := by
  rw [Z1kh hk a b ha hb] at h1
  rw [Z1kh hk b c hb hc] at h2
  rw [Z1kh hk a c ha hc]
  cases ht : Zmb k with
  | true =>
    rw [ht] at h1 h2
    exact Z1kg _ _ _ h1 h2
  | false =>
    rw [ht] at h1 h2
    simp only [Bool.false_eq_true, if_false] at h1 h2 ⊢
    rw [Z1kj] at h1 ⊢
    rw [Z1kk] at h2
    omega
theorem Z1km {k : Int} (hk : Zlt k = true) (a b c : Vl) (ha : a.null = false) (hb : b.null = false) (hc : c.null = false) (h1 : (cmpV k a b).1 ≤ 0) (h2 : (cmpV k b c).1 < 0) : (cmpV k a c).1 < 0 := by
  have e1 := Z1ki hk a c ha hc
  have e2 := Z1ki hk a b ha hb
  by_cases h : (cmpV k a c).1 < 0
  · exact h
  · have := Z1kl hk b c a hb hc ha h2 (by omega)
    omega
theorem Z1kn {k : Int} (hk : Zlt k = true) (a : Vl) (ha : a.null = false) : (cmpV k a a).1 = 0 := by
  have := Z1ki hk a a ha ha
  omega
structure Sp where
  has : Bool
  min : Vl
  max : Vl
def spOf (s : Stt) : Sp := ⟨s.has, s.min, s.max⟩
def sp0 : Sp := ⟨false, vl0, vl0⟩
def Z1ko (k : Int) (s : Sp) (v : Vl) : Sp :=
  if Zxk k = true then ⟨true, if s.has = false ∨ (cmpV k v s.min).1 < 0 then v else s.min, if s.has = false ∨ 0 < (cmpV k v s.max).1 then v else s.max⟩ else s
def Z1kp (p : Int × Bool) (a : Int) : Int × Bool := if p.2 = true then addF p.1 a else p
theorem Z1kq (k : Int) (v : Vl) (add : Int) (s : Stt) : Zy1 k v add s = ⟨s.count, s.null, (Z1ko k (spOf s) v).has, (Z1ko k (spOf s) v).min, (Z1ko k (spOf s) v).max, (Z1kp (s.sum, s.sums) add).2, (Z1kp (s.sum, s.sums) add).1⟩ := by
  obtain ⟨c, n, h, mi, ma, su, sm⟩ := s
  unfold Zy1 Zxq Z1ko Z1kp spOf
  cases Zxk k <;> cases su <;> simp [Zxr]
def getsC (c : Col) (n : Nat) : List (Vl × Int) := (List.range n).map fun i => (getV c i, getA c i)
def colN (c : Col) : Nat := max c.ints.length c.texts.length
def valsC (c : Col) : List (Vl × Int) := getsC c (colN c)
def ofL (k : Int) (l : List (Vl × Int)) (s : Stt) : Stt :=
  ⟨s.count, s.null, ((l.map (·.1)).foldl (Z1ko k) (spOf s)).has, ((l.map (·.1)).foldl (Z1ko k) (spOf s)).min, ((l.map (·.1)).foldl (Z1ko k) (spOf s)).max, ((l.map (·.2)).foldl Z1kp (s.sum, s.sums)).2, ((l.map (·.2)).foldl Z1kp (s.sum, s.sums)).1⟩
theorem Z1kr (k : Int) (c : Col) : ∀ (m i : Nat) (s : Stt), Zy2 k c m i s = ofL k ((List.range' i m).map fun i => (getV c i, getA c i)) s
  | 0, i, s => by simp [Zy2, ofL, spOf]
  | m + 1, i, s => by
    rw [Zy2, Z1kr k c m, Z1kq]
    simp only [ofL, List.range'_succ, List.map_cons, List.foldl_cons, spOf]
theorem ofF_L (k : Int) (c : Col) : ofF k c = ofL k (valsC c) (of0 k c (c.here.count true)) := by
  rw [ofF, Z1kr, valsC, getsC, colN, List.range_eq_range']
def spC (k : Int) (c : Col) : Sp := ((valsC c).map (·.1)).foldl (Z1ko k) sp0
def smC (k : Int) (c : Col) : Int × Bool := ((valsC c).map (·.2)).foldl Z1kp (0, Zxj k)
theorem Z1ks (k : Int) (c : Col) : ofF k c = ⟨(c.here.count true : Nat), hasF c, (spC k c).has, (spC k c).min, (spC k c).max, (smC k c).2, (smC k c).1⟩ := by
  rw [ofF_L, ofL]; rfl
structure Bnd (k : Int) (vs : List Vl) (s : Sp) : Prop where
  nmin : s.min.null = false
  nmax : s.max.null = false
  all : s.has = true → ∀ v ∈ vs, 0 ≤ (cmpV k v s.min).1 ∧ (cmpV k v s.max).1 ≤ 0
  min : s.has = true → s.min ∈ vs
  max : s.has = true → s.max ∈ vs
  none : s.has = false → Zxk k = true → vs = []
  zero : s.has = false → s = sp0
theorem Z1kt {k : Int} (h : Zxk k = true) : Zlt k = true := by
  simp only [Zxk, Bool.and_eq_true] at h
  exact h.1
theorem Bnd.step {k : Int} {vs : List Vl} {s : Sp} (h : Bnd k vs s) (hnr : Zxk k = false → s.has = false) {v : Vl} (hv : v.null = false) : Bnd k (vs ++ [v]) (Z1ko k s v) := by
  obtain ⟨n1, n2, ha, hmi, hma, hno, hz⟩ := h
  unfold Z1ko
  cases hr : Zxk k with
  | false =>
    have hh := hnr hr
    rw [if_neg (by simp)]
    exact ⟨n1, n2, fun e => (by rw [hh] at e; cases e), fun e => (by rw [hh] at e; cases e), fun e => (by rw [hh] at e; cases e), fun _ e => by simp [hr] at e, hz⟩
  | true =>
    rw [if_pos rfl]
    have hk := Z1kt hr
    have hvv := Z1kn hk v hv
    cases hh : s.has with
    | false =>
      rw [if_pos (.inl rfl), if_pos (.inl rfl), hno hh hr]
      refine ⟨hv, hv, fun _ x hx => ?_, fun _ => by simp, fun _ => by simp, fun e => (by cases e), fun e => (by cases e)⟩
      rw [List.mem_singleton.1 hx]
      show 0 ≤ (cmpV k v v).1 ∧ (cmpV k v v).1 ≤ 0
      omega
    | true =>
      have ha' := ha hh
      have a1 := Z1ki hk v s.min hv n1
      have a2 := Z1ki hk v s.max hv n2
      refine ⟨?_, ?_, fun _ x hx => ⟨?_, ?_⟩, fun _ => ?_, fun _ => ?_, fun e => (by cases e), fun e => (by cases e)⟩
      · simp only []; split <;> assumption
      · simp only []; split <;> assumption
      · simp only [Bool.true_eq_false, false_or]
        split
        · rename_i h1
          rcases List.mem_append.1 hx with e | e
          · have h2 := ha' x e
            by_cases hxn : x.null = true
            · have : (cmpV k x v).1 = 0 := by unfold cmpV; rw [if_pos (.inr (.inl hxn))]
              omega
            · have hxn : x.null = false := by simpa using hxn
              have h3 := Z1kl hk v s.min x hv n1 hxn h1 (by have := Z1ki hk x s.min hxn n1; omega)
              have := Z1ki hk x v hxn hv
              omega
          · rw [List.mem_singleton.1 e]; omega
        · rename_i h1
          rcases List.mem_append.1 hx with e | e
          · exact (ha' x e).1
          · rw [List.mem_singleton.1 e]; omega
      · simp only [Bool.true_eq_false, false_or]
        split
        · rename_i h1
          rcases List.mem_append.1 hx with e | e
          · have h2 := ha' x e
            by_cases hxn : x.null = true
            · have : (cmpV k x v).1 = 0 := by unfold cmpV; rw [if_pos (.inr (.inl hxn))]
              omega
            · have hxn : x.null = false := by simpa using hxn
              have h3 := Z1km hk x s.max v hxn n2 hv h2.2 (by omega)
              omega
          · rw [List.mem_singleton.1 e]; omega
        · rename_i h1
          rcases List.mem_append.1 hx with e | e
          · exact (ha' x e).2
          · rw [List.mem_singleton.1 e]; omega
      · simp only [Bool.true_eq_false, false_or]
        split
        · simp
        · exact List.mem_append_left _ (hmi hh)
      · simp only [Bool.true_eq_false, false_or]
        split
        · simp
        · exact List.mem_append_left _ (hma hh)
theorem Z1ku {k : Int} {s : Sp} {v : Vl} (h : Zxk k = false → s.has = false) : Zxk k = false → (Z1ko k s v).has = false := by
  intro e
  unfold Z1ko
  rw [if_neg (by simp [e])]
  exact h e
theorem Bnd.fold {k : Int} : ∀ (ws vs : List Vl) (s : Sp), Bnd k vs s → (Zxk k = false → s.has = false) → (∀ v ∈ ws, v.null = false) → Bnd k (vs ++ ws) (ws.foldl (Z1ko k) s)
  | [], vs, s, h, _, _ => by simpa using h
  | w :: ws, vs, s, h, hr, hn => by
    have := Bnd.fold ws (vs ++ [w]) _ (h.step hr (hn w (by simp))) (Z1ku hr) (fun v hv => hn v (List.mem_cons_of_mem _ hv))
    simpa using this
theorem bnd0 (k : Int) : Bnd k [] sp0 := ⟨rfl, rfl, fun e => (by cases e), fun e => (by cases e), fun e => (by cases e), fun _ _ => rfl, fun _ => rfl⟩
theorem Z1kv (c : Col) : ∀ v ∈ (valsC c).map (·.1), v.null = false := by
  intro v hv
  simp only [valsC, getsC, List.map_map, List.mem_map] at hv
  obtain ⟨i, _, rfl⟩ := hv
  rfl
theorem Z1kw (k : Int) (c : Col) : Bnd k ((valsC c).map (·.1)) (spC k c) := by
  have := Bnd.fold (k := k) ((valsC c).map (·.1)) [] sp0 (bnd0 k) (fun _ => rfl) (Z1kv c)
  rw [List.nil_append] at this
  exact this
def Z1kx (k : Int) (a b : Sp) : Sp :=
  if a.has = false then b else if b.has = false then a
  else ⟨true, if (cmpV k b.min a.min).1 < 0 then b.min else a.min, if 0 < (cmpV k b.max a.max).1 then b.max else a.max⟩
theorem Z1ky : ∀ (l : List Int) (p : Int × Bool), (l.foldl Z1kp p).2 = true → p.2 = true ∧ (l.foldl Z1kp p).1 = p.1 + l.sum
  | [], p, h => ⟨h, by simp⟩
  | b :: l, p, h => by
    obtain ⟨h1, h2⟩ := Z1ky l _ (by simpa using h)
    obtain ⟨s, t⟩ := p
    cases t with
    | false => cases h1
    | true =>
      refine ⟨rfl, ?_⟩
      rw [List.foldl_cons, h2]
      simp only [Z1kp, if_true, addF] at h1 ⊢
      split at h1
      · rename_i hb
        rw [if_pos hb, List.sum_cons]; omega
      · cases h1
def appC (a b : Col) : Col := ⟨a.here ++ b.here, a.ints ++ b.ints, a.ns ++ b.ns, a.texts ++ b.texts, a.lens ++ b.lens⟩
def appCs (xs cs : List Col) : List Col := List.zipWith appC xs cs
theorem Z1kz (b : Bool) (x c : Col) : Zyg b (appC x c) = appC x (Zyg b c) := by simp [Zyg, appC]
theorem Z1l0 (k : Int) (v : Vl) (x c : Col) : addC k v (appC x c) = appC x (addC k v c) := by
  unfold addC Zyf Zye Zyg appC
  (repeat' split) <;> simp
theorem Z1l1 {t : Ty} {rows : List Vl} (h : (Z1i6 t rows).2 = 0) : Zlx t = 0 ∧ rowsE t rows = 0 ∧ (Z1i5 (Zm4 t) rows (List.replicate (Zm4 t).length col0)).2 = true ∧ (Z1i6 t rows).1 = (Z1i5 (Zm4 t) rows (List.replicate (Zm4 t).length col0)).1 := by
  unfold Z1i6 at h ⊢
  split at h
  · rename_i h0; exact absurd h h0
  · rename_i h0
    split at h
    · rename_i h1; exact absurd h h1
    · rename_i h1
      split at h
      · rename_i h2
        rw [if_neg h0, if_neg h1, if_pos h2]
        exact ⟨by simpa using h0, by simpa using h1, h2, rfl⟩
      · cases h
theorem Z1l2 {t : Ty} {rows : List Vl} (h : (Z1i6 t rows).2 = 0) : (Z1i6 t rows).1.length = (Zm4 t).length := by
  rw [(Z1l1 h).2.2.2, Z1jt, List.length_replicate]
structure ColOk (k : Int) (c : Col) : Prop where
  good : c.Good k
  rng : c.Rng
  sm : c.Sm
theorem ColOk.fit {k : Int} {c : Col} (h : ColOk k c) : c.Fit := by
  obtain ⟨_, ⟨h1, h2⟩, ⟨s1, s2, s3, s4, s5⟩⟩ := h
  exact ⟨by omega, by omega, by omega, by omega, by omega, h1, fun t ht => by have := h2 t ht; omega⟩
theorem Z1l3 {t : Ty} {rows : List Vl} (hf : ∀ v ∈ rows, v.Fit) (h : (Z1i6 t rows).2 = 0) {j : Nat} {c : Col} (hc : (Z1i6 t rows).1[j]? = some c) : ColOk (Zyh (Zm4 t) j) c := by
  obtain ⟨h0, h1, h2, h3⟩ := Z1l1 h
  have hok := Z1i8 h1
  rw [h3] at hc
  generalize Zm4 t = l at *
  have hz : ∀ j c, (List.replicate l.length col0)[j]? = some c → c = col0 := fun j c e => List.eq_of_mem_replicate (List.mem_of_getElem? e)
  have hq : ∀ v ∈ rows, v.Sht := fun v hv => Z1jw v t (hf v hv) (hok v hv).1
  have hqk : ∀ v : Vl, v.Sht → ∀ k ∈ v.kids, k.Sht := fun v hv k hk => by cases hv with | mk _ _ h => exact h k hk
  refine ⟨?_, ?_, ?_⟩
  · exact Z1js l (fun j c => c.Good (Zyh l j)) Vl.Sht hqk (fun j c h => Z1k0 h) (fun j c v h _ _ => Z1k1 h) rows _ hq (fun j c e => by rw [hz j c e]; exact Z1k2 _) j c hc
  · exact Z1js l (fun _ c => c.Rng) Vl.Sht hqk (fun j c h => ⟨h.1, h.2⟩) (fun j c v h hv _ => Z1jy h hv) rows _ hq (fun j c e => by rw [hz j c e]; exact ⟨by simp [col0], by simp [col0]⟩) j c hc
  · refine Z1ju l rows _ (fun c hc => ?_) c (List.mem_of_getElem? hc)
    rw [List.eq_of_mem_replicate hc]
    exact ⟨by simp [col0], by simp [col0], by simp [col0], by simp [col0], by simp [col0]⟩
theorem Good.n {k : Int} {c : Col} (h : c.Good k) : (Zmb k = true ∧ c.ints = [] ∧ c.ns = [] ∧ colN c = c.texts.length) ∨ (c.texts = [] ∧ colN c = c.ints.length ∧ (c.ns = [] ∨ c.ns.length = c.ints.length) ∧ (c.ns = [] ↔ (k ≠ 9 ∨ c.ints = []))) := by
  obtain ⟨h1, h2, h3, h4⟩ := h
  unfold colN
  cases ht : Zmb k with
  | true =>
    have := Z1jz ht
    rw [if_pos (.inl ht)] at h2
    rw [if_neg (by omega)] at h3
    exact .inl ⟨rfl, List.length_eq_zero_iff.1 h2, List.length_eq_zero_iff.1 h3, by omega⟩
  | false =>
    rw [if_neg (by simp [ht])] at h1
    refine .inr ⟨List.length_eq_zero_iff.1 h1, by omega, ?_, ?_⟩
    · by_cases h9 : k = 9
      · rw [if_pos h9] at h3
        rw [if_neg (by rw [ht]; simp; omega)] at h2
        exact .inr (by omega)
      · rw [if_neg h9] at h3
        exact .inl (List.length_eq_zero_iff.1 h3)
    · by_cases h9 : k = 9
      · rw [if_pos h9] at h3
        rw [if_neg (by rw [ht]; simp; omega)] at h2
        rw [← List.length_eq_zero_iff, ← List.length_eq_zero_iff, h3, h2]
        simp [h9]
      · rw [if_neg h9] at h3
        simp [List.length_eq_zero_iff.1 h3, h9]
theorem Z1l4 {α : Type} (a b : List α) (d : α) (i : Nat) : (a ++ b).getD i d = if i < a.length then a.getD i d else b.getD (i - a.length) d := by
  simp only [List.getD_eq_getElem?_getD, List.getElem?_append]
  split <;> rfl
theorem Z1l5 {k : Int} {a b : Col} (ha : a.Good k) (hb : b.Good k) : valsC (appC a b) = valsC a ++ valsC b := by
  have key : colN (appC a b) = colN a + colN b ∧ (∀ i, i < colN a → getV (appC a b) i = getV a i ∧ getA (appC a b) i = getA a i) ∧ (∀ i, i < colN b → getV (appC a b) (colN a + i) = getV b i ∧ getA (appC a b) (colN a + i) = getA b i) := by
    rcases Good.n ha with ⟨t1, i1, n1, c1⟩ | ⟨t1, c1, n1, m1⟩ <;> rcases Good.n hb with ⟨t2, i2, n2, c2⟩ | ⟨t2, c2, n2, m2⟩
    · refine ⟨by simp [colN, appC, i1, i2], fun i hi => ?_, fun i hi => ?_⟩
      · rw [c1] at hi
        simp only [getV, getA, appC, i1, i2, n1, n2, List.append_nil, List.length_append, Z1l4, if_pos hi, if_pos (show i < a.texts.length + b.texts.length by omega)]
        constructor <;> trivial
      · rw [c2] at hi
        simp only [getV, getA, appC, i1, i2, n1, n2, c1, List.append_nil, List.length_append, Z1l4, if_neg (show ¬ a.texts.length + i < a.texts.length by omega), Nat.add_sub_cancel_left, if_pos (show a.texts.length + i < a.texts.length + b.texts.length by omega), if_pos hi]
        constructor <;> trivial
    · have e := hb.texts
      rw [if_pos t1, t2] at e
      have e2 := hb.ints
      rw [if_pos (.inl t1)] at e2
      have e2 := List.length_eq_zero_iff.1 e2
      have e3 := m2.2 (.inr e2)
      refine ⟨by simp [colN, appC, i1, t2, e2], fun i hi => ?_, fun i hi => ?_⟩
      · rw [c1] at hi
        simp only [getV, getA, appC, i1, e2, t2, n1, e3, List.append_nil]
        constructor <;> trivial
      · rw [c2, e2] at hi; cases hi
    · have e := ha.texts
      rw [if_pos t2, t1] at e
      have e2 := ha.ints
      rw [if_pos (.inl t2)] at e2
      have e2 := List.length_eq_zero_iff.1 e2
      have e3 := m1.2 (.inr e2)
      have e4 : colN a = 0 := by rw [c1, e2]; rfl
      refine ⟨by simp [colN, appC, i2, t1, e2], fun i hi => by omega, fun i hi => ?_⟩
      simp only [getV, getA, appC, i2, e2, t1, n2, e3, List.nil_append, e4, Nat.zero_add]
      constructor <;> trivial
    · refine ⟨by simp [colN, appC, t1, t2], fun i hi => ?_, fun i hi => ?_⟩
      · rw [c1] at hi
        have hns : (a.ns ++ b.ns).getD i 0 = a.ns.getD i 0 := by
          rw [Z1l4]
          rcases n1 with n1 | n1
          · have : k ≠ 9 := by
              rcases m1.1 n1 with h | h
              · exact h
              · rw [h] at hi; cases hi
            rw [n1, m2.2 (.inl this)]; simp
          · rw [if_pos (by omega)]
        simp only [getV, getA, appC, t1, t2, List.append_nil, hns, Z1l4, if_pos hi]
        constructor <;> trivial
      · rw [c2] at hi
        have hns : (a.ns ++ b.ns).getD (a.ints.length + i) 0 = b.ns.getD i 0 := by
          rw [Z1l4]
          rcases n1 with n1 | n1
          · by_cases h9 : k = 9
            · have e := m1.1 n1
              have : a.ints = [] := by rcases e with h | h; exact absurd h9 h; exact h
              rw [n1, this]; simp
            · rw [n1, m2.2 (.inl h9)]; simp
          · rw [if_neg (by omega), n1, Nat.add_sub_cancel_left]
        simp only [getV, getA, appC, t1, t2, c1, List.append_nil, hns, Z1l4, if_neg (show ¬ a.ints.length + i < a.ints.length by omega), Nat.add_sub_cancel_left]
        constructor <;> trivial
  obtain ⟨h1, h2, h3⟩ := key
  unfold valsC getsC
  rw [h1, List.range_add, List.map_append, List.map_map]
  congr 1
  · refine List.map_congr_left fun i hi => ?_
    have := h2 i (List.mem_range.1 hi)
    rw [this.1, this.2]
  · refine List.map_congr_left fun i hi => ?_
    have := h3 i (List.mem_range.1 hi)
    simp only [Function.comp_apply]
    rw [this.1, this.2]
def Z1l6 (k : Int) (a b : Stt) : Stt :=
  ⟨IntKind.wrap .i64 (a.count + b.count), a.null || b.null, a.has || b.has,
   if a.has = false then b.min else if b.has = true ∧ (cmpV k b.min a.min).1 < 0 then b.min else a.min,
   if a.has = false then b.max else if b.has = true ∧ 0 < (cmpV k b.max a.max).1 then b.max else a.max,
   if a.sums = true ∧ b.sums = true then (addF a.sum b.sum).2 else false,
   if a.sums = true ∧ b.sums = true then (addF a.sum b.sum).1 else 0⟩
end Go.Abs
namespace Go.Abs
open Go Go.Proofs
set_option linter.unusedVariables false
set_option linter.unusedSimpArgs false
mutual
def pcon (l : List Nd) (at_ c : Nat) : Vl → Col
  | .mk nu i n b ks =>
    if nu = true then (if c = at_ then Zyg false col0 else col0)
    else appC (if c = at_ then addC (Zyh l at_) (.mk nu i n b ks) col0 else col0) (pconL l at_ c i 0 ks)
def pconL (l : List Nd) (at_ c : Nat) (i : Int) (j : Nat) : List Vl → Col
  | [] => col0
  | v :: vs => appC (pcon l (kidC l at_ (Zyh l at_) i j) c v) (pconL l at_ c i (j + 1) vs)
end
def Z1lm (l : List Nd) (c : Nat) : List Vl → Col
  | [] => col0
  | v :: vs => appC (pcon l 0 c v) (Z1lm l c vs)
theorem Z1ln (a : Col) : appC a col0 = a := by simp [appC, col0]
theorem Z1lo (a : Col) : appC col0 a = a := by simp [appC, col0]
theorem Z1lp (a b c : Col) : appC (appC a b) c = appC a (appC b c) := by simp [appC]
theorem Z1lq (k : Int) (v : Vl) (x : Col) : addC k v x = appC x (addC k v col0) := by
  rw [← Z1l0, Z1ln]
theorem Z1lr (b : Bool) (x : Col) : Zyg b x = appC x (Zyg b col0) := by
  rw [← Z1kz, Z1ln]
theorem Z1ls (cs : List Col) (i c : Nat) (x : Col) (hc : c < cs.length) : (cs.set i x).getD c col0 = if c = i then x else cs.getD c col0 := by
  rw [List.getD_eq_getElem?_getD, List.getD_eq_getElem?_getD]
  by_cases h : c = i
  · subst h; rw [List.getElem?_set_self hc, if_pos rfl]; rfl
  · rw [List.getElem?_set_ne (fun e => h e.symm), if_neg h]
theorem Z1lt (l : List Nd) : ∀ (v : Vl) (at_ : Nat) (cs : List Col) (c : Nat), c < cs.length → (putF l at_ v cs).2 = true → (putF l at_ v cs).1.getD c col0 = appC (cs.getD c col0) (pcon l at_ c v) := by
  refine Vl.ind fun nu i n b ks ih at_ cs c hc h => ?_
  have hL : ∀ (ks : List Vl), (∀ v ∈ ks, ∀ (at_ : Nat) (cs : List Col) (c : Nat), c < cs.length → (putF l at_ v cs).2 = true → (putF l at_ v cs).1.getD c col0 = appC (cs.getD c col0) (pcon l at_ c v)) →
      ∀ (j : Nat) (cs : List Col), c < cs.length → (putL l at_ i j ks cs).2 = true → (putL l at_ i j ks cs).1.getD c col0 = appC (cs.getD c col0) (pconL l at_ c i j ks) := by
    intro ks
    induction ks with
    | nil => intro _ j cs _ _; rw [putL, pconL, Z1ln]
    | cons v vs ih2 =>
      intro hv j cs hc h
      rw [putL] at h ⊢
      rw [pconL]
      split at h
      · rename_i h1
        rw [if_pos h1, ih2 (fun v hm => hv v (List.mem_cons_of_mem _ hm)) _ _ (by rw [Z1i3]; exact hc) h, hv v (by simp) _ _ _ hc h1, Z1lp]
      · cases h
  rw [putF] at h ⊢
  rw [pcon]
  split at h
  · cases h
  rename_i hlt
  rw [if_neg hlt]
  split at h
  · rename_i hnu
    rw [if_pos hnu, if_pos hnu, Z1ls _ _ _ _ hc]
    split
    · rename_i e; subst e; exact Z1lr _ _
    · rw [Z1ln]
  · rename_i hnu
    rw [if_neg hnu, if_neg hnu, hL ks ih 0 _ (by rw [List.length_set]; exact hc) h, Z1ls _ _ _ _ hc, ← Z1lp]
    split
    · rename_i e; subst e; rw [Z1lq]
    · rw [Z1ln]
theorem Z1lu (l : List Nd) : ∀ (rows : List Vl) (cs : List Col) (c : Nat), c < cs.length → (Z1i5 l rows cs).2 = true → (Z1i5 l rows cs).1.getD c col0 = appC (cs.getD c col0) (Z1lm l c rows)
  | [], cs, c, _, _ => by rw [Z1i5, Z1lm, Z1ln]
  | v :: vs, cs, c, hc, h => by
    rw [Z1i5] at h ⊢
    rw [Z1lm]
    split at h
    · rename_i h1
      rw [if_pos h1, Z1lu l vs _ c (by rw [Z1i3]; exact hc) h, Z1lt l v 0 cs c hc h1, Z1lp]
    · cases h
theorem Z1lv {t : Ty} {rows : List Vl} (h : (Z1i6 t rows).2 = 0) {c : Nat} (hc : c < (Zm4 t).length) : (Z1i6 t rows).1[c]? = some (Z1lm (Zm4 t) c rows) := by
  obtain ⟨_, _, h2, h3⟩ := Z1l1 h
  have hl := Z1l2 h
  have := Z1lu (Zm4 t) rows (List.replicate (Zm4 t).length col0) c (by rw [List.length_replicate]; exact hc) h2
  rw [← h3, List.getD_eq_getElem?_getD, List.getElem?_eq_getElem (by omega), Option.getD_some] at this
  rw [List.getElem?_eq_getElem (by omega), this]
  have e : (List.replicate (Zm4 t).length col0).getD c col0 = col0 := by
    rw [List.getD_eq_getElem?_getD, List.getElem?_replicate, if_pos hc]; rfl
  rw [e, Z1lo]
structure Nok (l : List Nd) (i : Nat) (n : Nd) : Prop where
  len : n.kids.length = n.t.kids.length
  kids : ∀ j x, n.kids[j]? = some x → ∃ u m, n.t.kids[j]? = some u ∧ x = i + 1 + cntL (n.t.kids.take j) ∧ l[x]? = some m ∧ m.t = u ∧ m.parent = (i : Int) ∧ m.deep = n.deep + 1
structure Par (l : List Nd) (i : Nat) (n : Nd) : Prop where
  par : ∃ (p : Nat) (q : Nd) (j : Nat), n.parent = (p : Int) ∧ p < i ∧ l[p]? = some q ∧ q.kids[j]? = some i ∧ n.deep = q.deep + 1
structure TreeN (l : List Nd) : Prop where
  nok : ∀ i n, l[i]? = some n → Nok l i n
  par : ∀ i n, l[i]? = some n → 0 < i → Par l i n
  root : ∀ n, l[0]? = some n → n.parent = -1 ∧ n.deep = 1
theorem Z1lw (t : Ty) (a : Nat) (p : Int) (d : Nat) (rest : List Nd) : (Zlz a p d t ++ rest)[0]? = some ⟨t, Zly (a + 1) t.kids, p, d⟩ := by
  obtain ⟨k, ns, ks, l, pr, s⟩ := t
  rw [Zlz]; rfl
theorem Z1lx (k : Int) (ns : List (List UInt8)) (ks : List Ty) (le pr sc : Int) (pre post : List Nd) (p : Int) (d j : Nat) (u : Ty) (hu : ks[j]? = some u) :
    ∃ pre' post', pre ++ (Zlz pre.length p d (.mk k ns ks le pr sc) ++ post) = pre' ++ (Zlz pre'.length (pre.length : Int) (d + 1) u ++ post') ∧ pre'.length = pre.length + 1 + cntL (ks.take j) := by
  obtain ⟨post', hp⟩ := Zyk ks (pre.length + 1) j (pre.length : Int) (d + 1) u hu
  have hlen : (Zm0 (pre.length + 1) (pre.length : Int) (d + 1) (ks.take j)).length = cntL (ks.take j) := Zng _ _ _ _
  refine ⟨pre ++ (⟨.mk k ns ks le pr sc, Zly (pre.length + 1) ks, p, d⟩ :: Zm0 (pre.length + 1) (pre.length : Int) (d + 1) (ks.take j)), post' ++ post, ?_, ?_⟩
  · have hl2 : (pre ++ ((⟨.mk k ns ks le pr sc, Zly (pre.length + 1) ks, p, d⟩ : Nd) :: Zm0 (pre.length + 1) (pre.length : Int) (d + 1) (ks.take j))).length = pre.length + 1 + cntL (ks.take j) := by
      rw [List.length_append, List.length_cons, hlen]; omega
    rw [hl2, Zlz, hp]
    simp [List.append_assoc]
  · rw [List.length_append, List.length_cons, hlen]; omega
theorem Z1ly : ∀ (t : Ty), 1 ≤ cnt t := fun t => by
  obtain ⟨k, ns, ks, l, pr, s⟩ := t
  rw [cnt]; omega
theorem Z1lz : ∀ (ks : List Ty) (a i : Nat), a ≤ i → i < a + cntL ks → ∃ j u, ks[j]? = some u ∧ a + cntL (ks.take j) ≤ i ∧ i < a + cntL (ks.take j) + cnt u
  | [], a, i, h1, h2 => by rw [cntL] at h2; omega
  | t :: ts, a, i, h1, h2 => by
    rw [cntL] at h2
    by_cases h : i < a + cnt t
    · exact ⟨0, t, rfl, by simp [cntL]; exact h1, by simpa [cntL] using h⟩
    · obtain ⟨j, u, e1, e2, e3⟩ := Z1lz ts (a + cnt t) i (by omega) (by omega)
      exact ⟨j + 1, u, by simpa using e1, by rw [List.take_succ_cons, cntL]; omega, by rw [List.take_succ_cons, cntL]; omega⟩
theorem Z1m0 : ∀ (t : Ty) (pre post : List Nd) (p : Int) (d i : Nat) (n : Nd), pre.length ≤ i → i < pre.length + cnt t → (pre ++ (Zlz pre.length p d t ++ post))[i]? = some n →
    Nok (pre ++ (Zlz pre.length p d t ++ post)) i n ∧ (i = pre.length → n.parent = p ∧ n.deep = d) ∧ (pre.length < i → Par (pre ++ (Zlz pre.length p d t ++ post)) i n) := by
  refine Ty.ind fun k ns ks le pr sc ih pre post p d i n h1 h2 hn => ?_
  have hroot : (pre ++ (Zlz pre.length p d (.mk k ns ks le pr sc) ++ post))[pre.length]? = some ⟨.mk k ns ks le pr sc, Zly (pre.length + 1) ks, p, d⟩ := by
    rw [List.getElem?_append_right (Nat.le_refl _), Nat.sub_self, Z1lw]; rfl
  have hkid : ∀ j x u, (Zly (pre.length + 1) ks)[j]? = some x → ks[j]? = some u → x = pre.length + 1 + cntL (ks.take j) ∧ (pre ++ (Zlz pre.length p d (.mk k ns ks le pr sc) ++ post))[x]? = some ⟨u, Zly (x + 1) u.kids, (pre.length : Int), d + 1⟩ := by
    intro j x u hx hu
    have hx' := Zyj _ _ _ _ hx
    obtain ⟨pre', post', e, el⟩ := Z1lx k ns ks le pr sc pre post p d j u hu
    refine ⟨hx', ?_⟩
    have e2 : x = pre'.length := by omega
    rw [e, e2, List.getElem?_append_right (Nat.le_refl _), Nat.sub_self, Z1lw]
  by_cases hi : i = pre.length
  · subst hi
    rw [hroot] at hn
    cases hn
    refine ⟨⟨Zyi ks _, fun j x hx => ?_⟩, fun _ => ⟨rfl, rfl⟩, fun h => absurd h (by omega)⟩
    have hj : j < ks.length := by
      have := (List.getElem?_eq_some_iff.1 hx).1
      rw [Zyi] at this; exact this
    have hu := List.getElem?_eq_getElem hj
    obtain ⟨a1, a2⟩ := hkid j x _ hx hu
    exact ⟨_, _, hu, a1, a2, rfl, rfl, rfl⟩
  · rw [cnt] at h2
    obtain ⟨j, u, e1, e2, e3⟩ := Z1lz ks (pre.length + 1) i (by omega) (by omega)
    obtain ⟨pre', post', e, el⟩ := Z1lx k ns ks le pr sc pre post p d j u e1
    have hx : (Zly (pre.length + 1) ks)[j]? = some pre'.length := by
      have hj : j < (Zly (pre.length + 1) ks).length := by
        rw [Zyi]; exact (List.getElem?_eq_some_iff.1 e1).1
      rw [List.getElem?_eq_getElem hj]
      have := Zyj _ _ _ _ (List.getElem?_eq_getElem hj)
      rw [this, el]
    rw [e] at hn hroot ⊢
    obtain ⟨b1, b2, b3⟩ := ih u (List.mem_of_getElem? e1) pre' post' (pre.length : Int) (d + 1) i n (by omega) (by omega) hn
    refine ⟨b1, fun h => absurd h hi, fun _ => ?_⟩
    by_cases h4 : i = pre'.length
    · obtain ⟨c1, c2⟩ := b2 h4
      exact ⟨⟨pre.length, _, j, c1, by omega, hroot, by rw [h4]; exact hx, c2⟩⟩
    · exact b3 (by omega)
theorem Z1m1 (t : Ty) : TreeN (Zm4 t) := by
  rw [Zm4]
  split
  · have h := Z1m0 t [] [] (-1) 1
    simp only [List.length_nil, List.nil_append, List.append_nil, Nat.zero_add] at h
    have hlt : ∀ {i n}, (Zlz 0 (-1) 1 t)[i]? = some n → i < cnt t := fun {i n} hn => by
      have := (List.getElem?_eq_some_iff.1 hn).1
      rw [Zm1] at this; exact this
    exact ⟨fun i n hn => (h i n (by omega) (hlt hn) hn).1, fun i n hn hi => (h i n (by omega) (hlt hn) hn).2.2 hi, fun n hn => (h 0 n (by omega) (hlt hn) hn).2.1 rfl⟩
  · exact ⟨fun i n hn => by simp at hn, fun i n hn => by simp at hn, fun n hn => by simp at hn⟩
inductive Anc (l : List Nd) (a : Nat) : Nat → Prop
  | refl : Anc l a a
  | step {c p : Nat} {n : Nd} (hc : l[c]? = some n) (hp : n.parent = (p : Int)) (h : Anc l a p) : Anc l a c
theorem TreeN.up {l : List Nd} (h : TreeN l) {i p : Nat} {n : Nd} (hn : l[i]? = some n) (hp : n.parent = (p : Int)) : p < i := by
  by_cases h0 : i = 0
  · subst h0
    have := (h.root n hn).1
    omega
  · obtain ⟨⟨p', q, j, e1, e2, _⟩⟩ := h.par i n hn (by omega)
    omega
theorem Anc.le {l : List Nd} (h : TreeN l) {a c : Nat} (ha : Anc l a c) : a ≤ c := by
  induction ha with
  | refl => exact Nat.le_refl _
  | step hc hp _ ih => have := h.up hc hp; omega
theorem Anc.chain {l : List Nd} {x c : Nat} (h1 : Anc l x c) : ∀ {y : Nat}, Anc l y c → Anc l x y ∨ Anc l y x := by
  induction h1 with
  | refl => intro y hy; exact .inr hy
  | step hc hp h ih =>
    intro y hy
    cases hy with
    | refl => exact .inl (.step hc hp h)
    | step hc' hp' h' =>
      rw [hc] at hc'
      cases hc'
      rw [hp] at hp'
      rw [← Int.ofNat.inj hp'] at h'
      exact ih h'
theorem Anc.over {l : List Nd} {a x c : Nat} {m : Nd} (hx : l[x]? = some m) (hp : m.parent = (a : Int)) (h : Anc l x c) : Anc l a c := by
  induction h with
  | refl => exact .step hx hp .refl
  | step hc hp' _ ih => exact .step hc hp' ih
theorem Anc.sib {l : List Nd} (h : TreeN l) {a x y c : Nat} {m n : Nd} (hx : l[x]? = some m) (hp : m.parent = (a : Int)) (hy : l[y]? = some n) (hq : n.parent = (a : Int)) (h1 : Anc l x c) (h2 : Anc l y c) : x = y := by
  have key : ∀ {x y : Nat} {m n : Nd}, l[x]? = some m → m.parent = (a : Int) → l[y]? = some n → n.parent = (a : Int) → Anc l x y → x = y := by
    intro x y m n hx hp hy hq hh
    cases hh with
    | refl => rfl
    | step hc hp' h' =>
      rw [hy] at hc
      cases hc
      rw [hq] at hp'
      rw [← Int.ofNat.inj hp'] at h'
      have := h'.le h
      have := h.up hx hp
      omega
  rcases h1.chain h2 with e | e
  · exact key hx hp hy hq e
  · exact (key hy hq hx hp e).symm
theorem Z1m2 (t : Ty) (i : Int) : ∀ (ks : List Vl) (j m : Nat) (v : Vl), Zmg t i j ks = 0 → ks[m]? = some v → vchk (kidT t i (j + m)) v = 0
  | [], j, m, v, _, h => by simp at h
  | w :: ws, j, m, v, h, hv => by
    rw [Zmg] at h
    split at h
    · cases h
    · split at h
      · rename_i h1; exact absurd h h1
      · rename_i h1
        cases m with
        | zero => simp only [List.getElem?_cons_zero, Option.some.injEq] at hv; subst hv; simpa using h1
        | succ m =>
          have := Z1m2 t i ws (j + 1) m v h (by simpa using hv)
          rw [show j + (m + 1) = j + 1 + m by omega]; exact this
theorem Z1m3 {t : Ty} {i n : Int} {b : List UInt8} {ks : List Vl} (h : vchk t (.mk false i n b ks) = 0) : ownV t i n b ks.length = 0 ∧ Zmg t i 0 ks = 0 := by
  rw [vchk, if_neg (by simp)] at h
  split at h
  · rename_i h1; exact absurd h h1
  · rename_i h1; exact ⟨by simpa using h1, h⟩
theorem Z1m4 {l : List Nd} (hT : TreeN l) {a : Nat} {n : Nd} (hn : l[a]? = some n) (hok : n.t.Ok) {i m : Int} {b : List UInt8} {ks : List Vl} (hv : vchk n.t (.mk false i m b ks) = 0) {j : Nat} {v : Vl} (hj : ks[j]? = some v) :
    ∃ x q, n.kids[Zmf n.t.kind i j]? = some x ∧ kidC l a (Zyh l a) i j = x ∧ l[x]? = some q ∧ q.parent = (a : Int) ∧ q.t = kidT n.t i j ∧ q.t.Ok ∧ vchk q.t v = 0 := by
  obtain ⟨ho, hL⟩ := Z1m3 hv
  have hjl := (List.getElem?_eq_some_iff.1 hj).1
  obtain ⟨hka, _⟩ := Ztv hok ho hjl
  have hN := hT.nok a n hn
  have hlt : Zmf n.t.kind i j < n.kids.length := by rw [hN.len]; exact hka
  have hx := List.getElem?_eq_getElem hlt
  obtain ⟨u, q, h1, h2, h3, h4, h5, h6⟩ := hN.kids _ _ hx
  have hu : q.t = kidT n.t i j := by rw [kidT, List.getD_eq_getElem?_getD, h1, h4]; rfl
  refine ⟨_, q, hx, ?_, h3, h5, hu, ?_, ?_⟩
  · rw [Zyh, hn]
    simp only
    rw [kidC, hn]
    simp only
    rw [List.getD_eq_getElem?_getD, hx]; rfl
  · rw [hu]; exact Ztw hok hka
  · rw [hu]
    have := Z1m2 n.t i ks 0 j v hL hj
    rw [Nat.zero_add] at this; exact this
theorem Z1m5 {l : List Nd} {a c : Nat} {i : Int} : ∀ (ks : List Vl) (j : Nat), (∀ m v, ks[m]? = some v → pcon l (kidC l a (Zyh l a) i (j + m)) c v = col0) → pconL l a c i j ks = col0
  | [], j, _ => by rw [pconL]
  | v :: vs, j, h => by
    rw [pconL, Z1m5 vs (j + 1) (fun m w hw => by have := h (m + 1) w (by simpa using hw); rw [show j + 1 + m = j + (m + 1) by omega]; exact this)]
    have := h 0 v rfl
    rw [Nat.add_zero] at this
    rw [this, Z1ln]
theorem Z1m6 {l : List Nd} {a c : Nat} {i : Int} : ∀ (ks : List Vl) (j m : Nat) (v : Vl), ks[m]? = some v → (∀ m' v, m' ≠ m → ks[m']? = some v → pcon l (kidC l a (Zyh l a) i (j + m')) c v = col0) → pconL l a c i j ks = pcon l (kidC l a (Zyh l a) i (j + m)) c v
  | [], j, m, v, h, _ => by simp at h
  | w :: ws, j, 0, v, h, hz => by
    simp only [List.getElem?_cons_zero, Option.some.injEq] at h
    subst h
    rw [pconL, Z1m5 ws (j + 1) (fun m' v' hv' => by have := hz (m' + 1) v' (by omega) (by simpa using hv'); rw [show j + 1 + m' = j + (m' + 1) by omega]; exact this), Z1ln, Nat.add_zero]
  | w :: ws, j, m + 1, v, h, hz => by
    rw [pconL, Z1m6 ws (j + 1) m v (by simpa using h) (fun m' v' hm hv' => by have := hz (m' + 1) v' (by omega) (by simpa using hv'); rw [show j + 1 + m' = j + (m' + 1) by omega]; exact this)]
    have := hz 0 w (by omega) rfl
    rw [Nat.add_zero] at this
    rw [this, Z1lo, show j + 1 + m = j + (m + 1) by omega]
theorem Z1m7 {l : List Nd} (hT : TreeN l) {c : Nat} : ∀ (v : Vl) (a : Nat) (n : Nd), l[a]? = some n → n.t.Ok → vchk n.t v = 0 → ¬ Anc l a c → pcon l a c v = col0 := by
  refine Vl.ind fun nu i m b ks ih a n hn hok hv hna => ?_
  have hca : c ≠ a := fun e => hna (by rw [e]; exact .refl)
  rw [pcon, if_neg hca, if_neg hca]
  cases nu with
  | true => rw [if_pos rfl]
  | false =>
    rw [if_neg (by simp), Z1lo]
    refine Z1m5 ks 0 fun j v hj => ?_
    rw [Nat.zero_add]
    obtain ⟨x, q, h1, h2, h3, h4, h5, h6, h7⟩ := Z1m4 hT hn hok hv hj
    rw [h2]
    exact ih v (List.mem_of_getElem? hj) x q h3 h6 h7 fun hh => hna (hh.over h3 h4)
end Go.Abs
namespace Go.Abs
open Go Go.Proofs
set_option linter.unusedVariables false
set_option linter.unusedSimpArgs false
set_option maxHeartbeats 4000000
attribute [local irreducible] AWp aops KP
structure Tm where
  col : Int
  op : Int
  v : Vl
def Z17q (t : Tm) : List Z0 := .int .i64 t.col :: .int .i64 t.op :: Zm6 t.v
def encM (t : Tm) : Z0 := .agg (Z17q t)
structure WfN (l : List Nd) : Prop where
  len : l.length ≤ 1000000
  up : ∀ (i : Nat) (n : Nd), l[i]? = some n → -1 ≤ n.parent ∧ n.parent < i
  kids : ∀ n ∈ l, n.kids.length ≤ 1000000
def tyN (n : Nd) : Ty := .mk n.t.kind [] [] n.t.len n.t.prec n.t.scale
theorem c_typ (n : Nd) (σ : Zc) : Z1q Try.prog Zem [encN n] σ fun r σ' => r = encT (tyN n) ∧ σ' = σ := by
  have hv : VRle [.agg [.int .i64 n.t.kind, .slc 0 [] true, .slc 0 [] true, .int .i64 n.t.len, .int .i64 n.t.prec, .int .i64 n.t.scale]] [encT (tyN n)] := by
    rw [tyN, encT]
    (repeat (first | exact VRle.refl _ | exact Zc5 | refine Zc6 rfl rfl ?_ | refine Zc7 rfl ?_ | refine Zc4 ?_ ?_))
  refine Z21.le ?_ hv
  refine Z8t rfl Z17l (Nat.le_of_ble_eq_true rfl) ?_
  refine Z9z ?_
  refine Z9j rfl (Z0.fit_iff.1 rfl) fun b hb => ?_
  refine Z9k (by simp [Z0.cells, Z0.one]) fun b2 hb2 => ?_
  (repeat (refine st_q rfl rfl rfl ?_))
  (refine Z8y ?_; (repeat (first | refine Z9v rfl ?_ | refine Z9w ?_)); refine Z9u ?_)
  refine Z8a (FSub.refl _) (τ := (b, .cells 8 [.agg (Zm2 n)]) :: (b2, .cells 6 [.agg [.int .i64 0, .slc 0 [] true, .slc 0 [] true, .int .i64 0, .int .i64 0, .int .i64 0]]) :: σ) (HSub.of_perm (List.Perm.swap _ _ _)) ?_
  refine Zb3 (d := 1) (cs := Zm2 n) rfl ?_
  (repeat (first | refine st_q rfl rfl rfl ?_ | refine awp_seq ?_ | refine Zbm (fun _ _ => rfl) ?_))
  refine Z9a rfl Z8z rfl (by decide) (Z0.fit_iff.1 rfl) (fun h => by cases h) Z9b ?_
  (repeat (refine Z8y ?_; (repeat (first | refine Z9v rfl ?_ | refine Z9w ?_)); refine Z9u ?_))
  refine Zb3 (d := 2) (cs := [.int .i64 n.t.kind, .slc 0 [] true, .slc 0 [] true, .int .i64 n.t.len, .int .i64 n.t.prec, .int .i64 n.t.scale]) rfl ?_
  refine Z8d ?_
  exact ares rfl (HSub.refl _) ⟨rfl, rfl⟩
def Z17r : Vl → Bool
  | .mk nu i n b ks => decide (nu = false ∧ i = 0 ∧ n = 0 ∧ b.length = 0 ∧ ks.length = 0)
theorem Z17s (v : Vl) (σ : Zc) : Z1q Try.prog Zes [encV v] σ fun r σ' => r = .bool (Z17r v) ∧ σ' = σ := by
  obtain ⟨nu, i, n, b, ks⟩ := v
  simp only [encV, Z17r]
  refine Z8t rfl Z17n (Nat.le_of_ble_eq_true rfl) ?_
  refine Z9z ?_
  refine Z9j rfl (Z0.fit_iff.1 rfl) fun b1 hb1 => ?_
  (repeat (refine st_q rfl rfl rfl ?_))
  (refine Z8y ?_; (repeat (first | refine Z9v rfl ?_ | refine Z9w ?_)); refine Z9u ?_)
  refine Zb3 (d := 1) (cs := [.bool nu, .int .i64 i, .int .i64 n, .slc 1 (bytes b) false, .slc 5 (Zm5 ks) false]) rfl ?_
  have hk : (Zm5 ks).length = ks.length := by rw [Zm8, List.length_map]
  cases nu with
  | true =>
    (repeat (first | refine st_q rfl rfl rfl ?_ | refine Z8w rfl ?_ | (refine Z8y ?_; (repeat (first | refine Z9v rfl ?_ | refine Z9w ?_)); refine Z9u ?_) | refine awp_seq ?_ | refine Zbm (fun _ _ => rfl) ?_))
    refine Z8d ?_
    exact ares rfl (HSub.refl _) ⟨rfl, rfl⟩
  | false =>
    by_cases h1 : i = 0
    case neg =>
      (repeat (first | refine st_q rfl rfl rfl ?_ | refine Z8v rfl (st_q rfl rfl rfl ?_) | refine awp_seq ?_ | refine Zbm (fun _ _ => rfl) ?_))
      (rw [show decide (i = 0) = false from decide_eq_false (by omega)])
      (repeat (first | refine st_q rfl rfl rfl ?_ | refine Z8w rfl ?_ | (refine Z8y ?_; (repeat (first | refine Z9v rfl ?_ | refine Z9w ?_)); refine Z9u ?_)))
      refine Z8d ?_
      exact ares rfl (HSub.refl _) ⟨by rw [decide_eq_false (by simp [h1])]; rfl, rfl⟩
    by_cases h2 : n = 0
    case neg =>
      (repeat (first | refine st_q rfl rfl rfl ?_ | refine Z8v rfl (st_q rfl rfl rfl ?_) | refine awp_seq ?_ | refine Zbm (fun _ _ => rfl) ?_))
      (rw [show decide (i = 0) = true from decide_eq_true (by omega)])
      (repeat (first | refine st_q rfl rfl rfl ?_ | refine Z8v rfl (st_q rfl rfl rfl ?_)))
      (rw [show decide (n = 0) = false from decide_eq_false (by omega)])
      (repeat (first | refine st_q rfl rfl rfl ?_ | refine Z8w rfl ?_ | (refine Z8y ?_; (repeat (first | refine Z9v rfl ?_ | refine Z9w ?_)); refine Z9u ?_)))
      refine Z8d ?_
      exact ares rfl (HSub.refl _) ⟨by rw [decide_eq_false (by simp [h2])]; rfl, rfl⟩
    by_cases h3 : b.length = 0
    case neg =>
      (repeat (first | refine st_q rfl rfl rfl ?_ | refine Z8v rfl (st_q rfl rfl rfl ?_) | refine awp_seq ?_ | refine Zbm (fun _ _ => rfl) ?_))
      (rw [show decide (i = 0) = true from decide_eq_true (by omega)])
      (repeat (first | refine st_q rfl rfl rfl ?_ | refine Z8v rfl (st_q rfl rfl rfl ?_)))
      (rw [show decide (n = 0) = true from decide_eq_true (by omega)])
      (repeat (first | refine st_q rfl rfl rfl ?_ | refine Z8v rfl (st_q rfl rfl rfl ?_)))
      rw [Zam]
      (rw [show decide ((b.length : Int) = 0) = false from decide_eq_false (by omega)])
      (repeat (first | refine st_q rfl rfl rfl ?_ | refine Z8w rfl ?_ | (refine Z8y ?_; (repeat (first | refine Z9v rfl ?_ | refine Z9w ?_)); refine Z9u ?_)))
      refine Z8d ?_
      exact ares rfl (HSub.refl _) ⟨by rw [decide_eq_false (by simp only [h3]; simp)]; rfl, rfl⟩
    by_cases h4 : ks.length = 0
    · rw [show decide (false = false ∧ i = 0 ∧ n = 0 ∧ b.length = 0 ∧ ks.length = 0) = true from decide_eq_true ⟨rfl, h1, h2, h3, h4⟩]
      (repeat (first | refine st_q rfl rfl rfl ?_ | refine Z8v rfl (st_q rfl rfl rfl ?_) | refine awp_seq ?_ | refine Zbm (fun _ _ => rfl) ?_))
      (rw [show decide (i = 0) = true from decide_eq_true (by omega)])
      (repeat (first | refine st_q rfl rfl rfl ?_ | refine Z8v rfl (st_q rfl rfl rfl ?_)))
      (rw [show decide (n = 0) = true from decide_eq_true (by omega)])
      (repeat (first | refine st_q rfl rfl rfl ?_ | refine Z8v rfl (st_q rfl rfl rfl ?_)))
      rw [Zam]
      (rw [show decide ((b.length : Int) = 0) = true from decide_eq_true (by omega)])
      (repeat (first | refine st_q rfl rfl rfl ?_ | refine Z8v rfl (st_q rfl rfl rfl ?_) | (refine Z8y ?_; (repeat (first | refine Z9v rfl ?_ | refine Z9w ?_)); refine Z9u ?_)))
      rw [hk]
      (rw [show decide ((ks.length : Int) = 0) = true from decide_eq_true (by omega)])
      refine Z8d ?_
      exact ares rfl (HSub.refl _) ⟨rfl, rfl⟩
    · rw [show decide (false = false ∧ i = 0 ∧ n = 0 ∧ b.length = 0 ∧ ks.length = 0) = false from decide_eq_false fun h => h4 h.2.2.2.2]
      (repeat (first | refine st_q rfl rfl rfl ?_ | refine Z8v rfl (st_q rfl rfl rfl ?_) | refine awp_seq ?_ | refine Zbm (fun _ _ => rfl) ?_))
      (rw [show decide (i = 0) = true from decide_eq_true (by omega)])
      (repeat (first | refine st_q rfl rfl rfl ?_ | refine Z8v rfl (st_q rfl rfl rfl ?_)))
      (rw [show decide (n = 0) = true from decide_eq_true (by omega)])
      (repeat (first | refine st_q rfl rfl rfl ?_ | refine Z8v rfl (st_q rfl rfl rfl ?_)))
      rw [Zam]
      (rw [show decide ((b.length : Int) = 0) = true from decide_eq_true (by omega)])
      (repeat (first | refine st_q rfl rfl rfl ?_ | refine Z8v rfl (st_q rfl rfl rfl ?_) | (refine Z8y ?_; (repeat (first | refine Z9v rfl ?_ | refine Z9w ?_)); refine Z9u ?_)))
      rw [hk]
      (rw [show decide ((ks.length : Int) = 0) = false from decide_eq_false (by omega)])
      refine Z8d ?_
      exact ares rfl (HSub.refl _) ⟨rfl, rfl⟩
def idxF : List Nat → Int → Nat → Int
  | [], _, _ => -1
  | k :: ks, c, i => if (k : Int) = c then (i : Int) else idxF ks c (i + 1)
theorem Z17t : ∀ (ks : List Nat) (c : Int) (i : Nat), idxF ks c i = -1 ∨ (i : Int) ≤ idxF ks c i ∧ idxF ks c i < (i + ks.length : Nat)
  | [], _, _ => .inl rfl
  | k :: ks, c, i => by
    rw [idxF]
    split
    · right; simp only [List.length_cons]; omega
    · rcases Z17t ks c (i + 1) with h | h
      · exact .inl h
      · right; simp only [List.length_cons]; omega
theorem Z17u {l : List Nd} {i : Int} {n : Nd} (h : l[i.toNat]? = some n) : (l.map encN)[i.toNat]? = some (encN n) := by rw [List.getElem?_map, h]; rfl
theorem Z17v (l : List Nd) (f : Bool) (col : Int) (h0 : 0 ≤ col) (n q : Nd) (hn : l[col.toNat]? = some n) (hp : 0 ≤ n.parent) (hq : l[n.parent.toNat]? = some q) (hk : q.kids.length ≤ 1000000) (σ : Zc) :
    Z1q Try.prog Zfh [.slc 8 (l.map encN) f, .int .i64 col] σ fun r σ' => r = .int .i64 (idxF q.kids col 0) ∧ σ' = σ := by
  have hil : (ints q.kids).length = q.kids.length := List.length_map ..
  refine Z8t rfl Z17p (Nat.le_of_ble_eq_true rfl) ?_
  (repeat (first | refine st_q rfl rfl rfl ?_ | (refine Z8y ?_; (repeat (first | refine Z9v rfl ?_ | refine Z9w ?_)); refine Z9u ?_) | refine awp_seq ?_ | refine Zbm (fun _ _ => rfl) ?_))
  refine Z93 rfl h0 (Z17u hn) ?_
  rw [encN]
  (repeat refine st_q rfl rfl rfl ?_)
  refine Z93 rfl hp (Z17u hq) ?_
  rw [encN]
  (repeat (first | refine st_q rfl rfl rfl ?_ | (refine Z8y ?_; (repeat (first | refine Z9v rfl ?_ | refine Z9w ?_)); refine Z9u ?_) | refine Z8h ?_))
  rw [hil]
  refine Zaa (fun m F σ' => ∃ i : Nat, F = fset 1 (some (.int .i64 col)) (fset 15 (some (.slc 1 (ints q.kids) true)) (fset 16 (some (.int .i64 q.kids.length)) (fset 17 (some (.int .i64 i)) Z27))) ∧ σ = σ' ∧ i ≤ q.kids.length ∧ m = q.kids.length - i ∧ idxF (q.kids.drop i) col i = idxF q.kids col 0) (n := q.kids.length)
    ⟨0, rfl, rfl, by omega, by omega, by simp⟩ ?_
  rintro m F σ' ⟨i, rfl, rfl, hi, rfl, he⟩
  (repeat (first | refine st_q rfl rfl rfl ?_ | (refine Z8y ?_; (repeat (first | refine Z9v rfl ?_ | refine Z9w ?_)); refine Z9u ?_) | refine awp_seq ?_ | refine Zbm (fun _ _ => rfl) ?_))
  refine Za3 (p := (i : Int) < (q.kids.length : Int)) rfl (fun h3 => ?_) (fun h3 => ?_)
  · obtain ⟨k, hk1⟩ : ∃ k, q.kids[i]? = some k := ⟨_, List.getElem?_eq_getElem (by omega)⟩
    have hx : (ints q.kids)[(i : Int).toNat]? = some (.int .i64 (k : Int)) := by rw [Int.toNat_natCast, ints, List.getElem?_map, hk1]; rfl
    have hd : q.kids.drop i = k :: q.kids.drop (i + 1) := by
      rw [List.drop_eq_getElem_cons (by omega)]
      congr 1
      have := List.getElem?_eq_getElem (l := q.kids) (i := i) (by omega)
      rw [hk1] at this
      exact (Option.some.inj this).symm
    rw [hd, idxF] at he
    (repeat (first | refine st_q rfl rfl rfl ?_ | refine awp_seq ?_ | refine Zbm (fun _ _ => rfl) ?_ | refine Z8h ?_ | refine Zbn (fun _ _ => rfl) ?_))
    refine Z93 rfl (by omega) hx ?_
    (repeat (first | refine st_q rfl rfl rfl ?_ | (refine Z8y ?_; (repeat (first | refine Z9v rfl ?_ | refine Z9w ?_)); refine Z9u ?_) | refine awp_seq ?_ | refine Zbm (fun _ _ => rfl) ?_))
    refine Za3 (p := (k : Int) = col) rfl (fun h4 => ?_) (fun h4 => ?_)
    · rw [if_pos h4] at he
      rw [← he]
      (repeat (first | refine st_q rfl rfl rfl ?_ | (refine Z8y ?_; (repeat (first | refine Z9v rfl ?_ | refine Z9w ?_)); refine Z9u ?_) | refine awp_seq ?_ | refine Zbm (fun _ _ => rfl) ?_))
      refine Z8d ?_
      exact ares rfl (HSub.refl _) ⟨rfl, rfl⟩
    · rw [if_neg h4] at he
      refine Zbn (fun _ _ => rfl) ?_
      refine awp_region ?_
      (repeat (refine st_q rfl rfl rfl ?_))
      rw [show IntKind.wrap .i64 ((i : Int) + 1) = ((i + 1 : Nat) : Int) by rw [w64 _ (by omega) (by omega)]; omega]
      (repeat (refine st_q rfl rfl rfl ?_))
      refine Z8y ?_
      refine Zac (keep := [1, 15, 16, 17]) ?_
      ((repeat (first | refine Z9v rfl ?_ | refine Z9w ?_)); refine Z9u ?_)
      exact ⟨_, _, HSub.refl _, ⟨i + 1, rfl, rfl, by omega, rfl, he⟩, by omega⟩
  · (repeat (first | refine st_q rfl rfl rfl ?_ | (refine Z8y ?_; (repeat (first | refine Z9v rfl ?_ | refine Z9w ?_)); refine Z9u ?_) | refine awp_seq ?_ | refine Zbm (fun _ _ => rfl) ?_ | refine Zbo (fun _ _ => rfl) ?_))
    have e : q.kids.drop i = [] := List.drop_eq_nil_of_le (by omega)
    rw [e, idxF] at he
    rw [← he]
    refine Z8d ?_
    exact ares rfl (HSub.refl _) ⟨rfl, rfl⟩
def upF (l : List Nd) : Nat → Int → Bool
  | 0, _ => true
  | f + 1, p => if p < 0 ∨ (l.length : Int) ≤ p then true else
    match l[p.toNat]? with
    | none => true
    | some n => if n.t.kind = 12 then upF l f n.parent else false
def goodF (l : List Nd) (col : Int) : Bool :=
  if col < 0 ∨ (l.length : Int) ≤ col then false else
  match l[col.toNat]? with
  | none => false
  | some n => Zlt n.t.kind && upF l (n.parent + 1).toNat n.parent
theorem Z17w (l : List Nd) (hw : WfN l) (f : Bool) (col : Int) (σ : Zc) : Z1q Try.prog Zeh [.slc 8 (l.map encN) f, .int .i64 col] σ fun r σ' => r = .bool (goodF l col) ∧ σ' = σ := by
  have hml : (l.map encN).length = l.length := List.length_map ..
  have hlen := hw.len
  refine Z8t rfl Z17i (Nat.le_of_ble_eq_true rfl) ?_
  by_cases h1 : col < 0
  · (repeat (first | refine st_q rfl rfl rfl ?_ | (refine Z8y ?_; (repeat (first | refine Z9v rfl ?_ | refine Z9w ?_)); refine Z9u ?_) | refine awp_seq ?_ | refine Zbm (fun _ _ => rfl) ?_))
    (rw [show decide (col < 0) = true from decide_eq_true (by omega)])
    (repeat (first | refine st_q rfl rfl rfl ?_ | refine Z8w rfl ?_ | (refine Z8y ?_; (repeat (first | refine Z9v rfl ?_ | refine Z9w ?_)); refine Z9u ?_) | refine awp_seq ?_ | refine Zbm (fun _ _ => rfl) ?_ | refine Z8f (t := true) rfl (fun _ => ?_) (fun e => by cases e)))
    refine Z8d ?_
    exact ares rfl (HSub.refl _) ⟨by rw [goodF, if_pos (.inl h1)]; rfl, rfl⟩
  by_cases h2 : (l.length : Int) ≤ col
  · (repeat (first | refine st_q rfl rfl rfl ?_ | (refine Z8y ?_; (repeat (first | refine Z9v rfl ?_ | refine Z9w ?_)); refine Z9u ?_) | refine awp_seq ?_ | refine Zbm (fun _ _ => rfl) ?_))
    (rw [show decide (col < 0) = false from decide_eq_false (by omega)])
    (repeat (first | refine st_q rfl rfl rfl ?_ | refine Z8v rfl (st_q rfl rfl rfl ?_)))
    rw [hml]
    (rw [show decide (col ≥ (l.length : Int)) = true from decide_eq_true (by omega)])
    (repeat (first | refine st_q rfl rfl rfl ?_ | refine Z8w rfl ?_ | (refine Z8y ?_; (repeat (first | refine Z9v rfl ?_ | refine Z9w ?_)); refine Z9u ?_) | refine awp_seq ?_ | refine Zbm (fun _ _ => rfl) ?_ | refine Z8f (t := true) rfl (fun _ => ?_) (fun e => by cases e)))
    refine Z8d ?_
    exact ares rfl (HSub.refl _) ⟨by rw [goodF, if_pos (.inr h2)]; rfl, rfl⟩
  obtain ⟨n, hn⟩ : ∃ n, l[col.toNat]? = some n := ⟨_, List.getElem?_eq_getElem (by omega)⟩
  have hg : goodF l col = (Zlt n.t.kind && upF l (n.parent + 1).toNat n.parent) := by rw [goodF, if_neg (by omega), hn]
  rw [hg]
  have hup := hw.up _ _ hn
  (repeat (first | refine st_q rfl rfl rfl ?_ | (refine Z8y ?_; (repeat (first | refine Z9v rfl ?_ | refine Z9w ?_)); refine Z9u ?_) | refine awp_seq ?_ | refine Zbm (fun _ _ => rfl) ?_))
  (rw [show decide (col < 0) = false from decide_eq_false (by omega)])
  (repeat (first | refine st_q rfl rfl rfl ?_ | refine Z8v rfl (st_q rfl rfl rfl ?_)))
  rw [hml]
  (rw [show decide (col ≥ (l.length : Int)) = false from decide_eq_false (by omega)])
  (repeat refine Z8v rfl (st_q rfl rfl rfl ?_))
  refine Z8v rfl (Z93 rfl (by omega) (Z17u hn) ?_)
  rw [encN]
  (repeat refine Z8v rfl (st_q rfl rfl rfl ?_))
  refine Z8v rfl (Z9t rfl (Zmw _ _) ?_)
  cases hl : Zlt n.t.kind with
  | false =>
    (repeat (first | refine st_q rfl rfl rfl ?_ | refine Z8v rfl (st_q rfl rfl rfl ?_) | (refine Z8y ?_; (repeat (first | refine Z9v rfl ?_ | refine Z9w ?_)); refine Z9u ?_) | refine awp_seq ?_ | refine Zbm (fun _ _ => rfl) ?_ | refine Z8f (t := true) rfl (fun _ => ?_) (fun e => by cases e)))
    refine Z8d ?_
    exact ares rfl (HSub.refl _) ⟨rfl, rfl⟩
  | true =>
    rw [Bool.true_and]
    (repeat (first | refine st_q rfl rfl rfl ?_ | refine Z8v rfl (st_q rfl rfl rfl ?_) | (refine Z8y ?_; (repeat (first | refine Z9v rfl ?_ | refine Z9w ?_)); refine Z9u ?_) | refine awp_seq ?_ | refine Zbm (fun _ _ => rfl) ?_ | refine Zbn (fun _ _ => rfl) ?_ | refine Z8f (t := false) rfl (fun e => by cases e) (fun _ => ?_)))
    refine Z93 rfl (by omega) (Z17u hn) ?_
    rw [encN]
    (repeat (first | refine st_q rfl rfl rfl ?_ | (refine Z8y ?_; (repeat (first | refine Z9v rfl ?_ | refine Z9w ?_)); refine Z9u ?_) | refine Z8h ?_))
    refine Zaa (fun m F σ' => ∃ p : Int, F = fset 0 (some (.slc 8 (l.map encN) f)) (fset 5 (some (.int .i64 p)) Z27) ∧ σ = σ' ∧ -1 ≤ p ∧ p < l.length ∧ m = (p + 1).toNat ∧ upF l (p + 1).toNat p = upF l (n.parent + 1).toNat n.parent) (n := (n.parent + 1).toNat)
      ⟨n.parent, rfl, rfl, by omega, by omega, rfl, rfl⟩ ?_
    rintro m F σ' ⟨p, rfl, rfl, hp1, hp2, rfl, he⟩
    by_cases h3 : 0 ≤ p
    · obtain ⟨q, hq⟩ : ∃ q, l[p.toNat]? = some q := ⟨_, List.getElem?_eq_getElem (by omega)⟩
      obtain ⟨j, hj⟩ : ∃ j, (p + 1).toNat = j + 1 := ⟨p.toNat, by omega⟩
      have hupq := hw.up _ _ hq
      rw [hj, upF, if_neg (by omega), hq] at he
      simp only at he
      (repeat (first | refine st_q rfl rfl rfl ?_ | refine awp_seq ?_ | refine Zbm (fun _ _ => rfl) ?_))
      (rw [show decide (p ≥ 0) = true from decide_eq_true (by omega)])
      (repeat (first | refine st_q rfl rfl rfl ?_ | refine Z8v rfl (st_q rfl rfl rfl ?_) | (refine Z8y ?_; (repeat (first | refine Z9v rfl ?_ | refine Z9w ?_)); refine Z9u ?_)))
      rw [hml]
      (rw [show decide (p < (l.length : Int)) = true from decide_eq_true (by omega)])
      (repeat (first | refine st_q rfl rfl rfl ?_ | refine awp_seq ?_ | refine Zbm (fun _ _ => rfl) ?_ | refine Z8h ?_ | refine Zbn (fun _ _ => rfl) ?_ | refine Z8f (t := true) rfl (fun _ => ?_) (fun e => by cases e)))
      refine Z93 rfl (by omega) (Z17u hq) ?_
      rw [encN]
      (repeat (first | refine st_q rfl rfl rfl ?_ | (refine Z8y ?_; (repeat (first | refine Z9v rfl ?_ | refine Z9w ?_)); refine Z9u ?_)))
      refine Za3 (p := q.t.kind ≠ 12) rfl (fun h4 => ?_) (fun h4 => ?_)
      · rw [if_neg h4] at he
        rw [← he]
        (repeat (first | refine st_q rfl rfl rfl ?_ | (refine Z8y ?_; (repeat (first | refine Z9v rfl ?_ | refine Z9w ?_)); refine Z9u ?_) | refine awp_seq ?_ | refine Zbm (fun _ _ => rfl) ?_))
        refine Z8d ?_
        exact ares rfl (HSub.refl _) ⟨rfl, rfl⟩
      · rw [if_pos (by omega)] at he
        refine Zbn (fun _ _ => rfl) ?_
        refine awp_region ?_
        (repeat (refine st_q rfl rfl rfl ?_))
        refine Z93 rfl (by omega) (Z17u hq) ?_
        rw [encN]
        (repeat (refine st_q rfl rfl rfl ?_))
        refine Z8y ?_
        refine Zac (keep := [0, 5]) ?_
        ((repeat (first | refine Z9v rfl ?_ | refine Z9w ?_)); refine Z9u ?_)
        refine ⟨_, _, HSub.refl _, ⟨q.parent, rfl, rfl, by omega, by omega, rfl, ?_⟩, by omega⟩
        rw [← he]
        have hmono : ∀ (a b : Nat) (x : Int), (x + 1).toNat ≤ a → (x + 1).toNat ≤ b → x < l.length → upF l a x = upF l b x := by
          intro a
          induction a with
          | zero =>
            intro b x h1 _ _
            cases b with
            | zero => rfl
            | succ b => rw [upF, upF, if_pos (.inl (by omega))]
          | succ a ih =>
            intro b x h1 h2 h3
            cases b with
            | zero => rw [upF, upF, if_pos (.inl (by omega))]
            | succ b =>
              rw [upF, upF]
              split
              · rfl
              · rename_i hx
                cases hlx : l[x.toNat]? with
                | none => rfl
                | some y =>
                  have := hw.up _ _ hlx
                  simp only
                  split
                  · exact ih b y.parent (by omega) (by omega) (by omega)
                  · rfl
        exact hmono _ _ _ (by omega) (by omega) (by omega)
    · have hp : p = -1 := by omega
      subst hp
      have e : upF l ((-1 : Int) + 1).toNat (-1) = true := rfl
      rw [e] at he
      rw [← he]
      (repeat (first | refine st_q rfl rfl rfl ?_ | refine Z8w rfl ?_ | (refine Z8y ?_; (repeat (first | refine Z9v rfl ?_ | refine Z9w ?_)); refine Z9u ?_) | refine awp_seq ?_ | refine Zbm (fun _ _ => rfl) ?_ | refine Zbo (fun _ _ => rfl) ?_ | refine Z8f (t := false) rfl (fun e => by cases e) (fun _ => ?_)))
      refine Z8d ?_
      exact ares rfl (HSub.refl _) ⟨rfl, rfl⟩
def Z17x (op c : Int) : Bool :=
  if op = 1 then decide (c = 0) else if op = 2 then decide (c ≠ 0) else if op = 3 then decide (c < 0) else if op = 4 then decide (c ≤ 0) else if op = 5 then decide (c > 0) else decide (c ≥ 0)
theorem Z17y (op c : Int) (σ : Zc) : Z1q Try.prog Zen [.int .i64 op, .int .i64 c] σ fun r σ' => r = .bool (Z17x op c) ∧ σ' = σ := by
  refine Z8t rfl Z17m (Nat.le_of_ble_eq_true rfl) ?_
  by_cases h1 : op = 1
  · subst h1; (repeat (first | refine st_q rfl rfl rfl ?_ | (refine Z8y ?_; (repeat (first | refine Z9v rfl ?_ | refine Z9w ?_)); refine Z9u ?_) | refine awp_seq ?_ | refine Zbm (fun _ _ => rfl) ?_ | refine Z8h ?_ | refine Z8f (t := true) rfl (fun _ => ?_) (fun e => by cases e))); refine Z8d ?_; exact ares rfl (HSub.refl _) ⟨rfl, rfl⟩
  by_cases h2 : op = 2
  · subst h2; (repeat (first | refine st_q rfl rfl rfl ?_ | (refine Z8y ?_; (repeat (first | refine Z9v rfl ?_ | refine Z9w ?_)); refine Z9u ?_) | refine awp_seq ?_ | refine Zbm (fun _ _ => rfl) ?_ | refine Z8h ?_ | refine Z8f (t := true) rfl (fun _ => ?_) (fun e => by cases e) | refine Z8f (t := false) rfl (fun e => by cases e) (fun _ => ?_))); refine Z8d ?_; exact ares rfl (HSub.refl _) ⟨rfl, rfl⟩
  by_cases h3 : op = 3
  · subst h3; (repeat (first | refine st_q rfl rfl rfl ?_ | (refine Z8y ?_; (repeat (first | refine Z9v rfl ?_ | refine Z9w ?_)); refine Z9u ?_) | refine awp_seq ?_ | refine Zbm (fun _ _ => rfl) ?_ | refine Z8h ?_ | refine Z8f (t := true) rfl (fun _ => ?_) (fun e => by cases e) | refine Z8f (t := false) rfl (fun e => by cases e) (fun _ => ?_))); refine Z8d ?_; exact ares rfl (HSub.refl _) ⟨rfl, rfl⟩
  by_cases h4 : op = 4
  · subst h4; (repeat (first | refine st_q rfl rfl rfl ?_ | (refine Z8y ?_; (repeat (first | refine Z9v rfl ?_ | refine Z9w ?_)); refine Z9u ?_) | refine awp_seq ?_ | refine Zbm (fun _ _ => rfl) ?_ | refine Z8h ?_ | refine Z8f (t := true) rfl (fun _ => ?_) (fun e => by cases e) | refine Z8f (t := false) rfl (fun e => by cases e) (fun _ => ?_))); refine Z8d ?_; exact ares rfl (HSub.refl _) ⟨rfl, rfl⟩
  by_cases h5 : op = 5
  · subst h5; (repeat (first | refine st_q rfl rfl rfl ?_ | (refine Z8y ?_; (repeat (first | refine Z9v rfl ?_ | refine Z9w ?_)); refine Z9u ?_) | refine awp_seq ?_ | refine Zbm (fun _ _ => rfl) ?_ | refine Z8h ?_ | refine Z8f (t := true) rfl (fun _ => ?_) (fun e => by cases e) | refine Z8f (t := false) rfl (fun e => by cases e) (fun _ => ?_))); refine Z8d ?_; exact ares rfl (HSub.refl _) ⟨rfl, rfl⟩
  (repeat (first | refine st_q rfl rfl rfl ?_ | (refine Z8y ?_; (repeat (first | refine Z9v rfl ?_ | refine Z9w ?_)); refine Z9u ?_) | refine awp_seq ?_ | refine Zbm (fun _ _ => rfl) ?_ | refine Z8h ?_))
  rw [decide_eq_false h1]
  (repeat (first | refine st_q rfl rfl rfl ?_ | (refine Z8y ?_; (repeat (first | refine Z9v rfl ?_ | refine Z9w ?_)); refine Z9u ?_) | refine awp_seq ?_ | refine Zbm (fun _ _ => rfl) ?_ | refine Z8f (t := false) rfl (fun e => by cases e) (fun _ => ?_)))
  rw [decide_eq_false h2]
  (repeat (first | refine st_q rfl rfl rfl ?_ | (refine Z8y ?_; (repeat (first | refine Z9v rfl ?_ | refine Z9w ?_)); refine Z9u ?_) | refine awp_seq ?_ | refine Zbm (fun _ _ => rfl) ?_ | refine Z8f (t := false) rfl (fun e => by cases e) (fun _ => ?_)))
  rw [decide_eq_false h3]
  (repeat (first | refine st_q rfl rfl rfl ?_ | (refine Z8y ?_; (repeat (first | refine Z9v rfl ?_ | refine Z9w ?_)); refine Z9u ?_) | refine awp_seq ?_ | refine Zbm (fun _ _ => rfl) ?_ | refine Z8f (t := false) rfl (fun e => by cases e) (fun _ => ?_)))
  rw [decide_eq_false h4]
  (repeat (first | refine st_q rfl rfl rfl ?_ | (refine Z8y ?_; (repeat (first | refine Z9v rfl ?_ | refine Z9w ?_)); refine Z9u ?_) | refine awp_seq ?_ | refine Zbm (fun _ _ => rfl) ?_ | refine Z8f (t := false) rfl (fun e => by cases e) (fun _ => ?_)))
  rw [decide_eq_false h5]
  (repeat (first | refine st_q rfl rfl rfl ?_ | (refine Z8y ?_; (repeat (first | refine Z9v rfl ?_ | refine Z9w ?_)); refine Z9u ?_) | refine awp_seq ?_ | refine Zbm (fun _ _ => rfl) ?_ | refine Zbn (fun _ _ => rfl) ?_ | refine Z8f (t := false) rfl (fun e => by cases e) (fun _ => ?_)))
  refine Z8d ?_
  exact ares rfl (HSub.refl _) ⟨by rw [Z17x, if_neg h1, if_neg h2, if_neg h3, if_neg h4, if_neg h5]; rfl, rfl⟩
end Go.Abs
namespace Go.Abs
open Go Go.Proofs
set_option linter.unusedVariables false
set_option linter.unusedSimpArgs false
set_option maxHeartbeats 4000000
attribute [local irreducible] AWp aops KP
def nullV : Vl := .mk true 0 0 [] []
def stepG (v : Vl) (i : Int) : Vl := if v.null = false ∧ 0 ≤ i ∧ i < v.kids.length then v.kids.getD i.toNat vl0 else nullV
def getF (l : List Nd) : Nat → Int → Vl → Vl
  | 0, _, row => row
  | f + 1, col, row =>
    match l[col.toNat]? with
    | none => row
    | some n => if n.parent < 0 then row else
      match l[n.parent.toNat]? with
      | none => row
      | some q => stepG (getF l f n.parent row) (idxF q.kids col 0)
theorem c_get (l : List Nd) (hw : WfN l) (fl : Bool) (row : Vl) : ∀ (f : Nat) (col : Int), 0 ≤ col → col < l.length → col.toNat < f → ∀ σ, Z1q Try.prog Zek [.slc 8 (l.map encN) fl, .int .i64 col, encV row] σ fun r σ' => r = encV (getF l f col row) ∧ σ' = σ := by
  intro f
  induction f with
  | zero => intro col _ _ h; omega
  | succ f ih =>
    intro col h0 h1 hf σ
    obtain ⟨n, hn⟩ : ∃ n, l[col.toNat]? = some n := ⟨_, List.getElem?_eq_getElem (by omega)⟩
    have hup := hw.up _ _ hn
    have hrow := Zm7 row
    refine Z8t rfl Z17k (Nat.le_of_ble_eq_true rfl) ?_
    rw [hrow]
    refine Z9z ?_
    refine Z9j rfl (Z0.fit_iff.1 rfl) fun b hb => ?_
    refine Z9k (by simp [Z0.cells, Z0.one]) fun b2 hb2 => ?_
    (repeat (refine st_q rfl rfl rfl ?_))
    (refine Z8y ?_; (repeat (first | refine Z9v rfl ?_ | refine Z9w ?_)); refine Z9u ?_)
    refine Z8a (FSub.refl _) (τ := (b, .cells 5 [.agg (Zm6 row)]) :: (b2, .cells 5 [.agg [.bool false, .int .i64 0, .int .i64 0, .slc 0 [] true, .slc 0 [] true]]) :: σ) (HSub.of_perm (List.Perm.swap _ _ _)) ?_
    refine Zb3 (d := 5) (cs := Zm6 row) rfl ?_
    have fin : ∀ (R : Z87) (F : Z26) (cs : List Z0) (v : Vl), cs.length = 5 → VRle [.agg cs] [encV v] → F 6 = some (.ptr b2 0 0) → (∀ F τ, R .ret F τ = ARet Z163.res (fun r σ' => r = encV v ∧ σ' = σ) .ret F τ) → AWp Try.prog Z163.n .ret R F ((b2, .cells 5 [.agg cs]) :: σ) := by
      intro R F cs v hl hv hF hR
      refine Zb3 (d := 6) (cs := cs) hF ?_
      refine Z8d ?_
      rw [hR]
      match cs, hl with
      | [a0, a1, a2, a3, a4], _ => exact Zau rfl hv (HSub.refl _) ⟨rfl, rfl⟩
    by_cases hp : n.parent < 0
    · have e : getF l (f + 1) col row = row := by rw [getF, hn]; exact if_pos hp
      rw [e]
      (repeat (first | refine st_q rfl rfl rfl ?_ | refine awp_seq ?_ | refine Zbm (fun _ _ => rfl) ?_))
      refine Z93 rfl (by omega) (Z17u hn) ?_
      rw [encN]
      (repeat (first | refine st_q rfl rfl rfl ?_ | (refine Z8y ?_; (repeat (first | refine Z9v rfl ?_ | refine Z9w ?_)); refine Z9u ?_)))
      (rw [show decide (n.parent < 0) = true from decide_eq_true (by omega)])
      (repeat (first | refine st_q rfl rfl rfl ?_ | refine awp_seq ?_ | refine Zbm (fun _ _ => rfl) ?_ | refine Z8f (t := true) rfl (fun _ => ?_) (fun e => by cases e)))
      refine Z9a rfl Z8z rfl (by decide) (Z0.fit_iff.1 rfl) (fun h => by cases h) Z9b ?_
      (repeat (refine Z8y ?_; (repeat (first | refine Z9v rfl ?_ | refine Z9w ?_)); refine Z9u ?_))
      exact fin _ _ _ _ rfl (by rw [hrow]; exact VRle.refl _) rfl (fun _ _ => rfl)
    · obtain ⟨q, hq⟩ : ∃ q, l[n.parent.toNat]? = some q := ⟨_, List.getElem?_eq_getElem (by omega)⟩
      have hqk := hw.kids q (List.mem_of_getElem? hq)
      have e : getF l (f + 1) col row = stepG (getF l f n.parent row) (idxF q.kids col 0) := by
        rw [getF, hn]
        simp only [if_neg hp, hq]
      have hg := fun τ => ih n.parent (by omega) (by omega) (by omega) τ
      have hc := Z17v l fl col h0 n q hn (by omega) hq hqk
      rw [e]
      generalize getF l f n.parent row = v at hg ⊢
      rw [hrow] at hg
      have hve := Zm7 v
      have hr := Z17t q.kids col 0
      generalize idxF q.kids col 0 = i at hc hr ⊢
      (repeat (first | refine st_q rfl rfl rfl ?_ | refine awp_seq ?_ | refine Zbm (fun _ _ => rfl) ?_))
      refine Z93 rfl (by omega) (Z17u hn) ?_
      rw [encN]
      (repeat (first | refine st_q rfl rfl rfl ?_ | (refine Z8y ?_; (repeat (first | refine Z9v rfl ?_ | refine Z9w ?_)); refine Z9u ?_)))
      (rw [show decide (n.parent < 0) = false from decide_eq_false (by omega)])
      (repeat (first | refine st_q rfl rfl rfl ?_ | refine awp_seq ?_ | refine Zbm (fun _ _ => rfl) ?_ | refine Zbn (fun _ _ => rfl) ?_ | refine Z8f (t := false) rfl (fun e => by cases e) (fun _ => ?_)))
      refine Z93 rfl (by omega) (Z17u hn) ?_
      rw [encN]
      (repeat refine st_q rfl rfl rfl ?_)
      refine Zbw rfl hg ?_
      rw [hve]
      skip
      refine Z9k (by simp [Z0.cells, Z0.one]) fun b3 hb3 => ?_
      refine Z9a rfl Z8z rfl (by decide) (Z0.fit_iff.1 rfl) (fun h => by cases h) Z9b ?_
      (repeat (refine st_q rfl rfl rfl ?_))
      (refine Z8y ?_; (repeat (first | refine Z9v rfl ?_ | refine Z9w ?_)); refine Z9u ?_)
      refine Zb3 (d := 7) (cs := Zm6 v) rfl ?_
      (repeat (first | refine st_q rfl rfl rfl ?_ | refine awp_seq ?_ | refine Zbm (fun _ _ => rfl) ?_))
      refine Z9t rfl (hc _) ?_
      (repeat (first | refine st_q rfl rfl rfl ?_ | (refine Z8y ?_; (repeat (first | refine Z9v rfl ?_ | refine Z9w ?_)); refine Z9u ?_) | refine awp_seq ?_ | refine Zbm (fun _ _ => rfl) ?_))
      have fin0 : ∀ (R : Z87) (F : Z26), stepG v i = nullV → F 6 = some (.ptr b2 0 0) → (∀ F τ, R .ret F τ = ARet Z163.res (fun r σ' => r = encV (stepG v i) ∧ σ' = σ) .ret F τ) →
          AWp Try.prog Z163.n .ret R F ((b2, .cells 5 [.agg [.bool true, .int .i64 0, .int .i64 0, .slc 0 [] true, .slc 0 [] true]]) :: σ) := fun R F hs hF hR => by
        rw [hs] at hR
        refine fin R F _ nullV rfl ?_ hF hR
        rw [nullV, encV]
        (repeat (first | exact VRle.refl _ | exact Zc5 | refine Zc6 rfl rfl ?_ | refine Zc7 rfl ?_ | refine Zc4 ?_ ?_))
      have hvl : (Zm5 v.kids).length = v.kids.length := by rw [Zm8, List.length_map]
      cases hvn : v.null with
      | true =>
        (repeat (first | refine st_q rfl rfl rfl ?_ | refine Z8w rfl ?_ | (refine Z8y ?_; (repeat (first | refine Z9v rfl ?_ | refine Z9w ?_)); refine Z9u ?_) | refine awp_seq ?_ | refine Zbm (fun _ _ => rfl) ?_ | refine Zbn (fun _ _ => rfl) ?_ | refine Z8f (t := false) rfl (fun e => by cases e) (fun _ => ?_)))
        refine Z9a rfl Z8z rfl (by decide) (Z0.fit_iff.1 rfl) (fun h => by cases h) Z9b ?_
        (repeat (refine Z8y ?_; (repeat (first | refine Z9v rfl ?_ | refine Z9w ?_)); refine Z9u ?_))
        exact fin0 _ _ (by rw [stepG, if_neg (by rw [hvn]; simp)]) rfl (fun _ _ => rfl)
      | false =>
        (repeat (first | refine st_q rfl rfl rfl ?_ | refine Z8v rfl (st_q rfl rfl rfl ?_)))
        by_cases hi : i < 0
        · (rw [show decide (i ≥ 0) = false from decide_eq_false (by omega)])
          (repeat (first | refine st_q rfl rfl rfl ?_ | refine Z8w rfl ?_ | (refine Z8y ?_; (repeat (first | refine Z9v rfl ?_ | refine Z9w ?_)); refine Z9u ?_) | refine awp_seq ?_ | refine Zbm (fun _ _ => rfl) ?_ | refine Zbn (fun _ _ => rfl) ?_ | refine Z8f (t := false) rfl (fun e => by cases e) (fun _ => ?_)))
          refine Z9a rfl Z8z rfl (by decide) (Z0.fit_iff.1 rfl) (fun h => by cases h) Z9b ?_
          (repeat (refine Z8y ?_; (repeat (first | refine Z9v rfl ?_ | refine Z9w ?_)); refine Z9u ?_))
          exact fin0 _ _ (by rw [stepG, if_neg (by omega)]) rfl (fun _ _ => rfl)
        (rw [show decide (i ≥ 0) = true from decide_eq_true (by omega)])
        (repeat (first | refine st_q rfl rfl rfl ?_ | refine Z8v rfl (st_q rfl rfl rfl ?_) | (refine Z8y ?_; (repeat (first | refine Z9v rfl ?_ | refine Z9w ?_)); refine Z9u ?_)))
        rw [hvl]
        by_cases hj : i < v.kids.length
        · obtain ⟨k, hk⟩ : ∃ k, v.kids[i.toNat]? = some k := ⟨_, List.getElem?_eq_getElem (by omega)⟩
          have hke := Zm7 k
          have hs : stepG v i = k := by rw [stepG, if_pos ⟨hvn, by omega, hj⟩, List.getD_eq_getElem?_getD, hk]; rfl
          (rw [show decide (i < (v.kids.length : Int)) = true from decide_eq_true (by omega)])
          (repeat (first | refine st_q rfl rfl rfl ?_ | refine awp_seq ?_ | refine Zbm (fun _ _ => rfl) ?_ | refine Z8f (t := true) rfl (fun _ => ?_) (fun e => by cases e)))
          refine Z93 rfl (by omega) (Zma hk) ?_
          rw [hke]
          (repeat refine st_q rfl rfl rfl ?_)
          refine Z9a rfl Z8z rfl (by decide) (Z0.fit_iff.1 rfl) (fun h => by cases h) Z9b ?_
          (repeat (refine Z8y ?_; (repeat (first | refine Z9v rfl ?_ | refine Z9w ?_)); refine Z9u ?_))
          rw [hs]
          exact fin _ _ _ _ rfl (by rw [hke]; exact VRle.refl _) rfl (fun _ _ => rfl)
        · (rw [show decide (i < (v.kids.length : Int)) = false from decide_eq_false (by omega)])
          (repeat (first | refine st_q rfl rfl rfl ?_ | refine awp_seq ?_ | refine Zbm (fun _ _ => rfl) ?_ | refine Zbn (fun _ _ => rfl) ?_ | refine Z8f (t := false) rfl (fun e => by cases e) (fun _ => ?_)))
          refine Z9a rfl Z8z rfl (by decide) (Z0.fit_iff.1 rfl) (fun h => by cases h) Z9b ?_
          (repeat (refine Z8y ?_; (repeat (first | refine Z9v rfl ?_ | refine Z9w ?_)); refine Z9u ?_))
          exact fin0 _ _ (by rw [stepG, if_neg (by omega)]) rfl (fun _ _ => rfl)
end Go.Abs
namespace Go.Abs
open Go Go.Proofs
set_option linter.unusedVariables false
set_option linter.unusedSimpArgs false
set_option maxHeartbeats 4000000
attribute [local irreducible] AWp aops KP
theorem wu64 (n : Int) : IntKind.wrap .u64 n = n % 18446744073709551616 := by simp [IntKind.wrap, IntKind.bits, IntKind.signed]
theorem Z12q (i n : Int) (σ : Zc) : Z1q Try.prog Zgd [.int .i64 i, .int .i64 n] σ fun r σ' => r = .bool (Zmd i n) ∧ σ' = σ := by
  refine Z8t rfl Z12n (Nat.le_of_ble_eq_true rfl) ?_
  (repeat (first | refine st_q rfl rfl rfl ?_ | (refine Z8y ?_; (repeat (first | refine Z9v rfl ?_ | refine Z9w ?_)); refine Z9u ?_) | refine awp_seq ?_ | refine Zbm (fun _ _ => rfl) ?_))
  by_cases h1 : -1099511627776 ≤ i
  · (rw [show decide (-1099511627776 ≤ i) = true from decide_eq_true (by omega)])
    (repeat (first | refine st_q rfl rfl rfl ?_ | refine Z8v rfl (st_q rfl rfl rfl ?_)))
    by_cases h2 : i ≤ 1099511627776
    · (rw [show decide (i ≤ 1099511627776) = true from decide_eq_true (by omega)])
      (repeat (first | refine st_q rfl rfl rfl ?_ | refine Z8v rfl (st_q rfl rfl rfl ?_)))
      by_cases h3 : 0 ≤ n
      · (rw [show decide (0 ≤ n) = true from decide_eq_true (by omega)])
        (repeat (first | refine st_q rfl rfl rfl ?_ | refine Z8v rfl (st_q rfl rfl rfl ?_) | (refine Z8y ?_; (repeat (first | refine Z9v rfl ?_ | refine Z9w ?_)); refine Z9u ?_)))
        refine Z8d ?_
        refine ares rfl (HSub.refl _) ⟨?_, rfl⟩
        simp only [Zmd, Z8m]
        by_cases h4 : n < 1000000000
        · simp [h1, h2, h3, h4] <;> omega
        · simp [h1, h2, h3, h4] <;> omega
      · (rw [show decide (0 ≤ n) = false from decide_eq_false (by omega)])
        (repeat (first | refine st_q rfl rfl rfl ?_ | refine Z8w rfl ?_ | (refine Z8y ?_; (repeat (first | refine Z9v rfl ?_ | refine Z9w ?_)); refine Z9u ?_)))
        refine Z8d ?_
        exact ares rfl (HSub.refl _) ⟨by simp [Zmd, Z8m, h3], rfl⟩
    · (rw [show decide (i ≤ 1099511627776) = false from decide_eq_false (by omega)])
      (repeat (first | refine st_q rfl rfl rfl ?_ | refine Z8w rfl ?_ | (refine Z8y ?_; (repeat (first | refine Z9v rfl ?_ | refine Z9w ?_)); refine Z9u ?_)))
      refine Z8d ?_
      exact ares rfl (HSub.refl _) ⟨by simp [Zmd, Z8m, h2], rfl⟩
  · (rw [show decide (-1099511627776 ≤ i) = false from decide_eq_false (by omega)])
    (repeat (first | refine st_q rfl rfl rfl ?_ | refine Z8w rfl ?_ | (refine Z8y ?_; (repeat (first | refine Z9v rfl ?_ | refine Z9w ?_)); refine Z9u ?_)))
    refine Z8d ?_
    exact ares rfl (HSub.refl _) ⟨by simp [Zmd, Z8m, h1], rfl⟩
theorem Z12r (i : Int) (h0 : -9223372036854775808 ≤ i) (h1 : i ≤ 9223372036854775807) (σ : Zc) : Z1q Try.prog Zgi [.int .i64 i] σ fun r σ' => r = .int .u64 (i.natAbs : Int) ∧ σ' = σ := by
  refine Z8t rfl Z12p (Nat.le_of_ble_eq_true rfl) ?_
  (repeat (first | refine st_q rfl rfl rfl ?_ | (refine Z8y ?_; (repeat (first | refine Z9v rfl ?_ | refine Z9w ?_)); refine Z9u ?_) | refine awp_seq ?_ | refine Zbm (fun _ _ => rfl) ?_))
  by_cases h : i < 0
  · (rw [show decide (i < 0) = true from decide_eq_true (by omega)])
    (repeat (first | refine st_q rfl rfl rfl ?_ | (refine Z8y ?_; (repeat (first | refine Z9v rfl ?_ | refine Z9w ?_)); refine Z9u ?_) | refine awp_seq ?_ | refine Zbm (fun _ _ => rfl) ?_ | refine Z8f (t := true) rfl (fun _ => ?_) (fun e => by cases e)))
    rw [wu64 i, wu64]
    skip
    refine Z8d ?_
    exact ares rfl (HSub.refl _) ⟨by simp only [Z8m]; congr 1; omega, rfl⟩
  · (rw [show decide (i < 0) = false from decide_eq_false (by omega)])
    (repeat (first | refine st_q rfl rfl rfl ?_ | (refine Z8y ?_; (repeat (first | refine Z9v rfl ?_ | refine Z9w ?_)); refine Z9u ?_) | refine awp_seq ?_ | refine Zbm (fun _ _ => rfl) ?_ | refine Zbn (fun _ _ => rfl) ?_ | refine Z8f (t := false) rfl (fun e => by cases e) (fun _ => ?_)))
    rw [wu64]
    skip
    refine Z8d ?_
    exact ares rfl (HSub.refl _) ⟨by simp only [Z8m]; congr 1; omega, rfl⟩
theorem digN10 {u : Nat} (h : 10 ≤ u) : digN u = digN (u / 10) + 1 := by rw [digN, dif_neg (by omega)]
theorem Z12s {u : Nat} (h : 100000000 ≤ u) : digN u = digN (u / 100000000) + 8 := by
  rw [digN10 (u := u) (by omega), digN10 (u := u / 10) (by omega), digN10 (u := u / 10 / 10) (by omega), digN10 (u := u / 10 / 10 / 10) (by omega), digN10 (u := u / 10 / 10 / 10 / 10) (by omega),
    digN10 (u := u / 10 / 10 / 10 / 10 / 10) (by omega), digN10 (u := u / 10 / 10 / 10 / 10 / 10 / 10) (by omega), digN10 (u := u / 10 / 10 / 10 / 10 / 10 / 10 / 10) (by omega)]
  have e : u / 10 / 10 / 10 / 10 / 10 / 10 / 10 / 10 = u / 100000000 := by omega
  rw [e]
theorem Z12t (i : Int) (h0 : -9223372036854775808 ≤ i) (h1 : i ≤ 9223372036854775807) (σ : Zc) : Z1q Try.prog Zgc [.int .i64 i] σ fun r σ' => r = .int .i64 (digN i.natAbs : Int) ∧ σ' = σ := by
  refine Z8t rfl Z12m (Nat.le_of_ble_eq_true rfl) ?_
  (repeat (first | refine st_q rfl rfl rfl ?_ | (refine Z8y ?_; (repeat (first | refine Z9v rfl ?_ | refine Z9w ?_)); refine Z9u ?_) | refine awp_seq ?_ | refine Zbm (fun _ _ => rfl) ?_))
  (first | refine Z9t rfl ((Z12r i h0 h1) _) ?_ | refine Z8v rfl (Z9t rfl ((Z12r i h0 h1) _) ?_) | refine Zbw rfl (Z12r i h0 h1) ?_ | refine Z8v rfl (Zbw rfl (Z12r i h0 h1) ?_))
  have hu : i.natAbs ≤ 9223372036854775808 := by omega
  generalize i.natAbs = u at hu
  have h20 := Zmj (u := u) (by omega)
  have div8 : ∀ x : Nat, x ≤ 9223372036854775808 → IntKind.wrap .u64 ((x : Int).tdiv 100000000) = ((x / 100000000 : Nat) : Int) := fun x hx => by
    rw [Int.tdiv_eq_ediv_of_nonneg (by omega), wu64]; omega
  have loop : ∀ (a v : Nat) (R : Z87), v ≤ 9223372036854775808 → a + digN v = digN u + 1 → (∀ F τ, R .normal F τ = AWp Try.prog Z11v.n (.exit 0) (Z8g 0 (Z8e Try.prog Z11v.n (Z11v.code.snd 3) (ARet Z11v.res fun r σ' => r = .int .i64 (digN u : Int) ∧ σ' = σ))) F τ) →
      AWp Try.prog Z11v.n (.loop Z11t) (Z8g 4 R) (fset 3 (some (.int .i64 (a : Int))) (fset 4 (some (.int .u64 (v : Int))) Z27)) σ := by
    intro a v R hv hav hR
    refine Zaa (fun m F σ' => ∃ (a v : Nat), F = fset 3 (some (.int .i64 (a : Int))) (fset 4 (some (.int .u64 (v : Int))) Z27) ∧ σ = σ' ∧ v ≤ 9223372036854775808 ∧ a + digN v = digN u + 1 ∧ m = v) (n := v) ⟨a, v, rfl, rfl, hv, hav, rfl⟩ ?_
    rintro v F σ' ⟨a, m, rfl, rfl, hv, hav, rfl⟩
    (repeat (first | refine st_q rfl rfl rfl ?_ | (refine Z8y ?_; (repeat (first | refine Z9v rfl ?_ | refine Z9w ?_)); refine Z9u ?_) | refine awp_seq ?_ | refine Zbm (fun _ _ => rfl) ?_))
    refine Za3 (p := (10 : Int) ≤ (v : Int)) rfl (fun h3 => ?_) (fun h3 => ?_)
    · rw [digN10 (by omega)] at hav
      refine Zbn (fun _ _ => rfl) ?_
      (refine Z9y (keep := [3, 4]) ?_; ((repeat (first | refine Z9v rfl ?_ | refine Z9w ?_)); refine Z9u ?_))
      refine Z8h ?_
      refine awp_seq ?_
      refine Zbm (fun _ _ => rfl) ?_
      (repeat (refine st_q rfl rfl rfl ?_))
      rw [show IntKind.wrap .i64 ((a : Int) + 1) = ((a + 1 : Nat) : Int) by rw [w64 _ (by omega) (by omega)]; omega]
      (refine Z8y ?_; (repeat (first | refine Z9v rfl ?_ | refine Z9w ?_)); refine Z9u ?_)
      refine awp_region ?_
      (repeat (refine st_q rfl rfl rfl ?_))
      rw [show IntKind.wrap .u64 ((v : Int).tdiv 10) = ((v / 10 : Nat) : Int) by rw [Int.tdiv_eq_ediv_of_nonneg (by omega), wu64]; omega]
      refine Z8y ?_
      refine Zac (keep := [3, 4]) ?_
      ((repeat (first | refine Z9v rfl ?_ | refine Z9w ?_)); refine Z9u ?_)
      exact ⟨_, v / 10, HSub.refl _, ⟨a + 1, v / 10, rfl, rfl, by omega, by omega, rfl⟩, by omega⟩
    · have hd : digN v = 1 := by rw [digN, dif_pos (by omega)]
      have ha : a = digN u := by omega
      subst ha
      refine Z8c ?_
      show Z8g 4 R (.exit 4) _ _
      simp only [Z8g, if_true]
      rw [hR]
      (repeat (first | refine st_q rfl rfl rfl ?_ | (refine Z8y ?_; (repeat (first | refine Z9v rfl ?_ | refine Z9w ?_)); refine Z9u ?_) | refine awp_seq ?_ | refine Zbm (fun _ _ => rfl) ?_ | refine Zbo (fun _ _ => rfl) ?_))
      (refine Z8d ?_; exact ares rfl (HSub.refl _) ⟨rfl, rfl⟩)
  (repeat (first | refine st_q rfl rfl rfl ?_ | (refine Z8y ?_; (repeat (first | refine Z9v rfl ?_ | refine Z9w ?_)); refine Z9u ?_) | refine awp_seq ?_ | refine Zbm (fun _ _ => rfl) ?_ | refine Z8h ?_))
  by_cases q1 : 10000000000000000 ≤ u
  · (rw [show decide ((10000000000000000 : Int) ≤ (u : Int)) = true from decide_eq_true (by omega)])
    (repeat (first | refine st_q rfl rfl rfl ?_ | (refine Z8y ?_; (repeat (first | refine Z9v rfl ?_ | refine Z9w ?_)); refine Z9u ?_) | refine awp_seq ?_ | refine Zbm (fun _ _ => rfl) ?_ | refine Z8h ?_ | refine Zbo (fun _ _ => rfl) ?_ | refine Z8f (t := true) rfl (fun _ => ?_) (fun e => by cases e)))
    rw [div8 u hu, div8 (u / 100000000) (by omega), show IntKind.wrap .i64 (IntKind.wrap .i64 (1 + 8) + 8) = ((17 : Nat) : Int) by decide]
    exact loop 17 (u / 100000000 / 100000000) _ (by omega) (by rw [Z12s (u := u) (by omega), Z12s (u := u / 100000000) (by omega)]; omega) (fun _ _ => rfl)
  · (rw [show decide ((10000000000000000 : Int) ≤ (u : Int)) = false from decide_eq_false (by omega)])
    (repeat (first | refine st_q rfl rfl rfl ?_ | (refine Z8y ?_; (repeat (first | refine Z9v rfl ?_ | refine Z9w ?_)); refine Z9u ?_) | refine awp_seq ?_ | refine Zbm (fun _ _ => rfl) ?_ | refine Zbn (fun _ _ => rfl) ?_ | refine Z8f (t := false) rfl (fun e => by cases e) (fun _ => ?_)))
    by_cases q2 : 100000000 ≤ u
    · (rw [show decide ((100000000 : Int) ≤ (u : Int)) = true from decide_eq_true (by omega)])
      (repeat (first | refine st_q rfl rfl rfl ?_ | (refine Z8y ?_; (repeat (first | refine Z9v rfl ?_ | refine Z9w ?_)); refine Z9u ?_) | refine awp_seq ?_ | refine Zbm (fun _ _ => rfl) ?_ | refine Z8h ?_ | refine Zbo (fun _ _ => rfl) ?_ | refine Z8f (t := true) rfl (fun _ => ?_) (fun e => by cases e)))
      rw [div8 u hu, show IntKind.wrap .i64 (1 + 8) = ((9 : Nat) : Int) by decide]
      exact loop 9 (u / 100000000) _ (by omega) (by rw [Z12s (u := u) (by omega)]; omega) (fun _ _ => rfl)
    · (rw [show decide ((100000000 : Int) ≤ (u : Int)) = false from decide_eq_false (by omega)])
      (repeat (first | refine awp_seq ?_ | refine Z8h ?_ | refine Zbn (fun _ _ => rfl) ?_ | refine Zbo (fun _ _ => rfl) ?_ | refine Z8f (t := false) rfl (fun e => by cases e) (fun _ => ?_)))
      (refine Z9y (keep := [3, 4]) ?_; ((repeat (first | refine Z9v rfl ?_ | refine Z9w ?_)); refine Z9u ?_))
      change AWp _ _ (.loop Z11t) _ (fset 3 (some (.int .i64 ((1 : Nat) : Int))) (fset 4 (some (.int .u64 (u : Int))) Z27)) _
      exact loop 1 u _ (by omega) (by omega) (fun _ _ => rfl)
theorem Z12u (b : List UInt8) (f : Bool) (hb : b.length ≤ 9223372036854775807) (σ : Zc) : Z1q Try.prog Zge [.slc 1 (bytes b) f] σ fun r σ' => r = .int .i64 (Zmc b : Int) ∧ σ' = σ := by
  refine Z8t rfl Z12o (Nat.le_of_ble_eq_true rfl) ?_
  (repeat (first | refine st_q rfl rfl rfl ?_ | (refine Z8y ?_; (repeat (first | refine Z9v rfl ?_ | refine Z9w ?_)); refine Z9u ?_) | refine awp_seq ?_ | refine Zbm (fun _ _ => rfl) ?_ | refine Z8h ?_))
  rw [Zam]
  refine Zaa (fun m F σ' => ∃ (i : Nat), F = fset 3 (some (.int .i64 (Zmc (b.take i) : Int))) (fset 6 (some (.slc 1 (bytes b) f)) (fset 7 (some (.int .i64 (b.length : Int))) (fset 8 (some (.int .i64 (i : Int))) Z27))) ∧ σ = σ' ∧ i ≤ b.length ∧ m = b.length - i) (n := b.length)
    ⟨0, rfl, rfl, by omega, rfl⟩ ?_
  rintro m F σ' ⟨i, rfl, rfl, hi, rfl⟩
  (repeat (first | refine st_q rfl rfl rfl ?_ | (refine Z8y ?_; (repeat (first | refine Z9v rfl ?_ | refine Z9w ?_)); refine Z9u ?_) | refine awp_seq ?_ | refine Zbm (fun _ _ => rfl) ?_))
  refine Za3 (p := (i : Int) < (b.length : Int)) rfl (fun h3 => ?_) (fun h3 => ?_)
  · obtain ⟨c, hc⟩ : ∃ c, b[i]? = some c := ⟨_, List.getElem?_eq_getElem (by omega)⟩
    have hx : (bytes b)[(i : Int).toNat]? = some (Zx c) := by rw [Zao, Int.toNat_natCast, hc]; rfl
    have hst := Zml hc
    have hsl := Zmk (b.take (i + 1))
    rw [List.length_take] at hsl
    (repeat (first | refine awp_seq ?_ | refine Zbm (fun _ _ => rfl) ?_ | refine Z8h ?_ | refine Zbn (fun _ _ => rfl) ?_))
    refine Z93 rfl (by omega) hx ?_
    (repeat (first | refine st_q rfl rfl rfl ?_ | (refine Z8y ?_; (repeat (first | refine Z9v rfl ?_ | refine Z9w ?_)); refine Z9u ?_) | refine awp_seq ?_ | refine Zbm (fun _ _ => rfl) ?_))
    have e6 : Int.fdiv (c.toNat : Int) (2 ^ (Nat.min ((6 : Int).toNat) IntKind.u8.bits)) = ((c.toNat / 64 : Nat) : Int) := by
      show Int.fdiv (c.toNat : Int) 64 = _
      rw [Int.fdiv_eq_ediv_of_nonneg _ (by omega)]; omega
    rw [e6]
    have next : ∀ x : Int, x = (Zmc (b.take (i + 1)) : Int) → AWp Try.prog Z129.n (.region Z126 [3, 6, 7, 8]) (Za9 (fun m F σ' => ∃ (i : Nat), F = fset 3 (some (.int .i64 (Zmc (b.take i) : Int))) (fset 6 (some (.slc 1 (bytes b) f)) (fset 7 (some (.int .i64 (b.length : Int))) (fset 8 (some (.int .i64 (i : Int))) Z27))) ∧ σ = σ' ∧ i ≤ b.length ∧ m = b.length - i) (b.length - i)
        (Z8g 0 (Z8e Try.prog Z129.n (Z129.code.snd 3) (ARet Z129.res fun r σ' => r = .int .i64 (Zmc b : Int) ∧ σ' = σ))))
        (fset 3 (some (.int .i64 x)) (fset 6 (some (.slc 1 (bytes b) f)) (fset 7 (some (.int .i64 (b.length : Int))) (fset 8 (some (.int .i64 (i : Int))) Z27)))) σ := by
      rintro x rfl
      refine Zbp ?_
      (repeat (refine st_q rfl rfl rfl ?_))
      rw [show IntKind.wrap .i64 ((i : Int) + 1) = ((i + 1 : Nat) : Int) by rw [w64 _ (by omega) (by omega)]; omega]
      (repeat (refine st_q rfl rfl rfl ?_))
      (refine Z8y ?_; (repeat (first | refine Z9v rfl ?_ | refine Z9w ?_)); refine Z9u ?_)
      exact ⟨_, b.length - (i + 1), HSub.refl _, ⟨i + 1, rfl, rfl, by omega, rfl⟩, by omega⟩
    refine Za3 (p := ((c.toNat / 64 : Nat) : Int) ≠ 2) rfl (fun h4 => ?_) (fun h4 => ?_)
    · refine Zbm (fun _ _ => rfl) ?_
      (repeat (refine st_q rfl rfl rfl ?_))
      (refine Z8y ?_; (repeat (first | refine Z9v rfl ?_ | refine Z9w ?_)); refine Z9u ?_)
      refine next _ ?_
      rw [hst, if_pos (by omega)]
      rw [hst, if_pos (by omega)] at hsl
      rw [w64 _ (by omega) (by omega)]; rfl
    · refine Zbn (fun _ _ => rfl) ?_
      (refine Z9y (keep := [3, 6, 7, 8]) ?_; ((repeat (first | refine Z9v rfl ?_ | refine Z9w ?_)); refine Z9u ?_))
      refine next _ ?_
      rw [hst, if_neg (by omega)]; rfl
  · (repeat (first | refine st_q rfl rfl rfl ?_ | (refine Z8y ?_; (repeat (first | refine Z9v rfl ?_ | refine Z9w ?_)); refine Z9u ?_) | refine awp_seq ?_ | refine Zbm (fun _ _ => rfl) ?_ | refine Zbo (fun _ _ => rfl) ?_))
    have hie : i = b.length := by omega
    subst hie
    refine Z8d ?_
    exact ares rfl (HSub.refl _) ⟨by rw [List.take_length]; rfl, rfl⟩
theorem Z12v (v : Int) (k : Int) (lo hi : Int) (hlo : IntKind.wrap .i64 (-1 * 2 ^ (Nat.min (IntKind.wrap .i64 (k - 1)).toNat IntKind.i64.bits)) = lo) (hhi : IntKind.wrap .i64 (IntKind.wrap .i64 (1 * 2 ^ (Nat.min (IntKind.wrap .i64 (k - 1)).toNat IntKind.i64.bits)) - 1) = hi) (hk : 0 ≤ IntKind.wrap .i64 (k - 1)) (σ : Zc) :
    Z1q Try.prog Zgb [.int .i64 v, .int .i64 k] σ fun r σ' => r = .bool (decide (lo ≤ v ∧ v ≤ hi)) ∧ σ' = σ := by
  refine Z8t rfl Z12l (Nat.le_of_ble_eq_true rfl) ?_
  (repeat (first | refine st_q rfl rfl rfl ?_ | (refine Z8y ?_; (repeat (first | refine Z9v rfl ?_ | refine Z9w ?_)); refine Z9u ?_) | refine awp_seq ?_ | refine Zbm (fun _ _ => rfl) ?_))
  refine Z95 rfl hk ?_
  (repeat refine st_q rfl rfl rfl ?_)
  rw [hlo]
  by_cases h1 : lo ≤ v
  · (rw [show decide (lo ≤ v) = true from decide_eq_true (by omega)])
    (repeat refine Z8v rfl (st_q rfl rfl rfl ?_))
    refine Z8v rfl (Z95 rfl hk ?_)
    (repeat (first | refine st_q rfl rfl rfl ?_ | refine Z8v rfl (st_q rfl rfl rfl ?_) | (refine Z8y ?_; (repeat (first | refine Z9v rfl ?_ | refine Z9w ?_)); refine Z9u ?_)))
    rw [hhi]
    (refine Z8d ?_; exact ares rfl (HSub.refl _) ⟨(by simp [h1, Z8m]), rfl⟩)
  · (rw [show decide (lo ≤ v) = false from decide_eq_false (by omega)])
    (repeat (first | refine st_q rfl rfl rfl ?_ | refine Z8w rfl ?_ | (refine Z8y ?_; (repeat (first | refine Z9v rfl ?_ | refine Z9w ?_)); refine Z9u ?_)))
    (refine Z8d ?_; exact ares rfl (HSub.refl _) ⟨(by simp [h1, Z8m]), rfl⟩)
theorem Z12w (v : Int) (σ : Zc) : Z1q Try.prog Zgb [.int .i64 v, .int .i64 8] σ fun r σ' => r = .bool (decide (-128 ≤ v ∧ v ≤ 127)) ∧ σ' = σ := Z12v v 8 _ _ (by decide) (by decide) (by decide) σ
theorem Z12x (v : Int) (σ : Zc) : Z1q Try.prog Zgb [.int .i64 v, .int .i64 16] σ fun r σ' => r = .bool (decide (-32768 ≤ v ∧ v ≤ 32767)) ∧ σ' = σ := Z12v v 16 _ _ (by decide) (by decide) (by decide) σ
theorem Z12y (v : Int) (σ : Zc) : Z1q Try.prog Zgb [.int .i64 v, .int .i64 32] σ fun r σ' => r = .bool (decide (-2147483648 ≤ v ∧ v ≤ 2147483647)) ∧ σ' = σ := Z12v v 32 _ _ (by decide) (by decide) (by decide) σ
def numI (k : Int) (kids : Nat) (prec i n : Int) : Bool :=
  if k = 0 then decide (i = 0 ∨ i = 1)
  else if k = 1 then decide (-128 ≤ i ∧ i ≤ 127)
  else if k = 2 then decide (-32768 ≤ i ∧ i ≤ 32767)
  else if k = 3 ∨ k = 15 then decide (-2147483648 ≤ i ∧ i ≤ 2147483647)
  else if k = 4 then true
  else if k = 14 then decide ((digN i.natAbs : Int) ≤ prec)
  else if k = 9 then Zmd i n
  else if k = 13 then decide (0 ≤ i ∧ i < kids)
  else decide (i = 0)
theorem Z12z (k : Int) (kids : Nat) (prec i n : Int) : Zme k kids prec i n = if n ≠ 0 ∧ k ≠ 9 then false else numI k kids prec i n := rfl
theorem Z130 (t : Ty) (v : Vl) (h0 : -9223372036854775808 ≤ v.i ∧ v.i ≤ 9223372036854775807) (σ : Zc) : Z1q Try.prog Zft [encT t, encV v] σ fun r σ' => r = .bool (numI t.kind t.kids.length t.prec v.i v.n) ∧ σ' = σ := by
  obtain ⟨k, ns, ks, l, p, s⟩ := t
  obtain ⟨nu, i, n, b, vks⟩ := v
  simp only [encT, encV, Ty.kind, Ty.kids, Ty.prec, Vl.i, Vl.n] at *
  refine Z8t rfl Z12h (Nat.le_of_ble_eq_true rfl) ?_
  refine Z9z ?_
  refine Z9j rfl (Z0.fit_iff.1 rfl) fun b1 hb1 => ?_
  refine Z9j rfl (Z0.fit_iff.1 rfl) fun b2 hb2 => ?_
  (repeat (refine st_q rfl rfl rfl ?_))
  (refine Z8y ?_; (repeat (first | refine Z9v rfl ?_ | refine Z9w ?_)); refine Z9u ?_)
  refine Zb3 (d := 3) (cs := [.bool nu, .int .i64 i, .int .i64 n, .slc 1 (bytes b) false, .slc 5 (Zm5 vks) false]) rfl ?_
  refine Zb3 (d := 2) (cs := [.int .i64 k, .slc 1 (ns.map .str) false, .slc 6 (Zln ks) false, .int .i64 l, .int .i64 p, .int .i64 s]) rfl ?_
  by_cases k0 : k = 0
  · subst k0
    (repeat (first | refine st_q rfl rfl rfl ?_ | (refine Z8y ?_; (repeat (first | refine Z9v rfl ?_ | refine Z9w ?_)); refine Z9u ?_) | refine awp_seq ?_ | refine Zbm (fun _ _ => rfl) ?_ | refine Z8h ?_ | refine Z8f (t := true) rfl (fun _ => ?_) (fun e => by cases e)))
    by_cases q : i = 0
    · (rw [show decide (i = 0) = true from decide_eq_true (by omega)])
      (repeat (first | refine st_q rfl rfl rfl ?_ | refine Z8w rfl ?_ | (refine Z8y ?_; (repeat (first | refine Z9v rfl ?_ | refine Z9w ?_)); refine Z9u ?_)))
      (refine Z8d ?_; exact ares rfl (HSub.refl _) ⟨(by simp [numI, q, Z8m]), rfl⟩)
    · (rw [show decide (i = 0) = false from decide_eq_false (by omega)])
      (repeat (first | refine st_q rfl rfl rfl ?_ | refine Z8v rfl (st_q rfl rfl rfl ?_) | (refine Z8y ?_; (repeat (first | refine Z9v rfl ?_ | refine Z9w ?_)); refine Z9u ?_)))
      (refine Z8d ?_; exact ares rfl (HSub.refl _) ⟨(by simp [numI, q, Z8m]), rfl⟩)
  by_cases k1 : k = 1
  · subst k1
    (repeat (first | refine st_q rfl rfl rfl ?_ | (refine Z8y ?_; (repeat (first | refine Z9v rfl ?_ | refine Z9w ?_)); refine Z9u ?_) | refine awp_seq ?_ | refine Zbm (fun _ _ => rfl) ?_ | refine Z8h ?_ | refine Z8f (t := true) rfl (fun _ => ?_) (fun e => by cases e) | refine Z8f (t := false) rfl (fun e => by cases e) (fun _ => ?_)))
    (first | refine Z9t rfl ((Z12w i) _) ?_ | refine Z8v rfl (Z9t rfl ((Z12w i) _) ?_) | refine Zbw rfl (Z12w i) ?_ | refine Z8v rfl (Zbw rfl (Z12w i) ?_))
    (repeat (first | refine st_q rfl rfl rfl ?_ | (refine Z8y ?_; (repeat (first | refine Z9v rfl ?_ | refine Z9w ?_)); refine Z9u ?_)))
    (refine Z8d ?_; exact ares rfl (HSub.refl _) ⟨(by simp [numI, Z8m]), rfl⟩)
  by_cases k2 : k = 2
  · subst k2
    (repeat (first | refine st_q rfl rfl rfl ?_ | (refine Z8y ?_; (repeat (first | refine Z9v rfl ?_ | refine Z9w ?_)); refine Z9u ?_) | refine awp_seq ?_ | refine Zbm (fun _ _ => rfl) ?_ | refine Z8h ?_ | refine Z8f (t := true) rfl (fun _ => ?_) (fun e => by cases e) | refine Z8f (t := false) rfl (fun e => by cases e) (fun _ => ?_)))
    (first | refine Z9t rfl ((Z12x i) _) ?_ | refine Z8v rfl (Z9t rfl ((Z12x i) _) ?_) | refine Zbw rfl (Z12x i) ?_ | refine Z8v rfl (Zbw rfl (Z12x i) ?_))
    (repeat (first | refine st_q rfl rfl rfl ?_ | (refine Z8y ?_; (repeat (first | refine Z9v rfl ?_ | refine Z9w ?_)); refine Z9u ?_)))
    (refine Z8d ?_; exact ares rfl (HSub.refl _) ⟨(by simp [numI, Z8m]), rfl⟩)
  by_cases k3 : k = 3
  · subst k3
    (repeat (first | refine st_q rfl rfl rfl ?_ | (refine Z8y ?_; (repeat (first | refine Z9v rfl ?_ | refine Z9w ?_)); refine Z9u ?_) | refine awp_seq ?_ | refine Zbm (fun _ _ => rfl) ?_ | refine Z8h ?_ | refine Zbn (fun _ _ => rfl) ?_ | refine Z8f (t := true) rfl (fun _ => ?_) (fun e => by cases e) | refine Z8f (t := false) rfl (fun e => by cases e) (fun _ => ?_)))
    (first | refine Z9t rfl ((Z12y i) _) ?_ | refine Z8v rfl (Z9t rfl ((Z12y i) _) ?_) | refine Zbw rfl (Z12y i) ?_ | refine Z8v rfl (Zbw rfl (Z12y i) ?_))
    (repeat (first | refine st_q rfl rfl rfl ?_ | (refine Z8y ?_; (repeat (first | refine Z9v rfl ?_ | refine Z9w ?_)); refine Z9u ?_)))
    (refine Z8d ?_; exact ares rfl (HSub.refl _) ⟨(by simp [numI, Z8m]), rfl⟩)
  by_cases k15 : k = 15
  · subst k15
    (repeat (first | refine st_q rfl rfl rfl ?_ | (refine Z8y ?_; (repeat (first | refine Z9v rfl ?_ | refine Z9w ?_)); refine Z9u ?_) | refine awp_seq ?_ | refine Zbm (fun _ _ => rfl) ?_ | refine Z8h ?_ | refine Z8f (t := true) rfl (fun _ => ?_) (fun e => by cases e) | refine Z8f (t := false) rfl (fun e => by cases e) (fun _ => ?_)))
    (first | refine Z9t rfl ((Z12y i) _) ?_ | refine Z8v rfl (Z9t rfl ((Z12y i) _) ?_) | refine Zbw rfl (Z12y i) ?_ | refine Z8v rfl (Zbw rfl (Z12y i) ?_))
    (repeat (first | refine st_q rfl rfl rfl ?_ | (refine Z8y ?_; (repeat (first | refine Z9v rfl ?_ | refine Z9w ?_)); refine Z9u ?_)))
    (refine Z8d ?_; exact ares rfl (HSub.refl _) ⟨(by simp [numI, Z8m]), rfl⟩)
  by_cases k4 : k = 4
  · subst k4
    (repeat (first | refine st_q rfl rfl rfl ?_ | (refine Z8y ?_; (repeat (first | refine Z9v rfl ?_ | refine Z9w ?_)); refine Z9u ?_) | refine awp_seq ?_ | refine Zbm (fun _ _ => rfl) ?_ | refine Z8h ?_ | refine Z8f (t := true) rfl (fun _ => ?_) (fun e => by cases e) | refine Z8f (t := false) rfl (fun e => by cases e) (fun _ => ?_)))
    (refine Z8d ?_; exact ares rfl (HSub.refl _) ⟨(by simp [numI, Z8m]), rfl⟩)
  by_cases k14 : k = 14
  · subst k14
    (repeat (first | refine st_q rfl rfl rfl ?_ | (refine Z8y ?_; (repeat (first | refine Z9v rfl ?_ | refine Z9w ?_)); refine Z9u ?_) | refine awp_seq ?_ | refine Zbm (fun _ _ => rfl) ?_ | refine Z8h ?_ | refine Z8f (t := true) rfl (fun _ => ?_) (fun e => by cases e) | refine Z8f (t := false) rfl (fun e => by cases e) (fun _ => ?_)))
    (first | refine Z9t rfl ((Z12t i h0.1 h0.2) _) ?_ | refine Z8v rfl (Z9t rfl ((Z12t i h0.1 h0.2) _) ?_) | refine Zbw rfl (Z12t i h0.1 h0.2) ?_ | refine Z8v rfl (Zbw rfl (Z12t i h0.1 h0.2) ?_))
    (repeat (first | refine st_q rfl rfl rfl ?_ | (refine Z8y ?_; (repeat (first | refine Z9v rfl ?_ | refine Z9w ?_)); refine Z9u ?_)))
    (refine Z8d ?_; exact ares rfl (HSub.refl _) ⟨(by simp [numI, Z8m]), rfl⟩)
  by_cases k9 : k = 9
  · subst k9
    (repeat (first | refine st_q rfl rfl rfl ?_ | (refine Z8y ?_; (repeat (first | refine Z9v rfl ?_ | refine Z9w ?_)); refine Z9u ?_) | refine awp_seq ?_ | refine Zbm (fun _ _ => rfl) ?_ | refine Z8h ?_ | refine Z8f (t := true) rfl (fun _ => ?_) (fun e => by cases e) | refine Z8f (t := false) rfl (fun e => by cases e) (fun _ => ?_)))
    (first | refine Z9t rfl ((Z12q i n) _) ?_ | refine Z8v rfl (Z9t rfl ((Z12q i n) _) ?_) | refine Zbw rfl (Z12q i n) ?_ | refine Z8v rfl (Zbw rfl (Z12q i n) ?_))
    (repeat (first | refine st_q rfl rfl rfl ?_ | (refine Z8y ?_; (repeat (first | refine Z9v rfl ?_ | refine Z9w ?_)); refine Z9u ?_)))
    (refine Z8d ?_; exact ares rfl (HSub.refl _) ⟨(by simp [numI, Z8m]), rfl⟩)
  by_cases k13 : k = 13
  · subst k13
    (repeat (first | refine st_q rfl rfl rfl ?_ | (refine Z8y ?_; (repeat (first | refine Z9v rfl ?_ | refine Z9w ?_)); refine Z9u ?_) | refine awp_seq ?_ | refine Zbm (fun _ _ => rfl) ?_ | refine Z8h ?_ | refine Z8f (t := true) rfl (fun _ => ?_) (fun e => by cases e) | refine Z8f (t := false) rfl (fun e => by cases e) (fun _ => ?_)))
    by_cases q : 0 ≤ i
    · (rw [show decide (0 ≤ i) = true from decide_eq_true (by omega)])
      (repeat (first | refine st_q rfl rfl rfl ?_ | refine Z8v rfl (st_q rfl rfl rfl ?_) | (refine Z8y ?_; (repeat (first | refine Z9v rfl ?_ | refine Z9w ?_)); refine Z9u ?_)))
      rw [Zlr]
      (refine Z8d ?_; exact ares rfl (HSub.refl _) ⟨(by simp [numI, q, Z8m]), rfl⟩)
    · (rw [show decide (0 ≤ i) = false from decide_eq_false (by omega)])
      (repeat (first | refine st_q rfl rfl rfl ?_ | refine Z8w rfl ?_ | (refine Z8y ?_; (repeat (first | refine Z9v rfl ?_ | refine Z9w ?_)); refine Z9u ?_)))
      (refine Z8d ?_; exact ares rfl (HSub.refl _) ⟨(by simp [numI, q, Z8m]), rfl⟩)
  (repeat (first | refine st_q rfl rfl rfl ?_ | (refine Z8y ?_; (repeat (first | refine Z9v rfl ?_ | refine Z9w ?_)); refine Z9u ?_) | refine awp_seq ?_ | refine Zbm (fun _ _ => rfl) ?_ | refine Z8h ?_))
  (rw [show decide (k = 0) = false from decide_eq_false (by omega)])
  (repeat (first | refine st_q rfl rfl rfl ?_ | (refine Z8y ?_; (repeat (first | refine Z9v rfl ?_ | refine Z9w ?_)); refine Z9u ?_) | refine awp_seq ?_ | refine Zbm (fun _ _ => rfl) ?_ | refine Z8f (t := false) rfl (fun e => by cases e) (fun _ => ?_)))
  (rw [show decide (k = 1) = false from decide_eq_false (by omega)])
  (repeat (first | refine st_q rfl rfl rfl ?_ | (refine Z8y ?_; (repeat (first | refine Z9v rfl ?_ | refine Z9w ?_)); refine Z9u ?_) | refine awp_seq ?_ | refine Zbm (fun _ _ => rfl) ?_ | refine Z8f (t := false) rfl (fun e => by cases e) (fun _ => ?_)))
  (rw [show decide (k = 2) = false from decide_eq_false (by omega)])
  (repeat (first | refine st_q rfl rfl rfl ?_ | (refine Z8y ?_; (repeat (first | refine Z9v rfl ?_ | refine Z9w ?_)); refine Z9u ?_) | refine awp_seq ?_ | refine Zbm (fun _ _ => rfl) ?_ | refine Z8f (t := false) rfl (fun e => by cases e) (fun _ => ?_)))
  (rw [show decide (k = 3) = false from decide_eq_false (by omega)])
  (repeat (first | refine st_q rfl rfl rfl ?_ | (refine Z8y ?_; (repeat (first | refine Z9v rfl ?_ | refine Z9w ?_)); refine Z9u ?_) | refine Zbm (fun _ _ => rfl) ?_ | refine Z8f (t := false) rfl (fun e => by cases e) (fun _ => ?_)))
  (rw [show decide (k = 15) = false from decide_eq_false (by omega)])
  (repeat (first | refine st_q rfl rfl rfl ?_ | (refine Z8y ?_; (repeat (first | refine Z9v rfl ?_ | refine Z9w ?_)); refine Z9u ?_) | refine awp_seq ?_ | refine Zbm (fun _ _ => rfl) ?_ | refine Z8f (t := false) rfl (fun e => by cases e) (fun _ => ?_)))
  (rw [show decide (k = 4) = false from decide_eq_false (by omega)])
  (repeat (first | refine st_q rfl rfl rfl ?_ | (refine Z8y ?_; (repeat (first | refine Z9v rfl ?_ | refine Z9w ?_)); refine Z9u ?_) | refine awp_seq ?_ | refine Zbm (fun _ _ => rfl) ?_ | refine Z8f (t := false) rfl (fun e => by cases e) (fun _ => ?_)))
  (rw [show decide (k = 14) = false from decide_eq_false (by omega)])
  (repeat (first | refine st_q rfl rfl rfl ?_ | (refine Z8y ?_; (repeat (first | refine Z9v rfl ?_ | refine Z9w ?_)); refine Z9u ?_) | refine awp_seq ?_ | refine Zbm (fun _ _ => rfl) ?_ | refine Z8f (t := false) rfl (fun e => by cases e) (fun _ => ?_)))
  (rw [show decide (k = 9) = false from decide_eq_false (by omega)])
  (repeat (first | refine st_q rfl rfl rfl ?_ | (refine Z8y ?_; (repeat (first | refine Z9v rfl ?_ | refine Z9w ?_)); refine Z9u ?_) | refine awp_seq ?_ | refine Zbm (fun _ _ => rfl) ?_ | refine Z8f (t := false) rfl (fun e => by cases e) (fun _ => ?_)))
  (rw [show decide (k = 13) = false from decide_eq_false (by omega)])
  (repeat (first | refine st_q rfl rfl rfl ?_ | (refine Z8y ?_; (repeat (first | refine Z9v rfl ?_ | refine Z9w ?_)); refine Z9u ?_) | refine awp_seq ?_ | refine Zbm (fun _ _ => rfl) ?_ | refine Zbn (fun _ _ => rfl) ?_ | refine Z8f (t := false) rfl (fun e => by cases e) (fun _ => ?_)))
  (refine Z8d ?_; exact ares rfl (HSub.refl _) ⟨(by simp [numI, Z8m, k0, k1, k2, k3, k15, k4, k14, k9, k13]), rfl⟩)
end Go.Abs
namespace Go.Abs
open Go Go.Proofs
set_option linter.unusedVariables false
set_option linter.unusedSimpArgs false
set_option maxHeartbeats 4000000
attribute [local irreducible] AWp aops KP
theorem quo2n (n : Nat) (h : n ≤ 9223372036854775807) : IntKind.wrap .i64 ((n : Int).tdiv 2) = ((n / 2 : Nat) : Int) := by
  have e : (n : Int).tdiv 2 = ((n / 2 : Nat) : Int) := by rw [Int.tdiv_eq_ediv_of_nonneg (by omega)]; omega
  rw [e, w64 _ (by omega) (by omega)]
def Z131 (k : Int) (nu : Bool) (i n : Int) (b : List UInt8) (ks : Nat) : Bool :=
  if nu = true then decide (i = 0 ∧ n = 0 ∧ b = [] ∧ ks = 0) else decide ((n = 0 ∨ k = 9) ∧ (b = [] ∨ Zmb k = true) ∧ (ks = 0 ∨ Zlt k = false))
theorem Z132 (t : Ty) (v : Vl) (σ : Zc) : Z1q Try.prog Zfs [encT t, encV v] σ fun r σ' => r = .bool (Z131 t.kind v.null v.i v.n v.b v.kids.length) ∧ σ' = σ := by
  obtain ⟨k, ns, ks, l, p, s⟩ := t
  obtain ⟨nu, i, n, b, vks⟩ := v
  simp only [encT, encV, Ty.kind, Vl.null, Vl.i, Vl.n, Vl.b, Vl.kids] at *
  refine Z8t rfl Z12g (Nat.le_of_ble_eq_true rfl) ?_
  refine Z9z ?_
  refine Z9j rfl (Z0.fit_iff.1 rfl) fun b1 hb1 => ?_
  refine Z9j rfl (Z0.fit_iff.1 rfl) fun b2 hb2 => ?_
  (repeat (refine st_q rfl rfl rfl ?_))
  (refine Z8y ?_; (repeat (first | refine Z9v rfl ?_ | refine Z9w ?_)); refine Z9u ?_)
  refine Zb3 (d := 3) (cs := [.bool nu, .int .i64 i, .int .i64 n, .slc 1 (bytes b) false, .slc 5 (Zm5 vks) false]) rfl ?_
  refine Zb3 (d := 2) (cs := [.int .i64 k, .slc 1 (ns.map .str) false, .slc 6 (Zln ks) false, .int .i64 l, .int .i64 p, .int .i64 s]) rfl ?_
  have eb : b = [] ↔ (b.length : Int) = 0 := by rw [← List.length_eq_zero_iff]; omega
  cases nu with
  | true =>
    (repeat (first | refine st_q rfl rfl rfl ?_ | (refine Z8y ?_; (repeat (first | refine Z9v rfl ?_ | refine Z9w ?_)); refine Z9u ?_) | refine awp_seq ?_ | refine Zbm (fun _ _ => rfl) ?_ | refine Z8f (t := true) rfl (fun _ => ?_) (fun e => by cases e)))
    by_cases q1 : i = 0
    rotate_left
    · (rw [show decide (i = 0) = false from decide_eq_false (by omega)])
      (repeat (first | refine st_q rfl rfl rfl ?_ | refine Z8w rfl ?_ | (refine Z8y ?_; (repeat (first | refine Z9v rfl ?_ | refine Z9w ?_)); refine Z9u ?_)))
      (refine Z8d ?_; exact ares rfl (HSub.refl _) ⟨(by simp [Z131, q1, Z8m]), rfl⟩)
    (rw [show decide (i = 0) = true from decide_eq_true (by omega)])
    (repeat (first | refine st_q rfl rfl rfl ?_ | refine Z8v rfl (st_q rfl rfl rfl ?_)))
    by_cases q2 : n = 0
    rotate_left
    · (rw [show decide (n = 0) = false from decide_eq_false (by omega)])
      (repeat (first | refine st_q rfl rfl rfl ?_ | refine Z8w rfl ?_ | (refine Z8y ?_; (repeat (first | refine Z9v rfl ?_ | refine Z9w ?_)); refine Z9u ?_)))
      (refine Z8d ?_; exact ares rfl (HSub.refl _) ⟨(by simp [Z131, q2, Z8m]), rfl⟩)
    (rw [show decide (n = 0) = true from decide_eq_true (by omega)])
    (repeat (first | refine st_q rfl rfl rfl ?_ | refine Z8v rfl (st_q rfl rfl rfl ?_)))
    rw [Zam]
    by_cases q3 : (b.length : Int) = 0
    rotate_left
    · have q3' : ¬ b = [] := fun e => q3 (eb.1 e)
      (rw [show decide ((b.length : Int) = 0) = false from decide_eq_false (by omega)])
      (repeat (first | refine st_q rfl rfl rfl ?_ | refine Z8w rfl ?_ | (refine Z8y ?_; (repeat (first | refine Z9v rfl ?_ | refine Z9w ?_)); refine Z9u ?_)))
      (refine Z8d ?_; exact ares rfl (HSub.refl _) ⟨(by simp [Z131, q3', Z8m]), rfl⟩)
    have q3' : b = [] := eb.2 q3
    (rw [show decide ((b.length : Int) = 0) = true from decide_eq_true (by omega)])
    (repeat (first | refine st_q rfl rfl rfl ?_ | refine Z8v rfl (st_q rfl rfl rfl ?_) | (refine Z8y ?_; (repeat (first | refine Z9v rfl ?_ | refine Z9w ?_)); refine Z9u ?_)))
    rw [Zm9]
    refine Z8d ?_
    refine ares rfl (HSub.refl _) ⟨?_, rfl⟩
    simp only [Z131, Z8m, if_true, Z0.bool.injEq, decide_eq_decide, eb, q1, q2, q3, true_and]
    omega
  | false =>
    (repeat (first | refine st_q rfl rfl rfl ?_ | (refine Z8y ?_; (repeat (first | refine Z9v rfl ?_ | refine Z9w ?_)); refine Z9u ?_) | refine awp_seq ?_ | refine Zbm (fun _ _ => rfl) ?_ | refine Zbn (fun _ _ => rfl) ?_ | refine Z8f (t := false) rfl (fun e => by cases e) (fun _ => ?_)))
    by_cases q1 : n = 0
    · (rw [show decide (n = 0) = true from decide_eq_true (by omega)])
      (repeat (first | refine st_q rfl rfl rfl ?_ | refine Z8v rfl (st_q rfl rfl rfl ?_) | refine Z8w rfl ?_))
      rw [Zam]
      by_cases q3 : (b.length : Int) = 0
      · have q3' : b = [] := eb.2 q3
        (rw [show decide ((b.length : Int) = 0) = true from decide_eq_true (by omega)])
        (repeat (first | refine st_q rfl rfl rfl ?_ | refine Z8v rfl (st_q rfl rfl rfl ?_) | refine Z8w rfl ?_))
        rw [Zm9]
        by_cases q4 : (vks.length : Int) = 0
        · (rw [show decide ((vks.length : Int) = 0) = true from decide_eq_true (by omega)])
          (repeat (first | refine st_q rfl rfl rfl ?_ | refine Z8v rfl (st_q rfl rfl rfl ?_) | refine Z8w rfl ?_ | (refine Z8y ?_; (repeat (first | refine Z9v rfl ?_ | refine Z9w ?_)); refine Z9u ?_)))
          (refine Z8d ?_; exact ares rfl (HSub.refl _) ⟨(by have q4' : vks.length = 0 := (by omega); simp [Z131, q1, q3', q4', Z8m]), rfl⟩)
        · (rw [show decide ((vks.length : Int) = 0) = false from decide_eq_false (by omega)])
          (repeat refine Z8v rfl (st_q rfl rfl rfl ?_))
          (first | refine Z9t rfl ((Zmw k) _) ?_ | refine Z8v rfl (Z9t rfl ((Zmw k) _) ?_) | refine Zbw rfl (Zmw k) ?_ | refine Z8v rfl (Zbw rfl (Zmw k) ?_))
          (repeat (first | refine st_q rfl rfl rfl ?_ | refine Z8v rfl (st_q rfl rfl rfl ?_) | (refine Z8y ?_; (repeat (first | refine Z9v rfl ?_ | refine Z9w ?_)); refine Z9u ?_)))
          (refine Z8d ?_; exact ares rfl (HSub.refl _) ⟨(by have q4' : ¬ vks.length = 0 := (by omega); cases hl : Zlt k <;> simp [Z131, q1, q3', q4', hl, Z8m]), rfl⟩)
      · have q3' : ¬ b = [] := fun e => q3 (eb.1 e)
        (rw [show decide ((b.length : Int) = 0) = false from decide_eq_false (by omega)])
        (repeat refine Z8v rfl (st_q rfl rfl rfl ?_))
        (first | refine Z9t rfl ((Zu8 k) _) ?_ | refine Z8v rfl (Z9t rfl ((Zu8 k) _) ?_) | refine Zbw rfl (Zu8 k) ?_ | refine Z8v rfl (Zbw rfl (Zu8 k) ?_))
        cases ht : Zmb k with
        | false =>
          (repeat (first | refine st_q rfl rfl rfl ?_ | refine Z8v rfl (st_q rfl rfl rfl ?_) | refine Z8w rfl ?_ | refine Z8x rfl ?_ | (refine Z8y ?_; (repeat (first | refine Z9v rfl ?_ | refine Z9w ?_)); refine Z9u ?_)))
          (refine Z8d ?_; exact ares rfl (HSub.refl _) ⟨(by simp [Z131, q1, q3', ht, Z8m]), rfl⟩)
        | true =>
          (repeat (first | refine st_q rfl rfl rfl ?_ | refine Z8v rfl (st_q rfl rfl rfl ?_)))
          rw [Zm9]
          by_cases q4 : (vks.length : Int) = 0
          · (rw [show decide ((vks.length : Int) = 0) = true from decide_eq_true (by omega)])
            (repeat (first | refine st_q rfl rfl rfl ?_ | refine Z8v rfl (st_q rfl rfl rfl ?_) | refine Z8w rfl ?_ | (refine Z8y ?_; (repeat (first | refine Z9v rfl ?_ | refine Z9w ?_)); refine Z9u ?_)))
            (refine Z8d ?_; exact ares rfl (HSub.refl _) ⟨(by have q4' : vks.length = 0 := (by omega); simp [Z131, q1, q3', q4', ht, Z8m]), rfl⟩)
          · (rw [show decide ((vks.length : Int) = 0) = false from decide_eq_false (by omega)])
            (repeat refine Z8v rfl (st_q rfl rfl rfl ?_))
            (first | refine Z9t rfl ((Zmw k) _) ?_ | refine Z8v rfl (Z9t rfl ((Zmw k) _) ?_) | refine Zbw rfl (Zmw k) ?_ | refine Z8v rfl (Zbw rfl (Zmw k) ?_))
            (repeat (first | refine st_q rfl rfl rfl ?_ | refine Z8v rfl (st_q rfl rfl rfl ?_) | (refine Z8y ?_; (repeat (first | refine Z9v rfl ?_ | refine Z9w ?_)); refine Z9u ?_)))
            (refine Z8d ?_; exact ares rfl (HSub.refl _) ⟨(by have q4' : ¬ vks.length = 0 := (by omega); cases hl : Zlt k <;> simp [Z131, q1, q3', q4', ht, hl, Z8m]), rfl⟩)
    · (rw [show decide (n = 0) = false from decide_eq_false (by omega)])
      (repeat (first | refine st_q rfl rfl rfl ?_ | refine Z8v rfl (st_q rfl rfl rfl ?_)))
      by_cases q9 : k = 9
      · (rw [show decide (k = 9) = true from decide_eq_true (by omega)])
        (repeat refine Z8v rfl (st_q rfl rfl rfl ?_))
        rw [Zam]
        by_cases q3 : (b.length : Int) = 0
        · have q3' : b = [] := eb.2 q3
          (rw [show decide ((b.length : Int) = 0) = true from decide_eq_true (by omega)])
          (repeat (first | refine st_q rfl rfl rfl ?_ | refine Z8v rfl (st_q rfl rfl rfl ?_) | refine Z8w rfl ?_))
          rw [Zm9]
          by_cases q4 : (vks.length : Int) = 0
          · (rw [show decide ((vks.length : Int) = 0) = true from decide_eq_true (by omega)])
            (repeat (first | refine st_q rfl rfl rfl ?_ | refine Z8v rfl (st_q rfl rfl rfl ?_) | refine Z8w rfl ?_ | (refine Z8y ?_; (repeat (first | refine Z9v rfl ?_ | refine Z9w ?_)); refine Z9u ?_)))
            (refine Z8d ?_; exact ares rfl (HSub.refl _) ⟨(by have q4' : vks.length = 0 := (by omega); simp [Z131, q1, q9, q3', q4', Z8m]), rfl⟩)
          · (rw [show decide ((vks.length : Int) = 0) = false from decide_eq_false (by omega)])
            (repeat refine Z8v rfl (st_q rfl rfl rfl ?_))
            (first | refine Z9t rfl ((Zmw k) _) ?_ | refine Z8v rfl (Z9t rfl ((Zmw k) _) ?_) | refine Zbw rfl (Zmw k) ?_ | refine Z8v rfl (Zbw rfl (Zmw k) ?_))
            (repeat (first | refine st_q rfl rfl rfl ?_ | refine Z8v rfl (st_q rfl rfl rfl ?_) | (refine Z8y ?_; (repeat (first | refine Z9v rfl ?_ | refine Z9w ?_)); refine Z9u ?_)))
            (refine Z8d ?_; exact ares rfl (HSub.refl _) ⟨(by have q4' : ¬ vks.length = 0 := (by omega); cases hl : Zlt k <;> rw [q9] at hl <;> simp [Z131, q1, q9, q3', q4', hl, Z8m]), rfl⟩)
        · have q3' : ¬ b = [] := fun e => q3 (eb.1 e)
          (rw [show decide ((b.length : Int) = 0) = false from decide_eq_false (by omega)])
          (repeat refine Z8v rfl (st_q rfl rfl rfl ?_))
          (first | refine Z9t rfl ((Zu8 k) _) ?_ | refine Z8v rfl (Z9t rfl ((Zu8 k) _) ?_) | refine Zbw rfl (Zu8 k) ?_ | refine Z8v rfl (Zbw rfl (Zu8 k) ?_))
          cases ht : Zmb k with
          | false =>
            (repeat (first | refine st_q rfl rfl rfl ?_ | refine Z8v rfl (st_q rfl rfl rfl ?_) | refine Z8w rfl ?_ | refine Z8x rfl ?_ | (refine Z8y ?_; (repeat (first | refine Z9v rfl ?_ | refine Z9w ?_)); refine Z9u ?_)))
            (refine Z8d ?_; exact ares rfl (HSub.refl _) ⟨(by rw [q9] at ht; simp [Z131, q1, q9, q3', ht, Z8m]), rfl⟩)
          | true =>
            (repeat (first | refine st_q rfl rfl rfl ?_ | refine Z8v rfl (st_q rfl rfl rfl ?_)))
            rw [Zm9]
            by_cases q4 : (vks.length : Int) = 0
            · (rw [show decide ((vks.length : Int) = 0) = true from decide_eq_true (by omega)])
              (repeat (first | refine st_q rfl rfl rfl ?_ | refine Z8v rfl (st_q rfl rfl rfl ?_) | refine Z8w rfl ?_ | (refine Z8y ?_; (repeat (first | refine Z9v rfl ?_ | refine Z9w ?_)); refine Z9u ?_)))
              (refine Z8d ?_; exact ares rfl (HSub.refl _) ⟨(by rw [q9] at ht; have q4' : vks.length = 0 := (by omega); simp [Z131, q1, q9, q3', q4', ht, Z8m]), rfl⟩)
            · (rw [show decide ((vks.length : Int) = 0) = false from decide_eq_false (by omega)])
              (repeat refine Z8v rfl (st_q rfl rfl rfl ?_))
              (first | refine Z9t rfl ((Zmw k) _) ?_ | refine Z8v rfl (Z9t rfl ((Zmw k) _) ?_) | refine Zbw rfl (Zmw k) ?_ | refine Z8v rfl (Zbw rfl (Zmw k) ?_))
              (repeat (first | refine st_q rfl rfl rfl ?_ | refine Z8v rfl (st_q rfl rfl rfl ?_) | (refine Z8y ?_; (repeat (first | refine Z9v rfl ?_ | refine Z9w ?_)); refine Z9u ?_)))
              (refine Z8d ?_; exact ares rfl (HSub.refl _) ⟨(by rw [q9] at ht; have q4' : ¬ vks.length = 0 := (by omega); cases hl : Zlt k <;> rw [q9] at hl <;> simp [Z131, q1, q9, q3', q4', ht, hl, Z8m]), rfl⟩)
      · (rw [show decide (k = 9) = false from decide_eq_false (by omega)])
        (repeat (first | refine st_q rfl rfl rfl ?_ | refine Z8w rfl ?_ | refine Z8x rfl ?_ | (refine Z8y ?_; (repeat (first | refine Z9v rfl ?_ | refine Z9w ?_)); refine Z9u ?_)))
        (refine Z8d ?_; exact ares rfl (HSub.refl _) ⟨(by simp [Z131, q1, q9, Z8m]), rfl⟩)
def longF (k l : Int) (b : List UInt8) : Bool := decide (((k = 16 ∨ k = 17) ∧ l < (Zmc b : Int)) ∨ ((k = 7 ∨ k = 8 ∨ k = 16 ∨ k = 17) ∧ 4096 < b.length))
theorem Z133 (t : Ty) (v : Vl) (hb : v.b.length ≤ 9223372036854775807) (σ : Zc) : Z1q Try.prog Zfu [encT t, encV v] σ fun r σ' => r = .bool (longF t.kind t.len v.b) ∧ σ' = σ := by
  obtain ⟨k, ns, ks, l, p, s⟩ := t
  obtain ⟨nu, i, n, b, vks⟩ := v
  simp only [encT, encV, Ty.kind, Ty.len, Vl.b] at *
  refine Z8t rfl Z12i (Nat.le_of_ble_eq_true rfl) ?_
  refine Z9z ?_
  refine Z9j rfl (Z0.fit_iff.1 rfl) fun b1 hb1 => ?_
  refine Z9j rfl (Z0.fit_iff.1 rfl) fun b2 hb2 => ?_
  (repeat (refine st_q rfl rfl rfl ?_))
  (refine Z8y ?_; (repeat (first | refine Z9v rfl ?_ | refine Z9w ?_)); refine Z9u ?_)
  refine Zb3 (d := 3) (cs := [.bool nu, .int .i64 i, .int .i64 n, .slc 1 (bytes b) false, .slc 5 (Zm5 vks) false]) rfl ?_
  refine Zb3 (d := 2) (cs := [.int .i64 k, .slc 1 (ns.map .str) false, .slc 6 (Zln ks) false, .int .i64 l, .int .i64 p, .int .i64 s]) rfl ?_
  by_cases k16 : k = 16
  · subst k16
    (repeat (first | refine st_q rfl rfl rfl ?_ | (refine Z8y ?_; (repeat (first | refine Z9v rfl ?_ | refine Z9w ?_)); refine Z9u ?_) | refine awp_seq ?_ | refine Zbm (fun _ _ => rfl) ?_ | refine Z8h ?_ | refine Zbn (fun _ _ => rfl) ?_ | refine Zbo (fun _ _ => rfl) ?_ | refine Z8f (t := true) rfl (fun _ => ?_) (fun e => by cases e)))
    (first | refine Z9t rfl ((Z12u b false hb) _) ?_ | refine Z8v rfl (Z9t rfl ((Z12u b false hb) _) ?_) | refine Zbw rfl (Z12u b false hb) ?_ | refine Z8v rfl (Zbw rfl (Z12u b false hb) ?_))
    (repeat (first | refine st_q rfl rfl rfl ?_ | (refine Z8y ?_; (repeat (first | refine Z9v rfl ?_ | refine Z9w ?_)); refine Z9u ?_)))
    by_cases q : l < (Zmc b : Int)
    · (rw [show decide (l < (Zmc b : Int)) = true from decide_eq_true (by omega)])
      (repeat (first | refine st_q rfl rfl rfl ?_ | (refine Z8y ?_; (repeat (first | refine Z9v rfl ?_ | refine Z9w ?_)); refine Z9u ?_) | refine awp_seq ?_ | refine Zbm (fun _ _ => rfl) ?_ | refine Z8f (t := true) rfl (fun _ => ?_) (fun e => by cases e)))
      (refine Z8d ?_; exact ares rfl (HSub.refl _) ⟨(by simp [longF, q, Z8m]), rfl⟩)
    · (rw [show decide (l < (Zmc b : Int)) = false from decide_eq_false (by omega)])
      (repeat (first | refine st_q rfl rfl rfl ?_ | (refine Z8y ?_; (repeat (first | refine Z9v rfl ?_ | refine Z9w ?_)); refine Z9u ?_) | refine awp_seq ?_ | refine Zbm (fun _ _ => rfl) ?_ | refine Zbn (fun _ _ => rfl) ?_ | refine Z8f (t := false) rfl (fun e => by cases e) (fun _ => ?_)))
      rw [Zam]
      refine Z8d ?_
      refine ares rfl (HSub.refl _) ⟨?_, rfl⟩
      simp [longF, q, Z8m]
      try omega
  by_cases k17 : k = 17
  · subst k17
    (repeat (first | refine st_q rfl rfl rfl ?_ | (refine Z8y ?_; (repeat (first | refine Z9v rfl ?_ | refine Z9w ?_)); refine Z9u ?_) | refine awp_seq ?_ | refine Zbm (fun _ _ => rfl) ?_ | refine Z8h ?_ | refine Zbo (fun _ _ => rfl) ?_ | refine Z8f (t := true) rfl (fun _ => ?_) (fun e => by cases e) | refine Z8f (t := false) rfl (fun e => by cases e) (fun _ => ?_)))
    (first | refine Z9t rfl ((Z12u b false hb) _) ?_ | refine Z8v rfl (Z9t rfl ((Z12u b false hb) _) ?_) | refine Zbw rfl (Z12u b false hb) ?_ | refine Z8v rfl (Zbw rfl (Z12u b false hb) ?_))
    (repeat (first | refine st_q rfl rfl rfl ?_ | (refine Z8y ?_; (repeat (first | refine Z9v rfl ?_ | refine Z9w ?_)); refine Z9u ?_)))
    by_cases q : l < (Zmc b : Int)
    · (rw [show decide (l < (Zmc b : Int)) = true from decide_eq_true (by omega)])
      (repeat (first | refine st_q rfl rfl rfl ?_ | (refine Z8y ?_; (repeat (first | refine Z9v rfl ?_ | refine Z9w ?_)); refine Z9u ?_) | refine awp_seq ?_ | refine Zbm (fun _ _ => rfl) ?_ | refine Z8f (t := true) rfl (fun _ => ?_) (fun e => by cases e)))
      (refine Z8d ?_; exact ares rfl (HSub.refl _) ⟨(by simp [longF, q, Z8m]), rfl⟩)
    · (rw [show decide (l < (Zmc b : Int)) = false from decide_eq_false (by omega)])
      (repeat (first | refine st_q rfl rfl rfl ?_ | (refine Z8y ?_; (repeat (first | refine Z9v rfl ?_ | refine Z9w ?_)); refine Z9u ?_) | refine awp_seq ?_ | refine Zbm (fun _ _ => rfl) ?_ | refine Zbn (fun _ _ => rfl) ?_ | refine Z8f (t := false) rfl (fun e => by cases e) (fun _ => ?_)))
      rw [Zam]
      refine Z8d ?_
      refine ares rfl (HSub.refl _) ⟨?_, rfl⟩
      simp [longF, q, Z8m]
      try omega
  by_cases k7 : k = 7
  · subst k7
    (repeat (first | refine st_q rfl rfl rfl ?_ | (refine Z8y ?_; (repeat (first | refine Z9v rfl ?_ | refine Z9w ?_)); refine Z9u ?_) | refine awp_seq ?_ | refine Zbm (fun _ _ => rfl) ?_ | refine Z8h ?_ | refine Zbn (fun _ _ => rfl) ?_ | refine Zbo (fun _ _ => rfl) ?_ | refine Z8f (t := true) rfl (fun _ => ?_) (fun e => by cases e) | refine Z8f (t := false) rfl (fun e => by cases e) (fun _ => ?_)))
    rw [Zam]
    refine Z8d ?_
    refine ares rfl (HSub.refl _) ⟨?_, rfl⟩
    simp [longF, Z8m]
    try omega
  by_cases k8 : k = 8
  · subst k8
    (repeat (first | refine st_q rfl rfl rfl ?_ | (refine Z8y ?_; (repeat (first | refine Z9v rfl ?_ | refine Z9w ?_)); refine Z9u ?_) | refine awp_seq ?_ | refine Zbm (fun _ _ => rfl) ?_ | refine Z8h ?_ | refine Zbn (fun _ _ => rfl) ?_ | refine Zbo (fun _ _ => rfl) ?_ | refine Z8f (t := true) rfl (fun _ => ?_) (fun e => by cases e) | refine Z8f (t := false) rfl (fun e => by cases e) (fun _ => ?_)))
    rw [Zam]
    refine Z8d ?_
    refine ares rfl (HSub.refl _) ⟨?_, rfl⟩
    simp [longF, Z8m]
    try omega
  (repeat (first | refine st_q rfl rfl rfl ?_ | (refine Z8y ?_; (repeat (first | refine Z9v rfl ?_ | refine Z9w ?_)); refine Z9u ?_) | refine awp_seq ?_ | refine Zbm (fun _ _ => rfl) ?_ | refine Z8h ?_))
  (rw [show decide (k = 16) = false from decide_eq_false (by omega)])
  (repeat (first | refine st_q rfl rfl rfl ?_ | (refine Z8y ?_; (repeat (first | refine Z9v rfl ?_ | refine Z9w ?_)); refine Z9u ?_) | refine Zbm (fun _ _ => rfl) ?_ | refine Z8f (t := false) rfl (fun e => by cases e) (fun _ => ?_)))
  (rw [show decide (k = 17) = false from decide_eq_false (by omega)])
  (repeat (first | refine st_q rfl rfl rfl ?_ | (refine Z8y ?_; (repeat (first | refine Z9v rfl ?_ | refine Z9w ?_)); refine Z9u ?_) | refine awp_seq ?_ | refine Zbm (fun _ _ => rfl) ?_ | refine Zbn (fun _ _ => rfl) ?_ | refine Z8f (t := false) rfl (fun e => by cases e) (fun _ => ?_)))
  (rw [show decide (k = 7) = false from decide_eq_false (by omega)])
  (repeat (first | refine st_q rfl rfl rfl ?_ | (refine Z8y ?_; (repeat (first | refine Z9v rfl ?_ | refine Z9w ?_)); refine Z9u ?_) | refine Zbm (fun _ _ => rfl) ?_ | refine Z8f (t := false) rfl (fun e => by cases e) (fun _ => ?_)))
  (rw [show decide (k = 8) = false from decide_eq_false (by omega)])
  (repeat (first | refine st_q rfl rfl rfl ?_ | (refine Z8y ?_; (repeat (first | refine Z9v rfl ?_ | refine Z9w ?_)); refine Z9u ?_) | refine awp_seq ?_ | refine Zbm (fun _ _ => rfl) ?_ | refine Zbn (fun _ _ => rfl) ?_ | refine Zbo (fun _ _ => rfl) ?_ | refine Z8f (t := false) rfl (fun e => by cases e) (fun _ => ?_)))
  (refine Z8d ?_; exact ares rfl (HSub.refl _) ⟨(by simp [longF, Z8m, k16, k17, k7, k8]), rfl⟩)
def Z134 (k : Int) (n kids : Nat) : Nat :=
  if k = 11 then (if n % 2 ≠ 0 then 1 else if 16384 < n / 2 then 4 else 0)
  else if k = 10 then (if 16384 < n then 4 else 0)
  else if k = 12 then (if n ≠ kids then 1 else 0)
  else if k = 13 then (if n ≠ 1 then 1 else 0)
  else 0
theorem Z135 (t : Ty) (v : Vl) (hk : v.kids.length ≤ 9223372036854775807) (σ : Zc) : Z1q Try.prog Zfv [encT t, encV v] σ fun r σ' => r = .int .i64 (Z134 t.kind v.kids.length t.kids.length : Int) ∧ σ' = σ := by
  obtain ⟨k, ns, ks, l, p, s⟩ := t
  obtain ⟨nu, i, n, b, vks⟩ := v
  simp only [encT, encV, Ty.kind, Ty.kids, Vl.kids] at *
  refine Z8t rfl Z12j (Nat.le_of_ble_eq_true rfl) ?_
  refine Z9z ?_
  refine Z9j rfl (Z0.fit_iff.1 rfl) fun b1 hb1 => ?_
  refine Z9j rfl (Z0.fit_iff.1 rfl) fun b2 hb2 => ?_
  (repeat (refine st_q rfl rfl rfl ?_))
  (refine Z8y ?_; (repeat (first | refine Z9v rfl ?_ | refine Z9w ?_)); refine Z9u ?_)
  refine Zb3 (d := 3) (cs := [.bool nu, .int .i64 i, .int .i64 n, .slc 1 (bytes b) false, .slc 5 (Zm5 vks) false]) rfl ?_
  refine Zb3 (d := 2) (cs := [.int .i64 k, .slc 1 (ns.map .str) false, .slc 6 (Zln ks) false, .int .i64 l, .int .i64 p, .int .i64 s]) rfl ?_
  by_cases k11 : k = 11
  · subst k11
    (repeat (first | refine st_q rfl rfl rfl ?_ | (refine Z8y ?_; (repeat (first | refine Z9v rfl ?_ | refine Z9w ?_)); refine Z9u ?_) | refine awp_seq ?_ | refine Zbm (fun _ _ => rfl) ?_ | refine Z8h ?_ | refine Zbo (fun _ _ => rfl) ?_ | refine Z8f (t := true) rfl (fun _ => ?_) (fun e => by cases e)))
    rw [Zm9, quo2n _ hk, show (vks.length : Int).tmod 2 = ((vks.length % 2 : Nat) : Int) by rw [Int.tmod_eq_emod_of_nonneg (by omega)]; omega]
    by_cases q : vks.length % 2 = 0
    · (rw [show decide (((vks.length % 2 : Nat) : Int) = 0) = true from decide_eq_true (by omega)])
      (repeat (first | refine st_q rfl rfl rfl ?_ | refine Z8v rfl (st_q rfl rfl rfl ?_) | (refine Z8y ?_; (repeat (first | refine Z9v rfl ?_ | refine Z9w ?_)); refine Z9u ?_)))
      by_cases q2 : 16384 < vks.length / 2
      · (rw [show decide ((16384 : Int) < ((vks.length / 2 : Nat) : Int)) = true from decide_eq_true (by omega)])
        (repeat (first | refine st_q rfl rfl rfl ?_ | (refine Z8y ?_; (repeat (first | refine Z9v rfl ?_ | refine Z9w ?_)); refine Z9u ?_) | refine awp_seq ?_ | refine Zbm (fun _ _ => rfl) ?_ | refine Z8f (t := true) rfl (fun _ => ?_) (fun e => by cases e)))
        (refine Z8d ?_; exact ares rfl (HSub.refl _) ⟨(by simp [Z134, q, q2, Z8m]), rfl⟩)
      · (rw [show decide ((16384 : Int) < ((vks.length / 2 : Nat) : Int)) = false from decide_eq_false (by omega)])
        (repeat (first | refine st_q rfl rfl rfl ?_ | (refine Z8y ?_; (repeat (first | refine Z9v rfl ?_ | refine Z9w ?_)); refine Z9u ?_) | refine awp_seq ?_ | refine Zbm (fun _ _ => rfl) ?_ | refine Zbn (fun _ _ => rfl) ?_ | refine Zbo (fun _ _ => rfl) ?_ | refine Z8f (t := false) rfl (fun e => by cases e) (fun _ => ?_)))
        (refine Z8d ?_; exact ares rfl (HSub.refl _) ⟨(by simp [Z134, q, q2, Z8m]), rfl⟩)
    · (rw [show decide (((vks.length % 2 : Nat) : Int) = 0) = false from decide_eq_false (by omega)])
      (repeat (first | refine st_q rfl rfl rfl ?_ | refine Z8w rfl ?_ | (refine Z8y ?_; (repeat (first | refine Z9v rfl ?_ | refine Z9w ?_)); refine Z9u ?_) | refine awp_seq ?_ | refine Zbm (fun _ _ => rfl) ?_ | refine Zbn (fun _ _ => rfl) ?_ | refine Zbo (fun _ _ => rfl) ?_ | refine Z8f (t := true) rfl (fun _ => ?_) (fun e => by cases e) | refine Z8f (t := false) rfl (fun e => by cases e) (fun _ => ?_)))
      (refine Z8d ?_; exact ares rfl (HSub.refl _) ⟨(by simp [Z134, q, Z8m]), rfl⟩)
  by_cases k10 : k = 10
  · subst k10
    (repeat (first | refine st_q rfl rfl rfl ?_ | refine Z8v rfl (st_q rfl rfl rfl ?_) | (refine Z8y ?_; (repeat (first | refine Z9v rfl ?_ | refine Z9w ?_)); refine Z9u ?_) | refine awp_seq ?_ | refine Zbm (fun _ _ => rfl) ?_ | refine Z8h ?_ | refine Zbn (fun _ _ => rfl) ?_ | refine Zbo (fun _ _ => rfl) ?_ | refine Z8f (t := true) rfl (fun _ => ?_) (fun e => by cases e) | refine Z8f (t := false) rfl (fun e => by cases e) (fun _ => ?_)))
    rw [Zm9]
    by_cases q2 : 16384 < vks.length
    · (rw [show decide ((16384 : Int) < (vks.length : Int)) = true from decide_eq_true (by omega)])
      (repeat (first | refine st_q rfl rfl rfl ?_ | (refine Z8y ?_; (repeat (first | refine Z9v rfl ?_ | refine Z9w ?_)); refine Z9u ?_) | refine awp_seq ?_ | refine Zbm (fun _ _ => rfl) ?_ | refine Z8f (t := true) rfl (fun _ => ?_) (fun e => by cases e)))
      (refine Z8d ?_; exact ares rfl (HSub.refl _) ⟨(by simp [Z134, q2, Z8m]), rfl⟩)
    · (rw [show decide ((16384 : Int) < (vks.length : Int)) = false from decide_eq_false (by omega)])
      (repeat (first | refine st_q rfl rfl rfl ?_ | (refine Z8y ?_; (repeat (first | refine Z9v rfl ?_ | refine Z9w ?_)); refine Z9u ?_) | refine awp_seq ?_ | refine Zbm (fun _ _ => rfl) ?_ | refine Zbn (fun _ _ => rfl) ?_ | refine Zbo (fun _ _ => rfl) ?_ | refine Z8f (t := false) rfl (fun e => by cases e) (fun _ => ?_)))
      (refine Z8d ?_; exact ares rfl (HSub.refl _) ⟨(by simp [Z134, q2, Z8m]), rfl⟩)
  by_cases k12 : k = 12
  · subst k12
    (repeat (first | refine st_q rfl rfl rfl ?_ | (refine Z8y ?_; (repeat (first | refine Z9v rfl ?_ | refine Z9w ?_)); refine Z9u ?_) | refine awp_seq ?_ | refine Zbm (fun _ _ => rfl) ?_ | refine Z8h ?_ | refine Zbn (fun _ _ => rfl) ?_ | refine Zbo (fun _ _ => rfl) ?_ | refine Z8f (t := true) rfl (fun _ => ?_) (fun e => by cases e) | refine Z8f (t := false) rfl (fun e => by cases e) (fun _ => ?_)))
    rw [Zm9, Zlr]
    by_cases q2 : vks.length = ks.length
    · (rw [show decide ((vks.length : Int) = (ks.length : Int)) = true from decide_eq_true (by omega)])
      (repeat (first | refine st_q rfl rfl rfl ?_ | (refine Z8y ?_; (repeat (first | refine Z9v rfl ?_ | refine Z9w ?_)); refine Z9u ?_) | refine awp_seq ?_ | refine Zbm (fun _ _ => rfl) ?_ | refine Zbn (fun _ _ => rfl) ?_ | refine Z8f (t := false) rfl (fun e => by cases e) (fun _ => ?_)))
      (refine Z8d ?_; exact ares rfl (HSub.refl _) ⟨(by simp [Z134, q2, Z8m]), rfl⟩)
    · (rw [show decide ((vks.length : Int) = (ks.length : Int)) = false from decide_eq_false (by omega)])
      (repeat (first | refine st_q rfl rfl rfl ?_ | (refine Z8y ?_; (repeat (first | refine Z9v rfl ?_ | refine Z9w ?_)); refine Z9u ?_) | refine awp_seq ?_ | refine Zbm (fun _ _ => rfl) ?_ | refine Z8f (t := true) rfl (fun _ => ?_) (fun e => by cases e)))
      (refine Z8d ?_; exact ares rfl (HSub.refl _) ⟨(by simp [Z134, q2, Z8m]), rfl⟩)
  by_cases k13 : k = 13
  · subst k13
    (repeat (first | refine st_q rfl rfl rfl ?_ | (refine Z8y ?_; (repeat (first | refine Z9v rfl ?_ | refine Z9w ?_)); refine Z9u ?_) | refine awp_seq ?_ | refine Zbm (fun _ _ => rfl) ?_ | refine Z8h ?_ | refine Zbn (fun _ _ => rfl) ?_ | refine Zbo (fun _ _ => rfl) ?_ | refine Z8f (t := true) rfl (fun _ => ?_) (fun e => by cases e) | refine Z8f (t := false) rfl (fun e => by cases e) (fun _ => ?_)))
    rw [Zm9]
    by_cases q2 : vks.length = 1
    · (rw [show decide ((vks.length : Int) = 1) = true from decide_eq_true (by omega)])
      (repeat (first | refine st_q rfl rfl rfl ?_ | (refine Z8y ?_; (repeat (first | refine Z9v rfl ?_ | refine Z9w ?_)); refine Z9u ?_) | refine awp_seq ?_ | refine Zbm (fun _ _ => rfl) ?_ | refine Zbn (fun _ _ => rfl) ?_ | refine Z8f (t := false) rfl (fun e => by cases e) (fun _ => ?_)))
      (refine Z8d ?_; exact ares rfl (HSub.refl _) ⟨(by simp [Z134, q2, Z8m]), rfl⟩)
    · (rw [show decide ((vks.length : Int) = 1) = false from decide_eq_false (by omega)])
      (repeat (first | refine st_q rfl rfl rfl ?_ | (refine Z8y ?_; (repeat (first | refine Z9v rfl ?_ | refine Z9w ?_)); refine Z9u ?_) | refine awp_seq ?_ | refine Zbm (fun _ _ => rfl) ?_ | refine Z8f (t := true) rfl (fun _ => ?_) (fun e => by cases e)))
      (refine Z8d ?_; exact ares rfl (HSub.refl _) ⟨(by simp [Z134, q2, Z8m]), rfl⟩)
  (repeat (first | refine st_q rfl rfl rfl ?_ | (refine Z8y ?_; (repeat (first | refine Z9v rfl ?_ | refine Z9w ?_)); refine Z9u ?_) | refine awp_seq ?_ | refine Zbm (fun _ _ => rfl) ?_ | refine Z8h ?_))
  (rw [show decide (k = 11) = false from decide_eq_false (by omega)])
  (repeat (first | refine st_q rfl rfl rfl ?_ | (refine Z8y ?_; (repeat (first | refine Z9v rfl ?_ | refine Z9w ?_)); refine Z9u ?_) | refine awp_seq ?_ | refine Zbm (fun _ _ => rfl) ?_ | refine Zbn (fun _ _ => rfl) ?_ | refine Z8f (t := false) rfl (fun e => by cases e) (fun _ => ?_)))
  (rw [show decide (k = 10) = false from decide_eq_false (by omega)])
  (repeat (first | refine st_q rfl rfl rfl ?_ | (refine Z8y ?_; (repeat (first | refine Z9v rfl ?_ | refine Z9w ?_)); refine Z9u ?_) | refine awp_seq ?_ | refine Zbm (fun _ _ => rfl) ?_ | refine Zbn (fun _ _ => rfl) ?_ | refine Z8f (t := false) rfl (fun e => by cases e) (fun _ => ?_)))
  (rw [show decide (k = 12) = false from decide_eq_false (by omega)])
  (repeat (first | refine st_q rfl rfl rfl ?_ | (refine Z8y ?_; (repeat (first | refine Z9v rfl ?_ | refine Z9w ?_)); refine Z9u ?_) | refine awp_seq ?_ | refine Zbm (fun _ _ => rfl) ?_ | refine Zbn (fun _ _ => rfl) ?_ | refine Z8f (t := false) rfl (fun e => by cases e) (fun _ => ?_)))
  (rw [show decide (k = 13) = false from decide_eq_false (by omega)])
  (repeat (first | refine st_q rfl rfl rfl ?_ | (refine Z8y ?_; (repeat (first | refine Z9v rfl ?_ | refine Z9w ?_)); refine Z9u ?_) | refine awp_seq ?_ | refine Zbm (fun _ _ => rfl) ?_ | refine Zbn (fun _ _ => rfl) ?_ | refine Zbo (fun _ _ => rfl) ?_ | refine Z8f (t := false) rfl (fun e => by cases e) (fun _ => ?_)))
  (refine Z8d ?_; exact ares rfl (HSub.refl _) ⟨(by simp [Z134, Z8m, k10, k11, k12, k13]), rfl⟩)
end Go.Abs
namespace Go.Abs
open Go Go.Proofs
set_option linter.unusedVariables false
set_option linter.unusedSimpArgs false
set_option maxHeartbeats 4000000
attribute [local irreducible] AWp aops KP
theorem c_kid (t : Ty) (i n : Int) (nu : Bool) (bs : List UInt8) (vks : List Vl) (j : Nat) (hj : j ≤ 9223372036854775807) (hi : t.kind = 13 → 0 ≤ i) (hlt : Zmf t.kind i j < t.kids.length) (σ : Zc) :
    Z1q Try.prog Zfw [encT t, encV (.mk nu i n bs vks), .int .i64 (j : Int)] σ fun r σ' => r = .tup [encT (kidT t i j), .bool true] ∧ σ' = σ := by
  obtain ⟨k, ns, ks, l, p, s⟩ := t
  simp only [Ty.kind, Ty.kids] at hi hlt
  obtain ⟨t', ht'⟩ : ∃ t', ks[Zmf k i j]? = some t' := ⟨_, List.getElem?_eq_getElem hlt⟩
  have hkid : kidT (.mk k ns ks l p s) i j = t' := by simp only [kidT, Ty.kids, Ty.kind, List.getD_eq_getElem?_getD, ht', Option.getD_some]
  have hx := Zls ht'
  rw [hkid, Zlp t'] at *
  simp only [encT, encV]
  refine Z8t rfl Z12k (Nat.le_of_ble_eq_true rfl) ?_
  refine Z9z ?_
  refine Z9j rfl (Z0.fit_iff.1 rfl) fun b3 hb3 => ?_
  refine Z9j rfl (Z0.fit_iff.1 rfl) fun b4 hb4 => ?_
  refine Z9k (by simp [Z0.cells, Z0.one]) fun b6 hb6 => ?_
  (repeat (refine st_q rfl rfl rfl ?_))
  (refine Z8y ?_; (repeat (first | refine Z9v rfl ?_ | refine Z9w ?_)); refine Z9u ?_)
  refine Z8a (FSub.refl _) (HSub.swap _ _ _) ?_
  refine Zb3 (d := 4) (cs := [.bool nu, .int .i64 i, .int .i64 n, .slc 1 (bytes bs) false, .slc 5 (Zm5 vks) false]) rfl ?_
  refine Z8a (FSub.refl _) (HSub.swap _ _ _) ?_
  refine Zb3 (d := 3) (cs := [.int .i64 k, .slc 1 (ns.map .str) false, .slc 6 (Zln ks) false, .int .i64 l, .int .i64 p, .int .i64 s]) rfl ?_
  (refine Z9y (keep := [2, 3, 4, 6]) ?_; ((repeat (first | refine Z9v rfl ?_ | refine Z9w ?_)); refine Z9u ?_))
  have fin : ∀ (a : Nat), a = Zmf k i j → AWp Try.prog Z11d.n (Z11d.code.snd 2) (ARet Z11d.res fun r σ' => r = .tup [.agg (Zlo t'), .bool true] ∧ σ' = σ)
      (fset 2 (some (.int .i64 (a : Int))) (fset 3 (some (.iptr [.int .i64 k, .slc 1 (ns.map .str) false, .slc 6 (Zln ks) false, .int .i64 l, .int .i64 p, .int .i64 s])) (fset 6 (some (.ptr b6 0 0)) Z27)))
      ((b6, .cells 6 [.agg [.int .i64 0, .slc 0 [] true, .slc 0 [] true, .int .i64 0, .int .i64 0, .int .i64 0]]) :: σ) := by
    rintro a rfl
    (repeat (first | refine st_q rfl rfl rfl ?_ | (refine Z8y ?_; (repeat (first | refine Z9v rfl ?_ | refine Z9w ?_)); refine Z9u ?_) | refine awp_seq ?_ | refine Zbm (fun _ _ => rfl) ?_))
    rw [Zlr]
    (rw [show decide ((ks.length : Int) ≤ ((Zmf k i j : Nat) : Int)) = false from decide_eq_false (by omega)])
    (repeat (first | refine st_q rfl rfl rfl ?_ | refine awp_seq ?_ | refine Zbm (fun _ _ => rfl) ?_ | refine Zbn (fun _ _ => rfl) ?_ | refine Z8f (t := false) rfl (fun e => by cases e) (fun _ => ?_)))
    refine Z93 rfl (by omega) (by rw [Int.toNat_natCast]; exact hx) ?_
    (repeat refine st_q rfl rfl rfl ?_)
    (first | refine Z9a rfl Z8z rfl (by decide) (Z0.fit_iff.1 rfl) (fun h => by cases h) Z9b ?_ | refine Z8v rfl (Z9a rfl Z8z rfl (by decide) (Z0.fit_iff.1 rfl) (fun h => by cases h) Z9b ?_))
    (repeat (first | refine st_q rfl rfl rfl ?_ | (refine Z8y ?_; (repeat (first | refine Z9v rfl ?_ | refine Z9w ?_)); refine Z9u ?_)))
    refine Z8d ?_
    exact ares (vs := [.agg (Zlo t'), .bool true]) (Zc2 (Zc3 rfl Z8z rfl) (Zc2 rfl rfl)) (HSub.tail _ _) ⟨rfl, rfl⟩
  refine awp_seq ?_
  refine awp_seq ?_
  refine Zbm (fun _ _ => rfl) ?_
  (repeat (refine st_q rfl rfl rfl ?_))
  (refine Z8y ?_; (repeat (first | refine Z9v rfl ?_ | refine Z9w ?_)); refine Z9u ?_)
  refine Z8h ?_
  refine awp_seq ?_
  refine Zbm (fun _ _ => rfl) ?_
  (repeat (refine st_q rfl rfl rfl ?_))
  (refine Z8y ?_; (repeat (first | refine Z9v rfl ?_ | refine Z9w ?_)); refine Z9u ?_)
  refine Za3 (p := k = 10) rfl (fun k10 => ?_) (fun k10 => ?_)
  · refine Zbm (fun _ _ => rfl) ?_
    (repeat (refine st_q rfl rfl rfl ?_))
    (refine Z8y ?_; (repeat (first | refine Z9v rfl ?_ | refine Z9w ?_)); refine Z9u ?_)
    exact fin 0 (by simp [Zmf, k10])
  refine awp_seq ?_
  refine Zbm (fun _ _ => rfl) ?_
  (repeat (refine st_q rfl rfl rfl ?_))
  (refine Z8y ?_; (repeat (first | refine Z9v rfl ?_ | refine Z9w ?_)); refine Z9u ?_)
  refine Za3 (p := k = 11) rfl (fun k11 => ?_) (fun k11 => ?_)
  · refine Zbm (fun _ _ => rfl) ?_
    (repeat (refine st_q rfl rfl rfl ?_))
    rw [show (j : Int).tmod 2 = ((j % 2 : Nat) : Int) by rw [Int.tmod_eq_emod_of_nonneg (by omega)]; omega]
    (repeat (refine st_q rfl rfl rfl ?_))
    (refine Z8y ?_; (repeat (first | refine Z9v rfl ?_ | refine Z9w ?_)); refine Z9u ?_)
    exact fin (j % 2) (by simp [Zmf, k11])
  refine awp_seq ?_
  refine Zbm (fun _ _ => rfl) ?_
  (repeat (refine st_q rfl rfl rfl ?_))
  (refine Z8y ?_; (repeat (first | refine Z9v rfl ?_ | refine Z9w ?_)); refine Z9u ?_)
  refine Za3 (p := k = 13) rfl (fun k13 => ?_) (fun k13 => ?_)
  · have h0 := hi k13
    have hki : Zmf k i j = i.toNat := by simp [Zmf, k13]
    rw [hki] at hlt
    refine awp_seq ?_
    refine awp_seq ?_
    refine Zbm (fun _ _ => rfl) ?_
    (repeat (refine st_q rfl rfl rfl ?_))
    (rw [show decide (i < 0) = false from decide_eq_false (by omega)])
    (repeat (first | refine st_q rfl rfl rfl ?_ | refine Z8v rfl (st_q rfl rfl rfl ?_)))
    rw [Zlr]
    (rw [show decide ((ks.length : Int) ≤ i) = false from decide_eq_false (by omega)])
    skip
    (refine Z8y ?_; (repeat (first | refine Z9v rfl ?_ | refine Z9w ?_)); refine Z9u ?_)
    refine Z8f (t := false) rfl (fun e => by cases e) (fun _ => ?_)
    refine Zbn (fun _ _ => rfl) ?_
    (refine Z9y (keep := [3, 4, 6]) ?_; ((repeat (first | refine Z9v rfl ?_ | refine Z9w ?_)); refine Z9u ?_))
    refine Zbm (fun _ _ => rfl) ?_
    (repeat (refine st_q rfl rfl rfl ?_))
    rw [show i = ((i.toNat : Nat) : Int) by omega]
    (refine Z8y ?_; (repeat (first | refine Z9v rfl ?_ | refine Z9w ?_)); refine Z9u ?_)
    exact fin i.toNat hki.symm
  · refine Zbn (fun _ _ => rfl) ?_
    (refine Z9y (keep := [2, 3, 6]) ?_; ((repeat (first | refine Z9v rfl ?_ | refine Z9w ?_)); refine Z9u ?_))
    exact fin j (by simp [Zmf, k10, k11, k13])
theorem Z136 {k : Int} (h : Zmb k = true) : k = 7 ∨ k = 8 ∨ k = 16 ∨ k = 17 := by
  simp only [Zmb, Bool.or_eq_true, decide_eq_true_eq] at h
  omega
theorem Z137 (t : Ty) (i n : Int) (b : List UInt8) (m : Nat) : ownV t i n b m =
    if Z131 t.kind false i n b m = false ∨ numI t.kind t.kids.length t.prec i n = false then 1 else if longF t.kind t.len b = true then 4 else Z134 t.kind m t.kids.length := by
  have hc : Z134 t.kind m t.kids.length = (if t.kind = 10 then (if 16384 < m then 4 else 0)
      else if t.kind = 11 then (if m % 2 ≠ 0 then 1 else if 32768 < m then 4 else 0)
      else if t.kind = 12 then (if m ≠ t.kids.length then 1 else 0)
      else if t.kind = 13 then (if m ≠ 1 then 1 else 0)
      else 0) := by
    unfold Z134
    by_cases h11 : t.kind = 11
    · have h10 : ¬ t.kind = 10 := by omega
      rw [if_pos h11, if_neg h10, if_pos h11]
      by_cases hm : m % 2 ≠ 0
      · rw [if_pos hm, if_pos hm]
      · rw [if_neg hm, if_neg hm]
        by_cases h16 : 16384 < m / 2
        · rw [if_pos h16, if_pos (by omega)]
        · rw [if_neg h16, if_neg (by omega)]
    · rw [if_neg h11]
      by_cases h10 : t.kind = 10
      · rw [if_pos h10, if_pos h10]
      · rw [if_neg h10, if_neg h10, if_neg h11]
  have h1 : (Zme t.kind t.kids.length t.prec i n = false ∨ (b ≠ [] ∧ Zmb t.kind = false) ∨ (m ≠ 0 ∧ Zlt t.kind = true)) ↔ (Z131 t.kind false i n b m = false ∨ numI t.kind t.kids.length t.prec i n = false) := by
    rw [Z12z]
    simp only [Z131, Bool.false_eq_true, if_false, decide_eq_false_iff_not]
    cases hx : numI t.kind t.kids.length t.prec i n <;> cases Zmb t.kind <;> cases Zlt t.kind <;> by_cases hn : n = 0 <;> by_cases h9 : t.kind = 9 <;> by_cases hb : b = [] <;> by_cases hm : m = 0 <;> simp_all
  unfold ownV
  by_cases hA : Z131 t.kind false i n b m = false ∨ numI t.kind t.kids.length t.prec i n = false
  · rw [if_pos hA, if_pos (h1.2 hA)]
  · rw [if_neg hA, if_neg (fun h => hA (h1.1 h)), hc]
    have hB : b = [] ∨ Zmb t.kind = true := by
      simp only [not_or, Bool.not_eq_false] at hA
      have := hA.1
      simp only [Z131, Bool.false_eq_true, if_false, decide_eq_true_eq] at this
      exact this.2.1
    have h2 : (4096 < b.length ∨ ((t.kind = 16 ∨ t.kind = 17) ∧ t.len < (Zmc b : Int))) ↔ longF t.kind t.len b = true := by
      simp only [longF, decide_eq_true_eq]
      rcases hB with hb | hb
      · subst hb
        simp
      · have := Z136 hb
        constructor
        · rintro (h | h)
          · exact .inr ⟨this, h⟩
          · exact .inl h
        · rintro (h | h)
          · exact .inr h
          · exact .inl h.2
    by_cases hL : longF t.kind t.len b = true
    · rw [if_pos hL, if_pos (h2.2 hL)]
    · rw [if_neg hL, if_neg (fun h => hL (h2.1 h))]
theorem Z138 : ∀ (v : Vl), v.Fit → ∀ (t : Ty), t.Ok → ∀ σ, Z1q Try.prog Zet [encT t, encV v] σ fun r σ' => r = .int .i64 (vchk t v : Int) ∧ σ' = σ := by
  refine Vl.ind fun nu i n bs vks ih hfit t hok σ => ?_
  cases hfit with
  | mk hi hbl hkl hkids =>
  have hka := fun (j : Nat) (hj : j < vks.length) (ho : ownV t i n bs vks.length = 0) => Ztv hok ho hj
  have hko := fun (j : Nat) (hlt : Zmf t.kind i j < t.kids.length) => Ztw (i := i) (j := j) hok hlt
  have hkid := fun (j : Nat) (hj : j ≤ 9223372036854775807) => c_kid t i n nu bs vks j hj
  have hNa := Z132 t (.mk nu i n bs vks)
  have hNu := Z130 t (.mk nu i n bs vks) hi
  have hLo := Z133 t (.mk nu i n bs vks) hbl
  have hCo := Z135 t (.mk nu i n bs vks) hkl
  have hown := Z137 t i n bs vks.length
  have hvL := Ztx t i vks
  generalize hX : vchk t (.mk nu i n bs vks) = X
  have hX' := hX
  rw [vchk] at hX'
  simp only [Vl.null, Vl.i, Vl.n, Vl.b, Vl.kids] at hNa hNu hLo hCo hkl hkids
  have hkl : vks.length ≤ 9223372036854775807 := hkl
  simp only [Zlp, Zm7] at *
  refine Z8t rfl Z12f (Nat.le_of_ble_eq_true rfl) ?_
  refine Z9z ?_
  refine Z9j rfl (Z0.fit_iff.1 rfl) fun b1 hb1 => ?_
  refine Z9j rfl (Z0.fit_iff.1 rfl) fun b2 hb2 => ?_
  (repeat (refine st_q rfl rfl rfl ?_))
  (refine Z8y ?_; (repeat (first | refine Z9v rfl ?_ | refine Z9w ?_)); refine Z9u ?_)
  refine Zb3 (d := 3) (cs := Zm6 (.mk nu i n bs vks)) rfl ?_
  refine Zb3 (d := 2) (cs := Zlo t) rfl ?_
  (repeat (first | refine st_q rfl rfl rfl ?_ | refine awp_seq ?_ | refine Zbm (fun _ _ => rfl) ?_ | refine Z8h ?_))
  (first | refine Z9t rfl (hNa _) ?_ | refine Z8v rfl (Z9t rfl (hNa _) ?_) | refine Zbw rfl hNa ?_ | refine Z8v rfl (Zbw rfl hNa ?_))
  cases nu with
  | true =>
    rw [if_pos rfl] at hX'
    cases hq : Z131 t.kind true i n bs vks.length with
    | false =>
      (repeat (first | refine st_q rfl rfl rfl ?_ | refine Z8w rfl ?_ | refine Z8x rfl ?_ | (refine Z8y ?_; (repeat (first | refine Z9v rfl ?_ | refine Z9w ?_)); refine Z9u ?_) | refine awp_seq ?_ | refine Zbm (fun _ _ => rfl) ?_ | refine Z8f (t := true) rfl (fun _ => ?_) (fun e => by cases e)))
      refine Z8d ?_
      refine ares rfl (HSub.refl _) ⟨?_, rfl⟩
      simp only [Z131, if_true, decide_eq_false_iff_not] at hq
      rw [← hX', if_pos (by
        by_cases a1 : i = 0
        · by_cases a2 : n = 0
          · by_cases a3 : bs = []
            · exact .inr (.inr (.inr fun a4 => hq ⟨a1, a2, a3, a4⟩))
            · exact .inr (.inr (.inl a3))
          · exact .inr (.inl a2)
        · exact .inl a1)]
      rfl
    | true =>
      (repeat (first | refine st_q rfl rfl rfl ?_ | refine Z8v rfl (st_q rfl rfl rfl ?_) | refine Z8w rfl ?_ | (refine Z8y ?_; (repeat (first | refine Z9v rfl ?_ | refine Z9w ?_)); refine Z9u ?_) | refine awp_seq ?_ | refine Zbm (fun _ _ => rfl) ?_ | refine Z8f (t := true) rfl (fun _ => ?_) (fun e => by cases e) | refine Z8f (t := false) rfl (fun e => by cases e) (fun _ => ?_)))
      refine Z8d ?_
      refine ares rfl (HSub.refl _) ⟨?_, rfl⟩
      simp only [Z131, if_true, decide_eq_true_eq] at hq
      rw [← hX', if_neg (fun h => h.elim (fun h => h hq.1) fun h => h.elim (fun h => h hq.2.1) fun h => h.elim (fun h => h hq.2.2.1) fun h => h hq.2.2.2)]
      rfl
  | false =>
    rw [if_neg (by simp)] at hX'
    cases hq : Z131 t.kind false i n bs vks.length with
    | false =>
      rw [hq, if_pos (.inl rfl)] at hown
      rw [hown, if_pos (by decide)] at hX'
      (repeat (first | refine st_q rfl rfl rfl ?_ | refine Z8w rfl ?_ | refine Z8x rfl ?_ | (refine Z8y ?_; (repeat (first | refine Z9v rfl ?_ | refine Z9w ?_)); refine Z9u ?_) | refine awp_seq ?_ | refine Zbm (fun _ _ => rfl) ?_ | refine Z8f (t := true) rfl (fun _ => ?_) (fun e => by cases e)))
      (refine Z8d ?_; exact ares rfl (HSub.refl _) ⟨(by rw [← hX']; rfl), rfl⟩)
    | true =>
    (repeat (first | refine st_q rfl rfl rfl ?_ | refine Z8v rfl (st_q rfl rfl rfl ?_)))
    (first | refine Z9t rfl (hNu _) ?_ | refine Z8v rfl (Z9t rfl (hNu _) ?_) | refine Zbw rfl hNu ?_ | refine Z8v rfl (Zbw rfl hNu ?_))
    cases hq2 : numI t.kind t.kids.length t.prec i n with
    | false =>
      rw [hq2, if_pos (.inr rfl)] at hown
      rw [hown, if_pos (by decide)] at hX'
      (repeat (first | refine st_q rfl rfl rfl ?_ | refine Z8v rfl (st_q rfl rfl rfl ?_) | (refine Z8y ?_; (repeat (first | refine Z9v rfl ?_ | refine Z9w ?_)); refine Z9u ?_) | refine awp_seq ?_ | refine Zbm (fun _ _ => rfl) ?_ | refine Z8f (t := true) rfl (fun _ => ?_) (fun e => by cases e)))
      (refine Z8d ?_; exact ares rfl (HSub.refl _) ⟨(by rw [← hX']; rfl), rfl⟩)
    | true =>
    rw [hq, hq2, if_neg (by simp)] at hown
    (repeat (first | refine st_q rfl rfl rfl ?_ | refine Z8v rfl (st_q rfl rfl rfl ?_) | (refine Z8y ?_; (repeat (first | refine Z9v rfl ?_ | refine Z9w ?_)); refine Z9u ?_) | refine awp_seq ?_ | refine Zbm (fun _ _ => rfl) ?_ | refine Z8f (t := false) rfl (fun e => by cases e) (fun _ => ?_)))
    (first | refine Z9t rfl (hLo _) ?_ | refine Z8v rfl (Z9t rfl (hLo _) ?_) | refine Zbw rfl hLo ?_ | refine Z8v rfl (Zbw rfl hLo ?_))
    cases hq3 : longF t.kind t.len bs with
    | true =>
      rw [hq3, if_pos rfl] at hown
      rw [hown, if_pos (by decide)] at hX'
      (repeat (first | refine st_q rfl rfl rfl ?_ | (refine Z8y ?_; (repeat (first | refine Z9v rfl ?_ | refine Z9w ?_)); refine Z9u ?_) | refine awp_seq ?_ | refine Zbm (fun _ _ => rfl) ?_ | refine Z8f (t := true) rfl (fun _ => ?_) (fun e => by cases e)))
      (refine Z8d ?_; exact ares rfl (HSub.refl _) ⟨(by rw [← hX']; rfl), rfl⟩)
    | false =>
    rw [hq3, if_neg (by simp)] at hown
    rw [← hown] at hCo
    (repeat (first | refine st_q rfl rfl rfl ?_ | (refine Z8y ?_; (repeat (first | refine Z9v rfl ?_ | refine Z9w ?_)); refine Z9u ?_) | refine awp_seq ?_ | refine Zbm (fun _ _ => rfl) ?_ | refine Zbn (fun _ _ => rfl) ?_ | refine Z8f (t := false) rfl (fun e => by cases e) (fun _ => ?_)))
    (first | refine Z9t rfl (hCo _) ?_ | refine Z8v rfl (Z9t rfl (hCo _) ?_) | refine Zbw rfl hCo ?_ | refine Z8v rfl (Zbw rfl hCo ?_))
    (repeat (first | refine st_q rfl rfl rfl ?_ | (refine Z8y ?_; (repeat (first | refine Z9v rfl ?_ | refine Z9w ?_)); refine Z9u ?_) | refine awp_seq ?_ | refine Zbm (fun _ _ => rfl) ?_))
    by_cases hq4 : ownV t i n bs vks.length = 0
    rotate_left
    · (rw [show decide ((ownV t i n bs vks.length : Int) ≠ 0) = true from decide_eq_true (by omega)])
      rw [if_pos hq4] at hX'
      (repeat (first | refine st_q rfl rfl rfl ?_ | (refine Z8y ?_; (repeat (first | refine Z9v rfl ?_ | refine Z9w ?_)); refine Z9u ?_) | refine awp_seq ?_ | refine Zbm (fun _ _ => rfl) ?_ | refine Z8f (t := true) rfl (fun _ => ?_) (fun e => by cases e)))
      (refine Z8d ?_; exact ares rfl (HSub.refl _) ⟨(by rw [← hX']; rfl), rfl⟩)
    (rw [show decide ((ownV t i n bs vks.length : Int) ≠ 0) = false from decide_eq_false (by omega)])
    rw [if_neg (by simp [hq4])] at hX'
    (repeat (first | refine st_q rfl rfl rfl ?_ | (refine Z8y ?_; (repeat (first | refine Z9v rfl ?_ | refine Z9w ?_)); refine Z9u ?_) | refine awp_seq ?_ | refine Zbm (fun _ _ => rfl) ?_ | refine Z8h ?_ | refine Zbn (fun _ _ => rfl) ?_ | refine Z8f (t := false) rfl (fun e => by cases e) (fun _ => ?_)))
    rw [Zm9]
    obtain ⟨I, hI⟩ : ∃ I : Nat → Z26 → Zc → Prop, I = fun m F σ' => ∃ (j : Nat), F = fset 2 (some (.iptr (Zlo t))) (fset 3 (some (.iptr (Zm6 (.mk false i n bs vks)))) (fset 41 (some (.slc 5 (Zm5 vks) false)) (fset 42 (some (.int .i64 (vks.length : Int))) (fset 43 (some (.int .i64 (j : Int))) Z27)))) ∧
      σ = σ' ∧ j ≤ vks.length ∧ Zmg t i j (vks.drop j) = X ∧ m = vks.length - j := ⟨_, rfl⟩
    refine Zaa I (n := vks.length) (by rw [hI]; exact ⟨0, rfl, rfl, by omega, hX', rfl⟩) ?_
    intro m F σ' hIm
    rw [hI] at hIm
    obtain ⟨j, rfl, rfl, hj, hXj, rfl⟩ := hIm
    (repeat (first | refine st_q rfl rfl rfl ?_ | (refine Z8y ?_; (repeat (first | refine Z9v rfl ?_ | refine Z9w ?_)); refine Z9u ?_) | refine awp_seq ?_ | refine Zbm (fun _ _ => rfl) ?_))
    refine Za3 (p := (j : Int) < (vks.length : Int)) rfl (fun h5 => ?_) (fun h5 => ?_)
    · have hjl : j < vks.length := by omega
      obtain ⟨hlt, hi0⟩ := hka j hjl hq4
      have hg : (Zm5 vks)[((j : Nat) : Int).toNat]? = some (.agg (Zm6 vks[j])) := by rw [← Zm7]; exact Zma (by rw [Int.toNat_natCast, List.getElem?_eq_getElem hjl])
      have hK := hkid j (by omega) hi0 hlt
      have hcv := ih vks[j] (List.getElem_mem hjl) (hkids _ (List.getElem_mem hjl)) (kidT t i j) (hko j hlt)
      rw [hvL j vks[j] (List.getElem?_eq_getElem hjl)] at hXj
      generalize vks[j] = w at hg hcv hXj
      generalize kidT t i j = u at hK hcv hXj
      have cont : ∀ (R : Z87), (∀ F σ', R .normal F σ' = AWp Try.prog Zzi.n (.region Zzf [2, 3, 41, 42, 43]) (Za9 I (vks.length - j) (Z8g 1 (Z8e Try.prog Zzi.n (Zzi.code.snd 4) (ARet Zzi.res fun r σ' => r = .int .i64 (X : Int) ∧ σ' = σ)))) F σ') →
          (∀ F σ', R .ret F σ' = ARet Zzi.res (fun r σ' => r = .int .i64 (X : Int) ∧ σ' = σ) .ret F σ') → ¬ (t.kind = 11 ∧ j % 2 = 0 ∧ w.null = true) →
          AWp Try.prog Zzi.n (.seq (.region Zzc [2, 3, 10, 41, 42, 43]) (.seq (.region Zzd [2, 3, 10, 41, 42, 43, 75]) (.cond (.t 75) (.seq (.region Zze [4]) .ret) .skip))) R
            (fset 2 (some (.iptr (Zlo t))) (fset 3 (some (.iptr (Zm6 (.mk false i n bs vks)))) (fset 7 (some (.iptr (Zm6 w))) (fset 8 (some (.iptr (Zlo u))) (fset 41 (some (.slc 5 (Zm5 vks) false)) (fset 42 (some (.int .i64 (vks.length : Int))) (fset 43 (some (.int .i64 (j : Int))) Z27))))))) σ := by
        intro R hR hRr hno
        rw [if_neg hno] at hXj
        refine awp_seq ?_
        refine Zbm (fun _ _ => rfl) ?_
        (repeat (refine st_q rfl rfl rfl ?_))
        (first | refine Z9t rfl (hcv _) ?_ | refine Z8v rfl (Z9t rfl (hcv _) ?_) | refine Zbw rfl hcv ?_ | refine Z8v rfl (Zbw rfl hcv ?_))
        (repeat (refine st_q rfl rfl rfl ?_))
        (refine Z8y ?_; (repeat (first | refine Z9v rfl ?_ | refine Z9w ?_)); refine Z9u ?_)
        refine awp_seq ?_
        refine Zbm (fun _ _ => rfl) ?_
        (repeat (refine st_q rfl rfl rfl ?_))
        (refine Z8y ?_; (repeat (first | refine Z9v rfl ?_ | refine Z9w ?_)); refine Z9u ?_)
        refine Za3 (p := (vchk u w : Int) ≠ 0) rfl (fun h6 => ?_) (fun h6 => ?_)
        · rw [if_pos (by omega)] at hXj
          refine awp_seq ?_
          refine Zbm (fun _ _ => rfl) ?_
          (repeat (refine st_q rfl rfl rfl ?_))
          (refine Z8y ?_; (repeat (first | refine Z9v rfl ?_ | refine Z9w ?_)); refine Z9u ?_)
          refine Z8d ?_
          rw [hRr]
          exact ares rfl (HSub.refl _) ⟨by rw [← hXj]; rfl, rfl⟩
        · rw [if_neg (by omega)] at hXj
          refine Zbn hR ?_
          (refine Z9y (keep := [2, 3, 41, 42, 43]) ?_; ((repeat (first | refine Z9v rfl ?_ | refine Z9w ?_)); refine Z9u ?_))
          refine Zbp ?_
          (repeat (refine st_q rfl rfl rfl ?_))
          rw [show IntKind.wrap .i64 ((j : Int) + 1) = ((j + 1 : Nat) : Int) by rw [w64 _ (by omega) (by omega)]; omega]
          (repeat (refine st_q rfl rfl rfl ?_))
          (refine Z8y ?_; (repeat (first | refine Z9v rfl ?_ | refine Z9w ?_)); refine Z9u ?_)
          exact ⟨_, vks.length - (j + 1), HSub.refl _, by rw [hI]; exact ⟨j + 1, rfl, rfl, by omega, hXj, rfl⟩, by omega⟩
      (repeat (first | refine st_q rfl rfl rfl ?_ | refine awp_seq ?_ | refine Zbm (fun _ _ => rfl) ?_ | refine Z8h ?_ | refine Zbn (fun _ _ => rfl) ?_))
      refine Z93 rfl (by omega) hg ?_
      (repeat (refine st_q rfl rfl rfl ?_))
      refine Z9k (by simp [Z0.cells, Z0.one]) fun b7 hb7 => ?_
      (repeat (refine st_q rfl rfl rfl ?_))
      (first | refine Z9a rfl Z8z rfl (by decide) (Z0.fit_iff.1 rfl) (fun h => by cases h) Z9b ?_ | refine Z8v rfl (Z9a rfl Z8z rfl (by decide) (Z0.fit_iff.1 rfl) (fun h => by cases h) Z9b ?_))
      (refine Z8y ?_; (repeat (first | refine Z9v rfl ?_ | refine Z9w ?_)); refine Z9u ?_)
      refine Zb3 (d := 7) (cs := Zm6 w) rfl ?_
      (repeat (first | refine st_q rfl rfl rfl ?_ | refine awp_seq ?_ | refine Zbm (fun _ _ => rfl) ?_))
      (first | refine Z9t rfl (hK _) ?_ | refine Z8v rfl (Z9t rfl (hK _) ?_) | refine Zbw rfl hK ?_ | refine Z8v rfl (Zbw rfl hK ?_))
      (repeat (refine st_q rfl rfl rfl ?_))
      refine Z9k (by simp [Z0.cells, Z0.one]) fun b8 hb8 => ?_
      (first | refine Z9a rfl Z8z rfl (by decide) (Z0.fit_iff.1 rfl) (fun h => by cases h) Z9b ?_ | refine Z8v rfl (Z9a rfl Z8z rfl (by decide) (Z0.fit_iff.1 rfl) (fun h => by cases h) Z9b ?_))
      (repeat (refine st_q rfl rfl rfl ?_))
      (refine Z8y ?_; (repeat (first | refine Z9v rfl ?_ | refine Z9w ?_)); refine Z9u ?_)
      refine Zb3 (d := 8) (cs := Zlo u) rfl ?_
      refine awp_seq ?_
      refine awp_seq ?_
      refine Zbm (fun _ _ => rfl) ?_
      (repeat (first | refine st_q rfl rfl rfl ?_ | refine Z8v rfl (st_q rfl rfl rfl ?_)))
      by_cases k11 : t.kind = 11
      · (rw [show decide (t.kind = 11) = true from decide_eq_true (by omega)])
        (repeat refine Z8v rfl (st_q rfl rfl rfl ?_))
        rw [show (j : Int).tmod 2 = ((j % 2 : Nat) : Int) by rw [Int.tmod_eq_emod_of_nonneg (by omega)]; omega]
        by_cases hp : j % 2 = 0
        · (rw [show decide (((j % 2 : Nat) : Int) = 0) = true from decide_eq_true (by omega)])
          (repeat (first | refine st_q rfl rfl rfl ?_ | refine Z8v rfl (st_q rfl rfl rfl ?_)))
          cases hw : w.null with
          | true =>
            rw [if_pos ⟨k11, hp, hw⟩] at hXj
            skip
            (refine Z8y ?_; (repeat (first | refine Z9v rfl ?_ | refine Z9w ?_)); refine Z9u ?_)
            refine Z8f (t := true) rfl (fun _ => ?_) (fun e => by cases e)
            (repeat (first | refine st_q rfl rfl rfl ?_ | (refine Z8y ?_; (repeat (first | refine Z9v rfl ?_ | refine Z9w ?_)); refine Z9u ?_) | refine awp_seq ?_ | refine Zbm (fun _ _ => rfl) ?_))
            (refine Z8d ?_; exact ares rfl (HSub.refl _) ⟨(by rw [← hXj]; rfl), rfl⟩)
          | false =>
            skip
            (refine Z8y ?_; (repeat (first | refine Z9v rfl ?_ | refine Z9w ?_)); refine Z9u ?_)
            refine Z8f (t := false) rfl (fun e => by cases e) (fun _ => ?_)
            refine Zbn (fun _ _ => rfl) ?_
            (refine Z9y (keep := [2, 3, 7, 8, 41, 42, 43]) ?_; ((repeat (first | refine Z9v rfl ?_ | refine Z9w ?_)); refine Z9u ?_))
            exact cont _ (by intro _ _; rfl) (by intro _ _; rfl) (by simp [hw])
        · (rw [show decide (((j % 2 : Nat) : Int) = 0) = false from decide_eq_false (by omega)])
          (repeat (first | refine st_q rfl rfl rfl ?_ | refine Z8v rfl (st_q rfl rfl rfl ?_) | refine Z8w rfl ?_))
          (refine Z8y ?_; (repeat (first | refine Z9v rfl ?_ | refine Z9w ?_)); refine Z9u ?_)
          refine Z8f (t := false) rfl (fun e => by cases e) (fun _ => ?_)
          refine Zbn (fun _ _ => rfl) ?_
          (refine Z9y (keep := [2, 3, 7, 8, 41, 42, 43]) ?_; ((repeat (first | refine Z9v rfl ?_ | refine Z9w ?_)); refine Z9u ?_))
          exact cont _ (by intro _ _; rfl) (by intro _ _; rfl) (by simp [hp])
      · (rw [show decide (t.kind = 11) = false from decide_eq_false (by omega)])
        (repeat (first | refine st_q rfl rfl rfl ?_ | refine Z8v rfl (st_q rfl rfl rfl ?_) | refine Z8w rfl ?_))
        (refine Z8y ?_; (repeat (first | refine Z9v rfl ?_ | refine Z9w ?_)); refine Z9u ?_)
        refine Z8f (t := false) rfl (fun e => by cases e) (fun _ => ?_)
        refine Zbn (fun _ _ => rfl) ?_
        (refine Z9y (keep := [2, 3, 7, 8, 41, 42, 43]) ?_; ((repeat (first | refine Z9v rfl ?_ | refine Z9w ?_)); refine Z9u ?_))
        exact cont _ (by intro _ _; rfl) (by intro _ _; rfl) (by simp [k11])
    · rw [List.drop_of_length_le (by omega), Zmg] at hXj
      (repeat (first | refine st_q rfl rfl rfl ?_ | (refine Z8y ?_; (repeat (first | refine Z9v rfl ?_ | refine Z9w ?_)); refine Z9u ?_) | refine awp_seq ?_ | refine Zbm (fun _ _ => rfl) ?_ | refine Zbo (fun _ _ => rfl) ?_))
      (refine Z8d ?_; exact ares rfl (HSub.refl _) ⟨(by rw [← hXj]; rfl), rfl⟩)
end Go.Abs

