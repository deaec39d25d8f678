/- Part L of a proof: merged by program. -/
import Derived.Test.YtgmefkhincnajaaPkK
import Derived.Test.YtgmefkhincnajaaProg
import Derived.KernelRfl
namespace Go.Abs
open Go
def Z1bc : List Z2a := [
  ⟨some 2, (.box 6), [.t 0], none⟩,
  ⟨some 4, .mov, [.c (.bool false)], none⟩]
def Z1bd : List Z2a := [
  ⟨some 7, (.load true 6), [.t 2], none⟩,
  ⟨some 8, (.call Zdr), [.t 7], none⟩,
  ⟨some 9, .unot, [.t 8], none⟩,
  ⟨some 10, .mov, [.t 9], none⟩,
  ⟨some 11, .mov, [.t 1], some (10, false)⟩,
  ⟨some 12, .lens, [.t 11], some (10, false)⟩,
  ⟨some 13, (.bin .gtr), [.t 12, .c (.int .i64 200)], some (10, false)⟩,
  ⟨some 14, .pick, [.t 10, .c (.bool true), .t 13], none⟩]
def Z1be : List Z2a := [
  ⟨some 4, .mov, [.c (.bool false)], none⟩]
def Z1bf : List Z2a := [
  ⟨some 5, .mov, [.c (.int .i64 0)], none⟩]
def Z1bg : List Z2a := [
  ⟨some 6, .mov, [.c (.int .i64 0)], none⟩]
def Z1bh : List Z2a := [
  ⟨some 15, .mov, [.t 6], none⟩,
  ⟨some 16, .mov, [.t 1], none⟩,
  ⟨some 17, .lens, [.t 16], none⟩,
  ⟨some 18, (.bin .lss), [.t 15, .t 17], none⟩]
def Z1bi : List Z2a := [
  ⟨some 21, .mov, [.t 5], none⟩,
  ⟨some 22, .mov, [.t 1], none⟩,
  ⟨some 23, .mov, [.t 6], none⟩,
  ⟨some 24, (.iad 5), [.t 22, .t 23], none⟩,
  ⟨some 25, (.load true 5), [.t 24], none⟩,
  ⟨some 26, (.call Zdz), [.t 25], none⟩,
  ⟨some 27, (.bin .add), [.t 21, .t 26], none⟩,
  ⟨some 5, .mov, [.t 27], none⟩]
def Z1bj : List Z2a := [
  ⟨some 28, .mov, [.t 5], none⟩,
  ⟨some 29, (.bin .gtr), [.t 28, .c (.int .i64 1000)], none⟩]
def Z1bk : List Z2a := [
  ⟨some 4, .mov, [.c (.bool false)], none⟩]
def Z1bl : List Z2a := [
  ⟨some 19, .mov, [.t 6], none⟩,
  ⟨some 20, (.bin .add), [.t 19, .c (.int .i64 1)], none⟩,
  ⟨some 6, .mov, [.t 20], none⟩]
def Z1bm : Z2b := (.seq (.seq (.region Z1bh [1, 5, 6, 18]) (.cond (.t 18) .skip (.exit 0))) (.seq (.block 1 (.seq (.region Z1bi [1, 5, 6]) (.seq (.region Z1bj [1, 5, 6, 29]) (.cond (.t 29) (.seq (.region Z1bk [4]) .ret) .skip)))) (.region Z1bl [1, 5, 6])))
def Z1bn : List Z2a := [
  ⟨some 4, .mov, [.c (.bool true)], none⟩]
def Z1bo : Z2y := ⟨30, (.seq (.region Z1bc [1, 2]) (.seq (.seq (.region Z1bd [1, 14]) (.cond (.t 14) (.seq (.region Z1be [4]) .ret) .skip)) (.seq (.region Z1bf [1, 5]) (.seq (.seq (.region Z1bg [1, 5, 6]) (.block 0 (.loop Z1bm))) (.seq (.region Z1bn [4]) .ret))))), [.t 4]⟩
def Z18x : List Z2a := [
  ⟨some 0, .mov, [.c (.bool false)], none⟩]
def Z18y : List Z2a := [
  ⟨some 9, (.bsl 1), [.c (.str [97])], none⟩,
  ⟨some 10, (.bld [(.int .i64 0), (.slc 0 [] true), (.slc 0 [] true), (.int .i64 0), (.int .i64 0), (.int .i64 0)] [(0, 1)]), [.c (.int .i64 3)], none⟩,
  ⟨some 11, (.bsl 6), [.t 10], none⟩,
  ⟨some 12, (.bld [(.int .i64 0), (.slc 0 [] true), (.slc 0 [] true), (.int .i64 0), (.int .i64 0), (.int .i64 0)] [(0, 1), (1, 1), (2, 1)]), [.c (.int .i64 12), .t 9, .t 11], none⟩,
  ⟨some 1, (.alloc (.agg [(.int .i64 0), (.slc 0 [] true), (.slc 0 [] true), (.int .i64 0), (.int .i64 0), (.int .i64 0)])), [], none⟩,
  ⟨none, (.store 6), [.t 1, .t 12], none⟩]
def Z18z : List Z2a := [
  ⟨some 13, (.load true 6), [.t 1], none⟩,
  ⟨some 14, (.call Zcs), [.t 13], none⟩,
  ⟨some 2, .mov, [.t 14], none⟩]
def Z190 : List Z2a := [
  ⟨some 15, .mov, [.t 2], none⟩,
  ⟨some 16, .lens, [.t 15], none⟩,
  ⟨some 17, (.bin .neq), [.t 16, .c (.int .i64 2)], none⟩]
def Z191 : List Z2a := [
  ⟨some 0, .mov, [.c (.bool false)], none⟩]
def Z192 : List Z2a := [
  ⟨some 18, (.bld [(.bool false), (.int .i64 0), (.int .i64 0), (.slc 0 [] true), (.slc 0 [] true)] [(1, 1)]), [.c (.int .i64 5)], none⟩,
  ⟨some 19, (.bld [(.int .i64 0), (.int .i64 0), (.bool false), (.int .i64 0), (.int .i64 0), (.slc 0 [] true), (.slc 0 [] true)] [(0, 1), (1, 1), (2, 5)]), [.c (.int .i64 1), .c (.int .i64 3), .t 18], none⟩,
  ⟨some 20, (.bsl 7), [.t 19], none⟩,
  ⟨some 3, .mov, [.t 20], none⟩]
def Z193 : List Z2a := [
  ⟨some 21, (.bld [(.bool false), (.int .i64 0), (.int .i64 0), (.slc 0 [] true), (.slc 0 [] true)] [(1, 1)]), [.c (.int .i64 4)], none⟩,
  ⟨some 22, (.bsl 5), [.t 21], none⟩,
  ⟨some 23, (.bld [(.bool false), (.int .i64 0), (.int .i64 0), (.slc 0 [] true), (.slc 0 [] true)] [(4, 1)]), [.t 22], none⟩,
  ⟨some 4, (.alloc (.agg [(.bool false), (.int .i64 0), (.int .i64 0), (.slc 0 [] true), (.slc 0 [] true)])), [], none⟩,
  ⟨none, (.store 5), [.t 4, .t 23], none⟩]
def Z194 : List Z2a := [
  ⟨some 24, (.bld [(.bool false), (.int .i64 0), (.int .i64 0), (.slc 0 [] true), (.slc 0 [] true)] [(0, 1)]), [.c (.bool true)], none⟩,
  ⟨some 25, (.bsl 5), [.t 24], none⟩,
  ⟨some 26, (.bld [(.bool false), (.int .i64 0), (.int .i64 0), (.slc 0 [] true), (.slc 0 [] true)] [(4, 1)]), [.t 25], none⟩,
  ⟨some 5, (.alloc (.agg [(.bool false), (.int .i64 0), (.int .i64 0), (.slc 0 [] true), (.slc 0 [] true)])), [], none⟩,
  ⟨none, (.store 5), [.t 5, .t 26], none⟩]
def Z195 : List Z2a := [
  ⟨some 28, .mov, [.t 2], none⟩,
  ⟨some 29, (.load true 5), [.t 4], none⟩,
  ⟨some 30, (.call Zdg), [.t 28, .c (.int .i64 1), .t 29], none⟩,
  ⟨some 27, .mov, [.t 30], none⟩,
  ⟨some 31, (.ext 0), [.t 27], none⟩,
  ⟨some 32, (.ext 1), [.t 27], none⟩,
  ⟨some 6, (.alloc (.agg [(.bool false), (.int .i64 0), (.int .i64 0), (.slc 0 [] true), (.slc 0 [] true)])), [], none⟩,
  ⟨none, (.store 5), [.t 6, .t 31], none⟩,
  ⟨some 7, .mov, [.t 32], none⟩]
def Z196 : List Z2a := [
  ⟨some 33, (.bld [(.int .i64 0), (.bool false), (.bool false), (.bool false), (.int .i64 0), (.int .i64 0), (.slc 0 [] true), (.slc 0 [] true), (.bool false), (.int .i64 0), (.int .i64 0), (.slc 0 [] true), (.slc 0 [] true), (.bool false), (.int .i64 0)] [(0, 1)]), [.c (.int .i64 1)], none⟩,
  ⟨some 34, (.bld [(.bool false), (.int .i64 0), (.int .i64 0), (.slc 0 [] true), (.slc 0 [] true)] [(1, 1)]), [.c (.int .i64 5)], none⟩,
  ⟨some 35, (.bld [(.bool false), (.int .i64 0), (.int .i64 0), (.slc 0 [] true), (.slc 0 [] true)] [(1, 1)]), [.c (.int .i64 9)], none⟩,
  ⟨some 36, (.bld [(.int .i64 0), (.bool false), (.bool false), (.bool false), (.int .i64 0), (.int .i64 0), (.slc 0 [] true), (.slc 0 [] true), (.bool false), (.int .i64 0), (.int .i64 0), (.slc 0 [] true), (.slc 0 [] true), (.bool false), (.int .i64 0)] [(0, 1), (2, 1), (3, 5), (8, 5)]), [.c (.int .i64 1), .c (.bool true), .t 34, .t 35], none⟩,
  ⟨some 37, (.bsl 15), [.t 33, .t 36], none⟩,
  ⟨some 8, .mov, [.t 37], none⟩]
def Z197 : List Z2a := [
  ⟨some 38, .mov, [.t 2], none⟩,
  ⟨some 39, .mov, [.t 3], none⟩,
  ⟨some 40, (.call Zdh), [.t 38, .t 39], none⟩,
  ⟨some 41, (.bin .eql), [.t 40, .c (.int .i64 0)], none⟩,
  ⟨some 42, .mov, [.t 41], none⟩,
  ⟨some 43, .mov, [.t 2], some (42, true)⟩,
  ⟨some 44, (.bld [(.int .i64 0), (.int .i64 0), (.bool false), (.int .i64 0), (.int .i64 0), (.slc 0 [] true), (.slc 0 [] true)] [(0, 1), (1, 1)]), [.c (.int .i64 0), .c (.int .i64 1)], some (42, true)⟩,
  ⟨some 45, (.bsl 7), [.t 44], some (42, true)⟩,
  ⟨some 46, (.call Zdh), [.t 43, .t 45], some (42, true)⟩,
  ⟨some 47, (.bin .eql), [.t 46, .c (.int .i64 1)], some (42, true)⟩,
  ⟨some 48, .pick, [.t 42, .t 47, .c (.bool false)], none⟩,
  ⟨some 49, .mov, [.t 48], none⟩,
  ⟨some 50, .mov, [.t 2], some (49, true)⟩,
  ⟨some 51, .mov, [.t 3], some (49, true)⟩,
  ⟨some 52, (.load true 5), [.t 4], some (49, true)⟩,
  ⟨some 53, (.call Zdd), [.t 50, .t 51, .t 52], some (49, true)⟩,
  ⟨some 54, (.bin .eql), [.t 53, .c (.int .i64 1)], some (49, true)⟩,
  ⟨some 55, .pick, [.t 49, .t 54, .c (.bool false)], none⟩,
  ⟨some 56, .mov, [.t 55], none⟩,
  ⟨some 57, .mov, [.t 2], some (56, true)⟩,
  ⟨some 58, .mov, [.t 3], some (56, true)⟩,
  ⟨some 59, (.load true 5), [.t 5], some (56, true)⟩,
  ⟨some 60, (.call Zdd), [.t 57, .t 58, .t 59], some (56, true)⟩,
  ⟨some 61, (.bin .eql), [.t 60, .c (.int .i64 2)], some (56, true)⟩,
  ⟨some 62, .pick, [.t 56, .t 61, .c (.bool false)], none⟩,
  ⟨some 63, .mov, [.t 62], none⟩,
  ⟨some 64, .mov, [.t 2], some (63, true)⟩,
  ⟨some 65, .mov, [.t 3], some (63, true)⟩,
  ⟨some 66, .mov, [.t 8], some (63, true)⟩,
  ⟨some 67, (.call Zdb), [.t 64, .t 65, .t 66], some (63, true)⟩,
  ⟨some 68, .unot, [.t 67], some (63, true)⟩,
  ⟨some 69, .pick, [.t 63, .t 68, .c (.bool false)], none⟩,
  ⟨some 70, .mov, [.t 69], none⟩,
  ⟨some 71, (.fad 1), [.t 6], some (70, true)⟩,
  ⟨some 72, (.load false 1), [.t 71], some (70, true)⟩,
  ⟨some 73, (.bin .eql), [.t 72, .c (.int .i64 4)], some (70, true)⟩,
  ⟨some 74, .pick, [.t 70, .t 73, .c (.bool false)], none⟩,
  ⟨some 75, .mov, [.t 74], none⟩,
  ⟨some 76, .mov, [.t 7], some (75, true)⟩,
  ⟨some 77, .pick, [.t 75, .t 76, .c (.bool false)], none⟩,
  ⟨some 0, .mov, [.t 77], none⟩]
def Z198 : Z2y := ⟨78, (.seq (.region Z18x []) (.seq (.region Z18y [1]) (.seq (.region Z18z [2]) (.seq (.seq (.region Z190 [2, 17]) (.cond (.t 17) (.seq (.region Z191 [0]) .ret) .skip)) (.seq (.region Z192 [2, 3]) (.seq (.region Z193 [2, 3, 4]) (.seq (.region Z194 [2, 3, 4, 5]) (.seq (.region Z195 [2, 3, 4, 5, 6, 7]) (.seq (.region Z196 [2, 3, 4, 5, 6, 7, 8]) (.seq (.region Z197 [0]) .ret)))))))))), [.t 0]⟩
def Z1ce : List Z2a := [
  ⟨some 2, .mov, [.c (.bool false)], none⟩]
def Z1cf : List Z2a := [
  ⟨some 4, .mov, [.t 0], none⟩,
  ⟨some 5, .lens, [.t 4], none⟩,
  ⟨some 6, (.bin .gtr), [.t 5, .c (.int .i64 20)], none⟩]
def Z1cg : List Z2a := [
  ⟨some 2, .mov, [.c (.bool false)], none⟩]
def Z1ch : List Z2a := [
  ⟨some 3, .mov, [.c (.int .i64 0)], none⟩]
def Z1ci : List Z2a := [
  ⟨some 7, .mov, [.t 3], none⟩,
  ⟨some 8, .mov, [.t 0], none⟩,
  ⟨some 9, .lens, [.t 8], none⟩,
  ⟨some 10, (.bin .lss), [.t 7, .t 9], none⟩]
def Z1cj : List Z2a := [
  ⟨some 13, .mov, [.t 0], none⟩,
  ⟨some 14, .mov, [.t 3], none⟩,
  ⟨some 15, (.iad 7), [.t 13, .t 14], none⟩,
  ⟨some 16, (.fad 2), [.t 15], none⟩,
  ⟨some 17, (.load true 5), [.t 16], none⟩,
  ⟨some 18, (.call Zee), [.t 17], none⟩,
  ⟨some 19, .unot, [.t 18], none⟩]
def Z1ck : List Z2a := [
  ⟨some 2, .mov, [.c (.bool false)], none⟩]
def Z1cl : List Z2a := [
  ⟨some 11, .mov, [.t 3], none⟩,
  ⟨some 12, (.bin .add), [.t 11, .c (.int .i64 1)], none⟩,
  ⟨some 3, .mov, [.t 12], none⟩]
def Z1cm : Z2b := (.seq (.seq (.region Z1ci [0, 3, 10]) (.cond (.t 10) .skip (.exit 0))) (.seq (.block 1 (.seq (.region Z1cj [0, 3, 19]) (.cond (.t 19) (.seq (.region Z1ck [2]) .ret) .skip))) (.region Z1cl [0, 3])))
def Z1cn : List Z2a := [
  ⟨some 2, .mov, [.c (.bool true)], none⟩]
def Z1co : Z2y := ⟨20, (.seq (.region Z1ce [0]) (.seq (.seq (.region Z1cf [0, 6]) (.cond (.t 6) (.seq (.region Z1cg [2]) .ret) .skip)) (.seq (.seq (.region Z1ch [0, 3]) (.block 0 (.loop Z1cm))) (.seq (.region Z1cn [2]) .ret)))), [.t 2]⟩
def Z1cp : List Z2a := [
  ⟨some 2, .mov, [.c (.slc 0 [] true)], none⟩]
def Z1cq : List Z2a := [
  ⟨some 3, .mov, [.c (.slc 0 [] true)], none⟩]
def Z1cr : List Z2a := [
  ⟨some 4, .mov, [.c (.int .i64 0)], none⟩]
def Z1cs : List Z2a := [
  ⟨some 5, .mov, [.t 4], none⟩,
  ⟨some 6, .mov, [.t 0], none⟩,
  ⟨some 7, .lens, [.t 6], none⟩,
  ⟨some 8, (.bin .lss), [.t 5, .t 7], none⟩]
def Z1ct : List Z2a := [
  ⟨some 11, .mov, [.t 3], none⟩,
  ⟨some 12, .mov, [.t 0], none⟩,
  ⟨some 13, .mov, [.t 4], none⟩,
  ⟨some 14, (.iad 7), [.t 12, .t 13], none⟩,
  ⟨some 15, (.fad 0), [.t 14], none⟩,
  ⟨some 16, (.load false 1), [.t 15], none⟩,
  ⟨some 17, .mov, [.t 0], none⟩,
  ⟨some 18, .mov, [.t 4], none⟩,
  ⟨some 19, (.iad 7), [.t 17, .t 18], none⟩,
  ⟨some 20, (.fad 1), [.t 19], none⟩,
  ⟨some 21, (.load false 1), [.t 20], none⟩,
  ⟨some 22, .mov, [.t 0], none⟩,
  ⟨some 23, .mov, [.t 4], none⟩,
  ⟨some 24, (.iad 7), [.t 22, .t 23], none⟩,
  ⟨some 25, (.fad 2), [.t 24], none⟩,
  ⟨some 26, (.load true 5), [.t 25], none⟩,
  ⟨some 27, (.bld [(.int .i64 0), (.int .i64 0), (.bool false), (.int .i64 0), (.int .i64 0), (.slc 0 [] true), (.slc 0 [] true)] [(0, 1), (1, 1), (2, 5)]), [.t 16, .t 21, .t 26], none⟩,
  ⟨some 28, (.bsl 7), [.t 27], none⟩,
  ⟨some 29, (.app 7 88), [.t 11, .t 28], none⟩,
  ⟨some 3, .mov, [.t 29], none⟩]
def Z1cu : List Z2a := [
  ⟨some 9, .mov, [.t 4], none⟩,
  ⟨some 10, (.bin .add), [.t 9, .c (.int .i64 1)], none⟩,
  ⟨some 4, .mov, [.t 10], none⟩]
def Z1cv : Z2b := (.seq (.seq (.region Z1cs [0, 3, 4, 8]) (.cond (.t 8) .skip (.exit 0))) (.seq (.block 1 (.region Z1ct [0, 3, 4])) (.region Z1cu [0, 3, 4])))
def Z1cw : List Z2a := [
  ⟨some 30, .mov, [.t 3], none⟩,
  ⟨some 2, .mov, [.t 30], none⟩]
def Z1cx : Z2y := ⟨31, (.seq (.region Z1cp [0]) (.seq (.region Z1cq [0, 3]) (.seq (.seq (.region Z1cr [0, 3, 4]) (.block 0 (.loop Z1cv))) (.seq (.region Z1cw [2]) .ret)))), [.t 2]⟩
def Z1cy : List Z2a := [
  ⟨some 1, (.box 6), [.t 0], none⟩,
  ⟨some 2, .mov, [.c (.bool false)], none⟩]
def Z1cz : List Z2a := [
  ⟨some 4, (.load true 6), [.t 1], none⟩,
  ⟨some 5, (.call Zf3), [.t 4, .c (.int .i64 1)], none⟩,
  ⟨some 3, .mov, [.t 5], none⟩]
def Z1d0 : List Z2a := [
  ⟨some 6, .mov, [.t 3], none⟩,
  ⟨some 7, (.bin .leq), [.t 6, .c (.int .i64 150)], none⟩,
  ⟨some 2, .mov, [.t 7], none⟩]
def Z1d1 : Z2y := ⟨8, (.seq (.region Z1cy [1]) (.seq (.region Z1cz [3]) (.seq (.region Z1d0 [2]) .ret))), [.t 2]⟩
def Z1d2 : List Z2a := [
  ⟨some 2, (.box 6), [.t 0], none⟩,
  ⟨some 4, .mov, [.c (.int .i64 0)], none⟩]
def Z1d3 : List Z2a := [
  ⟨some 8, .mov, [.t 1], none⟩,
  ⟨some 9, (.bin .gtr), [.t 8, .c (.int .i64 20)], none⟩,
  ⟨some 10, .mov, [.t 9], none⟩,
  ⟨some 11, (.fad 2), [.t 2], some (10, false)⟩,
  ⟨some 12, (.load false 1), [.t 11], some (10, false)⟩,
  ⟨some 13, .lens, [.t 12], some (10, false)⟩,
  ⟨some 14, (.bin .gtr), [.t 13, .c (.int .i64 300)], some (10, false)⟩,
  ⟨some 15, .pick, [.t 10, .c (.bool true), .t 14], none⟩,
  ⟨some 16, .mov, [.t 15], none⟩,
  ⟨some 17, (.fad 1), [.t 2], some (16, false)⟩,
  ⟨some 18, (.load false 1), [.t 17], some (16, false)⟩,
  ⟨some 19, .lens, [.t 18], some (16, false)⟩,
  ⟨some 20, (.bin .gtr), [.t 19, .c (.int .i64 300)], some (16, false)⟩,
  ⟨some 21, .pick, [.t 16, .c (.bool true), .t 20], none⟩]
def Z1d4 : List Z2a := [
  ⟨some 4, .mov, [.c (.int .i64 1000)], none⟩]
def Z1d5 : List Z2a := [
  ⟨some 5, .mov, [.c (.int .i64 1)], none⟩]
def Z1d6 : List Z2a := [
  ⟨some 6, .mov, [.c (.int .i64 0)], none⟩]
def Z1d7 : List Z2a := [
  ⟨some 22, .mov, [.t 6], none⟩,
  ⟨some 23, (.fad 1), [.t 2], none⟩,
  ⟨some 24, (.load false 1), [.t 23], none⟩,
  ⟨some 25, .lens, [.t 24], none⟩,
  ⟨some 26, (.bin .lss), [.t 22, .t 25], none⟩]
def Z1d8 : List Z2a := [
  ⟨some 29, (.fad 1), [.t 2], none⟩,
  ⟨some 30, (.load false 1), [.t 29], none⟩,
  ⟨some 31, .mov, [.t 6], none⟩,
  ⟨some 32, (.iad 1), [.t 30, .t 31], none⟩,
  ⟨some 33, (.load false 1), [.t 32], none⟩,
  ⟨some 34, .lent, [.t 33], none⟩,
  ⟨some 35, (.bin .gtr), [.t 34, .c (.int .i64 200)], none⟩]
def Z1d9 : List Z2a := [
  ⟨some 4, .mov, [.c (.int .i64 1000)], none⟩]
def Z1da : List Z2a := [
  ⟨some 27, .mov, [.t 6], none⟩,
  ⟨some 28, (.bin .add), [.t 27, .c (.int .i64 1)], none⟩,
  ⟨some 6, .mov, [.t 28], none⟩]
def Z1db : Z2b := (.seq (.seq (.region Z1d7 [1, 2, 5, 6, 26]) (.cond (.t 26) .skip (.exit 0))) (.seq (.block 1 (.seq (.region Z1d8 [1, 2, 5, 6, 35]) (.cond (.t 35) (.seq (.region Z1d9 [4]) .ret) .skip))) (.region Z1da [1, 2, 5, 6])))
def Z1dc : List Z2a := [
  ⟨some 7, .mov, [.c (.int .i64 0)], none⟩]
def Z1dd : List Z2a := [
  ⟨some 36, .mov, [.t 7], none⟩,
  ⟨some 37, (.fad 2), [.t 2], none⟩,
  ⟨some 38, (.load false 1), [.t 37], none⟩,
  ⟨some 39, .lens, [.t 38], none⟩,
  ⟨some 40, (.bin .lss), [.t 36, .t 39], none⟩]
def Z1de : List Z2a := [
  ⟨some 43, .mov, [.t 5], none⟩,
  ⟨some 44, (.fad 2), [.t 2], none⟩,
  ⟨some 45, (.load false 1), [.t 44], none⟩,
  ⟨some 46, .mov, [.t 7], none⟩,
  ⟨some 47, (.iad 6), [.t 45, .t 46], none⟩,
  ⟨some 48, (.load true 6), [.t 47], none⟩,
  ⟨some 49, .mov, [.t 1], none⟩,
  ⟨some 50, (.bin .add), [.t 49, .c (.int .i64 1)], none⟩,
  ⟨some 51, (.call Zf3), [.t 48, .t 50], none⟩,
  ⟨some 52, (.bin .add), [.t 43, .t 51], none⟩,
  ⟨some 5, .mov, [.t 52], none⟩]
def Z1df : List Z2a := [
  ⟨some 53, .mov, [.t 5], none⟩,
  ⟨some 54, (.bin .gtr), [.t 53, .c (.int .i64 1000)], none⟩]
def Z1dg : List Z2a := [
  ⟨some 4, .mov, [.c (.int .i64 1000)], none⟩]
def Z1dh : List Z2a := [
  ⟨some 41, .mov, [.t 7], none⟩,
  ⟨some 42, (.bin .add), [.t 41, .c (.int .i64 1)], none⟩,
  ⟨some 7, .mov, [.t 42], none⟩]
def Z1di : Z2b := (.seq (.seq (.region Z1dd [1, 2, 5, 7, 40]) (.cond (.t 40) .skip (.exit 2))) (.seq (.block 3 (.seq (.region Z1de [1, 2, 5, 7]) (.seq (.region Z1df [1, 2, 5, 7, 54]) (.cond (.t 54) (.seq (.region Z1dg [4]) .ret) .skip)))) (.region Z1dh [1, 2, 5, 7])))
def Z1dj : List Z2a := [
  ⟨some 55, .mov, [.t 5], none⟩,
  ⟨some 4, .mov, [.t 55], none⟩]
def Z1dk : Z2y := ⟨56, (.seq (.region Z1d2 [1, 2]) (.seq (.seq (.region Z1d3 [1, 2, 21]) (.cond (.t 21) (.seq (.region Z1d4 [4]) .ret) .skip)) (.seq (.region Z1d5 [1, 2, 5]) (.seq (.seq (.region Z1d6 [1, 2, 5, 6]) (.block 0 (.loop Z1db))) (.seq (.seq (.region Z1dc [1, 2, 5, 7]) (.block 2 (.loop Z1di))) (.seq (.region Z1dj [4]) .ret)))))), [.t 4]⟩
def Z1dl : List Z2a := [
  ⟨some 1, (.box 5), [.t 0], none⟩,
  ⟨some 2, .mov, [.c (.int .i64 0)], none⟩]
def Z1dm : List Z2a := [
  ⟨some 3, (.load true 5), [.t 1], none⟩,
  ⟨some 4, (.call Zf8), [.t 3, .c (.int .i64 1)], none⟩,
  ⟨some 2, .mov, [.t 4], none⟩]
def Z1dn : Z2y := ⟨5, (.seq (.region Z1dl [1]) (.seq (.region Z1dm [2]) .ret)), [.t 2]⟩
def Z1do : List Z2a := [
  ⟨some 1, (.box 5), [.t 0], none⟩,
  ⟨some 2, .mov, [.c (.bool false)], none⟩]
def Z1dp : List Z2a := [
  ⟨some 3, (.load true 5), [.t 1], none⟩,
  ⟨some 4, (.call Zdz), [.t 3], none⟩,
  ⟨some 5, (.bin .leq), [.t 4, .c (.int .i64 400)], none⟩,
  ⟨some 2, .mov, [.t 5], none⟩]
def Z1dq : Z2y := ⟨6, (.seq (.region Z1do [1]) (.seq (.region Z1dp [2]) .ret)), [.t 2]⟩
def Z1dr : List Z2a := [
  ⟨some 2, (.box 5), [.t 0], none⟩,
  ⟨some 4, .mov, [.c (.int .i64 0)], none⟩]
def Z1ds : List Z2a := [
  ⟨some 7, .mov, [.t 1], none⟩,
  ⟨some 8, (.bin .gtr), [.t 7, .c (.int .i64 20)], none⟩,
  ⟨some 9, .mov, [.t 8], none⟩,
  ⟨some 10, (.fad 4), [.t 2], some (9, false)⟩,
  ⟨some 11, (.load false 1), [.t 10], some (9, false)⟩,
  ⟨some 12, .lens, [.t 11], some (9, false)⟩,
  ⟨some 13, (.bin .gtr), [.t 12, .c (.int .i64 400)], some (9, false)⟩,
  ⟨some 14, .pick, [.t 9, .c (.bool true), .t 13], none⟩,
  ⟨some 15, .mov, [.t 14], none⟩,
  ⟨some 16, (.fad 3), [.t 2], some (15, false)⟩,
  ⟨some 17, (.load false 1), [.t 16], some (15, false)⟩,
  ⟨some 18, .lens, [.t 17], some (15, false)⟩,
  ⟨some 19, (.bin .gtr), [.t 18, .c (.int .i64 5000)], some (15, false)⟩,
  ⟨some 20, .pick, [.t 15, .c (.bool true), .t 19], none⟩]
def Z1dt : List Z2a := [
  ⟨some 4, .mov, [.c (.int .i64 1000)], none⟩]
def Z1du : List Z2a := [
  ⟨some 21, (.fad 3), [.t 2], none⟩,
  ⟨some 22, (.load false 1), [.t 21], none⟩,
  ⟨some 23, .lens, [.t 22], none⟩,
  ⟨some 24, (.bin .quo), [.t 23, .c (.int .i64 50)], none⟩,
  ⟨some 25, (.bin .add), [.c (.int .i64 1), .t 24], none⟩,
  ⟨some 5, .mov, [.t 25], none⟩]
def Z1dv : List Z2a := [
  ⟨some 6, .mov, [.c (.int .i64 0)], none⟩]
def Z1dw : List Z2a := [
  ⟨some 26, .mov, [.t 6], none⟩,
  ⟨some 27, (.fad 4), [.t 2], none⟩,
  ⟨some 28, (.load false 1), [.t 27], none⟩,
  ⟨some 29, .lens, [.t 28], none⟩,
  ⟨some 30, (.bin .lss), [.t 26, .t 29], none⟩]
def Z1dx : List Z2a := [
  ⟨some 33, .mov, [.t 5], none⟩,
  ⟨some 34, (.fad 4), [.t 2], none⟩,
  ⟨some 35, (.load false 1), [.t 34], none⟩,
  ⟨some 36, .mov, [.t 6], none⟩,
  ⟨some 37, (.iad 5), [.t 35, .t 36], none⟩,
  ⟨some 38, (.load true 5), [.t 37], none⟩,
  ⟨some 39, .mov, [.t 1], none⟩,
  ⟨some 40, (.bin .add), [.t 39, .c (.int .i64 1)], none⟩,
  ⟨some 41, (.call Zf8), [.t 38, .t 40], none⟩,
  ⟨some 42, (.bin .add), [.t 33, .t 41], none⟩,
  ⟨some 5, .mov, [.t 42], none⟩]
def Z1dy : List Z2a := [
  ⟨some 43, .mov, [.t 5], none⟩,
  ⟨some 44, (.bin .gtr), [.t 43, .c (.int .i64 1000)], none⟩]
def Z1dz : List Z2a := [
  ⟨some 4, .mov, [.c (.int .i64 1000)], none⟩]
def Z1e0 : List Z2a := [
  ⟨some 31, .mov, [.t 6], none⟩,
  ⟨some 32, (.bin .add), [.t 31, .c (.int .i64 1)], none⟩,
  ⟨some 6, .mov, [.t 32], none⟩]
def Z1e1 : Z2b := (.seq (.seq (.region Z1dw [1, 2, 5, 6, 30]) (.cond (.t 30) .skip (.exit 0))) (.seq (.block 1 (.seq (.region Z1dx [1, 2, 5, 6]) (.seq (.region Z1dy [1, 2, 5, 6, 44]) (.cond (.t 44) (.seq (.region Z1dz [4]) .ret) .skip)))) (.region Z1e0 [1, 2, 5, 6])))
def Z1e2 : List Z2a := [
  ⟨some 45, .mov, [.t 5], none⟩,
  ⟨some 4, .mov, [.t 45], none⟩]
def Z1e3 : Z2y := ⟨46, (.seq (.region Z1dr [1, 2]) (.seq (.seq (.region Z1ds [1, 2, 20]) (.cond (.t 20) (.seq (.region Z1dt [4]) .ret) .skip)) (.seq (.region Z1du [1, 2, 5]) (.seq (.seq (.region Z1dv [1, 2, 5, 6]) (.block 0 (.loop Z1e1))) (.seq (.region Z1e2 [4]) .ret))))), [.t 4]⟩
def Z1e4 : List Z2a := [
  ⟨some 4, .mov, [.c (.int .i64 0)], none⟩]
def Z1e5 : List Z2a := [
  ⟨some 7, .mov, [.t 1], none⟩,
  ⟨some 8, .lens, [.t 7], none⟩,
  ⟨some 9, (.bin .gtr), [.t 8, .c (.int .i64 16)], none⟩]
def Z1e6 : List Z2a := [
  ⟨some 4, .mov, [.c (.int .i64 1)], none⟩]
def Z1e7 : List Z2a := [
  ⟨some 5, .mov, [.c (.int .i64 0)], none⟩]
def Z1e8 : List Z2a := [
  ⟨some 10, .mov, [.t 5], none⟩,
  ⟨some 11, .mov, [.t 1], none⟩,
  ⟨some 12, .lens, [.t 11], none⟩,
  ⟨some 13, (.bin .lss), [.t 10, .t 12], none⟩]
def Z1e9 : List Z2a := [
  ⟨some 16, .mov, [.t 0], none⟩,
  ⟨some 17, .mov, [.t 1], none⟩,
  ⟨some 18, .mov, [.t 5], none⟩,
  ⟨some 19, (.iad 7), [.t 17, .t 18], none⟩,
  ⟨some 20, (.fad 0), [.t 19], none⟩,
  ⟨some 21, (.load false 1), [.t 20], none⟩,
  ⟨some 22, (.call Zeg), [.t 16, .t 21], none⟩,
  ⟨some 23, .unot, [.t 22], none⟩,
  ⟨some 24, .mov, [.t 23], none⟩,
  ⟨some 25, .mov, [.t 1], some (24, false)⟩,
  ⟨some 26, .mov, [.t 5], some (24, false)⟩,
  ⟨some 27, (.iad 7), [.t 25, .t 26], some (24, false)⟩,
  ⟨some 28, (.fad 1), [.t 27], some (24, false)⟩,
  ⟨some 29, (.load false 1), [.t 28], some (24, false)⟩,
  ⟨some 30, (.bin .lss), [.t 29, .c (.int .i64 1)], some (24, false)⟩,
  ⟨some 31, .pick, [.t 24, .c (.bool true), .t 30], none⟩,
  ⟨some 32, .mov, [.t 31], none⟩,
  ⟨some 33, .mov, [.t 1], some (32, false)⟩,
  ⟨some 34, .mov, [.t 5], some (32, false)⟩,
  ⟨some 35, (.iad 7), [.t 33, .t 34], some (32, false)⟩,
  ⟨some 36, (.fad 1), [.t 35], some (32, false)⟩,
  ⟨some 37, (.load false 1), [.t 36], some (32, false)⟩,
  ⟨some 38, (.bin .gtr), [.t 37, .c (.int .i64 8)], some (32, false)⟩,
  ⟨some 39, .pick, [.t 32, .c (.bool true), .t 38], none⟩]
def Z1ea : List Z2a := [
  ⟨some 4, .mov, [.c (.int .i64 1)], none⟩]
def Z1eb : List Z2a := [
  ⟨some 40, .mov, [.t 1], none⟩,
  ⟨some 41, .mov, [.t 5], none⟩,
  ⟨some 42, (.iad 7), [.t 40, .t 41], none⟩,
  ⟨some 43, (.fad 2), [.t 42], none⟩,
  ⟨some 44, (.load true 5), [.t 43], none⟩,
  ⟨some 6, (.alloc (.agg [(.bool false), (.int .i64 0), (.int .i64 0), (.slc 0 [] true), (.slc 0 [] true)])), [], none⟩,
  ⟨none, (.store 5), [.t 6, .t 44], none⟩]
def Z1ec : List Z2a := [
  ⟨some 45, .mov, [.t 1], none⟩,
  ⟨some 46, .mov, [.t 5], none⟩,
  ⟨some 47, (.iad 7), [.t 45, .t 46], none⟩,
  ⟨some 48, (.fad 1), [.t 47], none⟩,
  ⟨some 49, (.load false 1), [.t 48], none⟩,
  ⟨some 50, (.bin .geq), [.t 49, .c (.int .i64 7)], none⟩]
def Z1ed : List Z2a := [
  ⟨some 51, (.fad 0), [.t 6], none⟩,
  ⟨some 52, (.load false 1), [.t 51], none⟩,
  ⟨some 53, .mov, [.t 52], none⟩,
  ⟨some 54, (.load true 5), [.t 6], some (53, false)⟩,
  ⟨some 55, (.bld [(.bool false), (.int .i64 0), (.int .i64 0), (.slc 0 [] true), (.slc 0 [] true)] []), [], some (53, false)⟩,
  ⟨some 56, (.call Zd2), [.t 54, .t 55], some (53, false)⟩,
  ⟨some 57, .unot, [.t 56], some (53, false)⟩,
  ⟨some 58, .pick, [.t 53, .c (.bool true), .t 57], none⟩]
def Z1ee : List Z2a := [
  ⟨some 4, .mov, [.c (.int .i64 1)], none⟩]
def Z1ef : List Z2a := [
  ⟨some 59, (.fad 0), [.t 6], none⟩,
  ⟨some 60, (.load false 1), [.t 59], none⟩,
  ⟨some 61, .mov, [.t 60], none⟩,
  ⟨some 62, .mov, [.t 0], some (61, false)⟩,
  ⟨some 63, .mov, [.t 1], some (61, false)⟩,
  ⟨some 64, .mov, [.t 5], some (61, false)⟩,
  ⟨some 65, (.iad 7), [.t 63, .t 64], some (61, false)⟩,
  ⟨some 66, (.fad 0), [.t 65], some (61, false)⟩,
  ⟨some 67, (.load false 1), [.t 66], some (61, false)⟩,
  ⟨some 68, (.iad 9), [.t 62, .t 67], some (61, false)⟩,
  ⟨some 69, (.fad 0), [.t 68], some (61, false)⟩,
  ⟨some 70, (.load true 6), [.t 69], some (61, false)⟩,
  ⟨some 71, (.load true 5), [.t 6], some (61, false)⟩,
  ⟨some 72, (.call Zde), [.t 70, .t 71], some (61, false)⟩,
  ⟨some 73, (.bin .neq), [.t 72, .c (.int .i64 0)], some (61, false)⟩,
  ⟨some 74, .pick, [.t 61, .c (.bool true), .t 73], none⟩]
def Z1eg : List Z2a := [
  ⟨some 4, .mov, [.c (.int .i64 1)], none⟩]
def Z1eh : List Z2a := [
  ⟨some 14, .mov, [.t 5], none⟩,
  ⟨some 15, (.bin .add), [.t 14, .c (.int .i64 1)], none⟩,
  ⟨some 5, .mov, [.t 15], none⟩]
def Z1ei : Z2b := (.seq (.seq (.region Z1e8 [0, 1, 5, 13]) (.cond (.t 13) .skip (.exit 0))) (.seq (.block 1 (.seq (.seq (.region Z1e9 [0, 1, 5, 39]) (.cond (.t 39) (.seq (.region Z1ea [4]) .ret) .skip)) (.seq (.region Z1eb [0, 1, 5, 6]) (.seq (.seq (.region Z1ec [0, 1, 5, 6, 50]) (.cond (.t 50) (.seq (.seq (.region Z1ed [0, 1, 5, 58]) (.cond (.t 58) (.seq (.region Z1ee [4]) .ret) .skip)) (.exit 1)) .skip)) (.seq (.region Z1ef [0, 1, 5, 74]) (.cond (.t 74) (.seq (.region Z1eg [4]) .ret) .skip)))))) (.region Z1eh [0, 1, 5])))
def Z1ej : List Z2a := [
  ⟨some 4, .mov, [.c (.int .i64 0)], none⟩]
def Z1ek : Z2y := ⟨75, (.seq (.region Z1e4 [0, 1]) (.seq (.seq (.region Z1e5 [0, 1, 9]) (.cond (.t 9) (.seq (.region Z1e6 [4]) .ret) .skip)) (.seq (.seq (.region Z1e7 [0, 1, 5]) (.block 0 (.loop Z1ei))) (.seq (.region Z1ej [4]) .ret)))), [.t 4]⟩
def Z1n4 : List Z2a := [
  ⟨some 6, .mov, [.c (.bool false)], none⟩]
def Z1n5 : List Z2a := [
  ⟨some 7, .mov, [.c (.int .i64 0)], none⟩]
def Z1n6 : List Z2a := [
  ⟨some 13, .mov, [.t 7], none⟩,
  ⟨some 14, .mov, [.t 1], none⟩,
  ⟨some 15, .lens, [.t 14], none⟩,
  ⟨some 16, (.bin .lss), [.t 13, .t 15], none⟩]
def Z1n7 : List Z2a := [
  ⟨some 19, .mov, [.t 1], none⟩,
  ⟨some 20, .mov, [.t 7], none⟩,
  ⟨some 21, (.iad 7), [.t 19, .t 20], none⟩,
  ⟨some 22, (.fad 0), [.t 21], none⟩,
  ⟨some 23, (.load false 1), [.t 22], none⟩,
  ⟨some 8, .mov, [.t 23], none⟩]
def Z1n8 : List Z2a := [
  ⟨some 24, .mov, [.t 2], none⟩,
  ⟨some 25, .mov, [.t 8], none⟩,
  ⟨some 26, (.iad 15), [.t 24, .t 25], none⟩,
  ⟨some 27, (.load true 15), [.t 26], none⟩,
  ⟨some 9, (.alloc (.agg [(.int .i64 0), (.bool false), (.bool false), (.bool false), (.int .i64 0), (.int .i64 0), (.slc 0 [] true), (.slc 0 [] true), (.bool false), (.int .i64 0), (.int .i64 0), (.slc 0 [] true), (.slc 0 [] true), (.bool false), (.int .i64 0)])), [], none⟩,
  ⟨none, (.store 15), [.t 9, .t 27], none⟩]
def Z1n9 : List Z2a := [
  ⟨some 28, .mov, [.t 0], none⟩,
  ⟨some 29, .mov, [.t 8], none⟩,
  ⟨some 30, (.iad 9), [.t 28, .t 29], none⟩,
  ⟨some 31, (.fad 0), [.t 30], none⟩,
  ⟨some 32, (.load true 6), [.t 31], none⟩,
  ⟨some 10, (.alloc (.agg [(.int .i64 0), (.slc 0 [] true), (.slc 0 [] true), (.int .i64 0), (.int .i64 0), (.int .i64 0)])), [], none⟩,
  ⟨none, (.store 6), [.t 10, .t 32], none⟩]
def Z1na : List Z2a := [
  ⟨some 34, .mov, [.t 1], none⟩,
  ⟨some 35, .mov, [.t 7], none⟩,
  ⟨some 36, (.iad 7), [.t 34, .t 35], none⟩,
  ⟨some 37, (.fad 1), [.t 36], none⟩,
  ⟨some 38, (.load false 1), [.t 37], none⟩,
  ⟨some 39, (.bin .eql), [.t 38, .c (.int .i64 7)], none⟩,
  ⟨some 33, .mov, [.t 39], none⟩]
def Z1nb : List Z2a := [
  ⟨some 40, (.fad 0), [.t 9], none⟩,
  ⟨some 41, (.load false 1), [.t 40], none⟩,
  ⟨some 42, .mov, [.t 2], none⟩,
  ⟨some 43, (.iad 15), [.t 42, .c (.int .i64 0)], none⟩,
  ⟨some 44, (.fad 0), [.t 43], none⟩,
  ⟨some 45, (.load false 1), [.t 44], none⟩,
  ⟨some 46, (.bin .eql), [.t 41, .t 45], none⟩,
  ⟨some 47, .mov, [.t 46], none⟩,
  ⟨some 48, (.fad 1), [.t 9], some (47, true)⟩,
  ⟨some 49, (.load false 1), [.t 48], some (47, true)⟩,
  ⟨some 50, .unot, [.t 49], some (47, true)⟩,
  ⟨some 51, .pick, [.t 47, .t 50, .c (.bool false)], none⟩]
def Z1nc : List Z2a := [
  ⟨some 6, .mov, [.c (.bool false)], none⟩]
def Z1nd : List Z2a := [
  ⟨some 53, (.fad 0), [.t 9], none⟩,
  ⟨some 54, (.load false 1), [.t 53], none⟩,
  ⟨some 55, (.bin .eql), [.t 54, .c (.int .i64 0)], none⟩,
  ⟨some 52, .mov, [.t 55], none⟩]
def Z1ne : List Z2a := [
  ⟨some 6, .mov, [.c (.bool false)], none⟩]
def Z1nf : List Z2a := [
  ⟨some 57, .mov, [.t 1], none⟩,
  ⟨some 58, .mov, [.t 7], none⟩,
  ⟨some 59, (.iad 7), [.t 57, .t 58], none⟩,
  ⟨some 60, (.fad 1), [.t 59], none⟩,
  ⟨some 61, (.load false 1), [.t 60], none⟩,
  ⟨some 62, (.bin .eql), [.t 61, .c (.int .i64 8)], none⟩,
  ⟨some 56, .mov, [.t 62], none⟩]
def Z1ng : List Z2a := [
  ⟨some 63, (.fad 2), [.t 9], none⟩,
  ⟨some 64, (.load false 1), [.t 63], none⟩,
  ⟨some 65, .mov, [.t 64], none⟩,
  ⟨some 66, (.load true 6), [.t 10], some (65, true)⟩,
  ⟨some 67, .mov, [.t 1], some (65, true)⟩,
  ⟨some 68, .mov, [.t 7], some (65, true)⟩,
  ⟨some 69, (.iad 7), [.t 67, .t 68], some (65, true)⟩,
  ⟨some 70, (.fad 1), [.t 69], some (65, true)⟩,
  ⟨some 71, (.load false 1), [.t 70], some (65, true)⟩,
  ⟨some 72, .mov, [.t 1], some (65, true)⟩,
  ⟨some 73, .mov, [.t 7], some (65, true)⟩,
  ⟨some 74, (.iad 7), [.t 72, .t 73], some (65, true)⟩,
  ⟨some 75, (.fad 2), [.t 74], some (65, true)⟩,
  ⟨some 76, (.load true 5), [.t 75], some (65, true)⟩,
  ⟨some 77, (.fad 3), [.t 9], some (65, true)⟩,
  ⟨some 78, (.load true 5), [.t 77], some (65, true)⟩,
  ⟨some 79, (.fad 8), [.t 9], some (65, true)⟩,
  ⟨some 80, (.load true 5), [.t 79], some (65, true)⟩,
  ⟨some 81, (.call Zej), [.t 66, .t 71, .t 76, .t 78, .t 80], some (65, true)⟩,
  ⟨some 82, .pick, [.t 65, .t 81, .c (.bool false)], none⟩]
def Z1nh : List Z2a := [
  ⟨some 6, .mov, [.c (.bool false)], none⟩]
def Z1ni : List Z2a := [
  ⟨some 83, (.fad 0), [.t 10], none⟩,
  ⟨some 84, (.load false 1), [.t 83], none⟩,
  ⟨some 85, (.bin .eql), [.t 84, .c (.int .i64 0)], none⟩,
  ⟨some 86, .mov, [.t 85], none⟩,
  ⟨some 87, (.fad 13), [.t 9], some (86, true)⟩,
  ⟨some 88, (.load false 1), [.t 87], some (86, true)⟩,
  ⟨some 89, .pick, [.t 86, .t 88, .c (.bool false)], none⟩]
def Z1nj : List Z2a := [
  ⟨some 90, (.bld [(.bool false), (.int .i64 0), (.int .i64 0), (.slc 0 [] true), (.slc 0 [] true)] []), [], none⟩,
  ⟨some 11, (.alloc (.agg [(.bool false), (.int .i64 0), (.int .i64 0), (.slc 0 [] true), (.slc 0 [] true)])), [], none⟩,
  ⟨none, (.store 5), [.t 11, .t 90], none⟩]
def Z1nk : List Z2a := [
  ⟨some 91, (.bld [(.bool false), (.int .i64 0), (.int .i64 0), (.slc 0 [] true), (.slc 0 [] true)] [(1, 1)]), [.c (.int .i64 1)], none⟩,
  ⟨some 12, (.alloc (.agg [(.bool false), (.int .i64 0), (.int .i64 0), (.slc 0 [] true), (.slc 0 [] true)])), [], none⟩,
  ⟨none, (.store 5), [.t 12, .t 91], none⟩]
def Z1nl : List Z2a := [
  ⟨some 92, (.fad 14), [.t 9], none⟩,
  ⟨some 93, (.load false 1), [.t 92], none⟩,
  ⟨some 94, (.fad 0), [.t 9], none⟩,
  ⟨some 95, (.load false 1), [.t 94], none⟩,
  ⟨some 96, (.bin .eql), [.t 93, .t 95], none⟩]
def Z1nm : List Z2a := [
  ⟨some 97, (.fad 1), [.t 11], none⟩,
  ⟨none, (.store 1), [.t 97, .c (.int .i64 1)], none⟩]
def Z1nn : List Z2a := [
  ⟨some 98, (.fad 14), [.t 9], none⟩,
  ⟨some 99, (.load false 1), [.t 98], none⟩,
  ⟨some 100, (.bin .eql), [.t 99, .c (.int .i64 0)], none⟩]
def Z1no : List Z2a := [
  ⟨some 101, (.fad 1), [.t 12], none⟩,
  ⟨none, (.store 1), [.t 101, .c (.int .i64 0)], none⟩]
def Z1np : List Z2a := [
  ⟨some 102, (.load true 6), [.t 10], none⟩,
  ⟨some 103, .mov, [.t 1], none⟩,
  ⟨some 104, .mov, [.t 7], none⟩,
  ⟨some 105, (.iad 7), [.t 103, .t 104], none⟩,
  ⟨some 106, (.fad 1), [.t 105], none⟩,
  ⟨some 107, (.load false 1), [.t 106], none⟩,
  ⟨some 108, .mov, [.t 1], none⟩,
  ⟨some 109, .mov, [.t 7], none⟩,
  ⟨some 110, (.iad 7), [.t 108, .t 109], none⟩,
  ⟨some 111, (.fad 2), [.t 110], none⟩,
  ⟨some 112, (.load true 5), [.t 111], none⟩,
  ⟨some 113, (.load true 5), [.t 11], none⟩,
  ⟨some 114, (.load true 5), [.t 12], none⟩,
  ⟨some 115, (.call Zej), [.t 102, .t 107, .t 112, .t 113, .t 114], none⟩]
def Z1nq : List Z2a := [
  ⟨some 6, .mov, [.c (.bool false)], none⟩]
def Z1nr : List Z2a := [
  ⟨some 17, .mov, [.t 7], none⟩,
  ⟨some 18, (.bin .add), [.t 17, .c (.int .i64 1)], none⟩,
  ⟨some 7, .mov, [.t 18], none⟩]
def Z1ns : Z2b := (.seq (.seq (.region Z1n6 [0, 1, 2, 7, 16]) (.cond (.t 16) .skip (.exit 0))) (.seq (.block 1 (.seq (.region Z1n7 [0, 1, 2, 7, 8]) (.seq (.region Z1n8 [0, 1, 2, 7, 8, 9]) (.seq (.region Z1n9 [0, 1, 2, 7, 9, 10]) (.seq (.block 2 (.seq (.region Z1na [0, 1, 2, 7, 9, 10, 33]) (.cond (.t 33) (.seq (.seq (.region Z1nb [0, 1, 2, 7, 51]) (.cond (.t 51) (.seq (.region Z1nc [6]) .ret) .skip)) (.exit 1)) (.seq (.region Z1nd [0, 1, 2, 7, 9, 10, 52]) (.cond (.t 52) (.seq (.region Z1ne [6]) .ret) (.seq (.region Z1nf [0, 1, 2, 7, 9, 10, 56]) (.cond (.t 56) (.exit 1) .skip))))))) (.seq (.seq (.region Z1ng [0, 1, 2, 7, 9, 10, 82]) (.cond (.t 82) (.seq (.region Z1nh [6]) .ret) .skip)) (.seq (.region Z1ni [0, 1, 2, 7, 9, 10, 89]) (.cond (.t 89) (.seq (.region Z1nj [0, 1, 2, 7, 9, 10, 11]) (.seq (.region Z1nk [0, 1, 2, 7, 9, 10, 11, 12]) (.seq (.seq (.region Z1nl [0, 1, 2, 7, 9, 10, 11, 12, 96]) (.cond (.t 96) (.region Z1nm [0, 1, 2, 7, 9, 10, 11, 12]) .skip)) (.seq (.seq (.region Z1nn [0, 1, 2, 7, 10, 11, 12, 100]) (.cond (.t 100) (.region Z1no [0, 1, 2, 7, 10, 11, 12]) .skip)) (.seq (.region Z1np [0, 1, 2, 7, 115]) (.cond (.t 115) (.seq (.region Z1nq [6]) .ret) .skip)))))) .skip)))))))) (.region Z1nr [0, 1, 2, 7])))
def Z1nt : List Z2a := [
  ⟨some 6, .mov, [.c (.bool true)], none⟩]
def Z1nu : Z2y := ⟨116, (.seq (.region Z1n4 [0, 1, 2]) (.seq (.seq (.region Z1n5 [0, 1, 2, 7]) (.block 0 (.loop Z1ns))) (.seq (.region Z1nt [6]) .ret))), [.t 6]⟩
def Z1el : List Z2a := [
  ⟨some 4, .mov, [.c (.bool false)], none⟩]
def Z1em : List Z2a := [
  ⟨some 6, .mov, [.t 1], none⟩,
  ⟨some 7, (.bin .lss), [.t 6, .c (.int .i64 0)], none⟩,
  ⟨some 8, .mov, [.t 7], none⟩,
  ⟨some 9, .mov, [.t 1], some (8, false)⟩,
  ⟨some 10, .mov, [.t 0], some (8, false)⟩,
  ⟨some 11, .lens, [.t 10], some (8, false)⟩,
  ⟨some 12, (.bin .geq), [.t 9, .t 11], some (8, false)⟩,
  ⟨some 13, .pick, [.t 8, .c (.bool true), .t 12], none⟩,
  ⟨some 14, .mov, [.t 13], none⟩,
  ⟨some 15, .mov, [.t 0], some (14, false)⟩,
  ⟨some 16, .mov, [.t 1], some (14, false)⟩,
  ⟨some 17, (.iad 9), [.t 15, .t 16], some (14, false)⟩,
  ⟨some 18, (.fad 0), [.t 17], some (14, false)⟩,
  ⟨some 19, (.fad 0), [.t 18], some (14, false)⟩,
  ⟨some 20, (.load false 1), [.t 19], some (14, false)⟩,
  ⟨some 21, (.call Zeb), [.t 20], some (14, false)⟩,
  ⟨some 22, .unot, [.t 21], some (14, false)⟩,
  ⟨some 23, .pick, [.t 14, .c (.bool true), .t 22], none⟩]
def Z1en : List Z2a := [
  ⟨some 4, .mov, [.c (.bool false)], none⟩]
def Z1eo : List Z2a := [
  ⟨some 24, .mov, [.t 0], none⟩,
  ⟨some 25, .mov, [.t 1], none⟩,
  ⟨some 26, (.iad 9), [.t 24, .t 25], none⟩,
  ⟨some 27, (.fad 7), [.t 26], none⟩,
  ⟨some 28, (.load false 1), [.t 27], none⟩,
  ⟨some 5, .mov, [.t 28], none⟩]
def Z1ep : List Z2a := [
  ⟨some 29, .mov, [.t 5], none⟩,
  ⟨some 30, (.bin .geq), [.t 29, .c (.int .i64 0)], none⟩]
def Z1eq : List Z2a := [
  ⟨some 36, .mov, [.t 0], none⟩,
  ⟨some 37, .mov, [.t 5], none⟩,
  ⟨some 38, (.iad 9), [.t 36, .t 37], none⟩,
  ⟨some 39, (.fad 0), [.t 38], none⟩,
  ⟨some 40, (.fad 0), [.t 39], none⟩,
  ⟨some 41, (.load false 1), [.t 40], none⟩,
  ⟨some 42, (.bin .neq), [.t 41, .c (.int .i64 12)], none⟩]
def Z1er : List Z2a := [
  ⟨some 4, .mov, [.c (.bool false)], none⟩]
def Z1es : List Z2a := [
  ⟨some 31, .mov, [.t 0], none⟩,
  ⟨some 32, .mov, [.t 5], none⟩,
  ⟨some 33, (.iad 9), [.t 31, .t 32], none⟩,
  ⟨some 34, (.fad 7), [.t 33], none⟩,
  ⟨some 35, (.load false 1), [.t 34], none⟩,
  ⟨some 5, .mov, [.t 35], none⟩]
def Z1et : Z2b := (.seq (.seq (.region Z1ep [0, 5, 30]) (.cond (.t 30) .skip (.exit 0))) (.seq (.block 1 (.seq (.region Z1eq [0, 5, 42]) (.cond (.t 42) (.seq (.region Z1er [4]) .ret) .skip))) (.region Z1es [0, 5])))
def Z1eu : List Z2a := [
  ⟨some 4, .mov, [.c (.bool true)], none⟩]
def Z1ev : Z2y := ⟨43, (.seq (.region Z1el [0, 1]) (.seq (.seq (.region Z1em [0, 1, 23]) (.cond (.t 23) (.seq (.region Z1en [4]) .ret) .skip)) (.seq (.seq (.region Z1eo [0, 5]) (.block 0 (.loop Z1et))) (.seq (.region Z1eu [4]) .ret)))), [.t 4]⟩
def Z1j6 : List Z2a := [
  ⟨some 2, .mov, [.c (.bool false)], none⟩]
def Z1j7 : List Z2a := [
  ⟨some 3, .mov, [.t 0], none⟩]
def Z1j8 : List Z2a := [
  ⟨some 5, (.bin .eql), [.t 3, .c (.int .i64 0)], none⟩,
  ⟨some 4, .mov, [.t 5], none⟩]
def Z1j9 : List Z2a := [
  ⟨some 6, (.bin .eql), [.t 3, .c (.int .i64 1)], none⟩,
  ⟨some 4, .mov, [.t 6], none⟩]
def Z1ja : List Z2a := [
  ⟨some 7, (.bin .eql), [.t 3, .c (.int .i64 2)], none⟩,
  ⟨some 4, .mov, [.t 7], none⟩]
def Z1jb : List Z2a := [
  ⟨some 8, (.bin .eql), [.t 3, .c (.int .i64 3)], none⟩,
  ⟨some 4, .mov, [.t 8], none⟩]
def Z1jc : List Z2a := [
  ⟨some 9, (.bin .eql), [.t 3, .c (.int .i64 4)], none⟩,
  ⟨some 4, .mov, [.t 9], none⟩]
def Z1jd : List Z2a := [
  ⟨some 10, (.bin .eql), [.t 3, .c (.int .i64 7)], none⟩,
  ⟨some 4, .mov, [.t 10], none⟩]
def Z1je : List Z2a := [
  ⟨some 11, (.bin .eql), [.t 3, .c (.int .i64 16)], none⟩,
  ⟨some 4, .mov, [.t 11], none⟩]
def Z1jf : List Z2a := [
  ⟨some 12, (.bin .eql), [.t 3, .c (.int .i64 17)], none⟩,
  ⟨some 4, .mov, [.t 12], none⟩]
def Z1jg : List Z2a := [
  ⟨some 13, (.bin .eql), [.t 3, .c (.int .i64 8)], none⟩,
  ⟨some 4, .mov, [.t 13], none⟩]
def Z1jh : List Z2a := [
  ⟨some 14, (.bin .eql), [.t 3, .c (.int .i64 14)], none⟩,
  ⟨some 4, .mov, [.t 14], none⟩]
def Z1ji : List Z2a := [
  ⟨some 2, .mov, [.c (.bool true)], none⟩]
def Z1jj : List Z2a := [
  ⟨some 2, .mov, [.c (.bool false)], none⟩]
def Z1jk : Z2y := ⟨15, (.seq (.region Z1j6 [0]) (.seq (.seq (.region Z1j7 [3]) (.block 0 (.seq (.seq (.region Z1j8 [3, 4]) (.cond (.t 4) .skip (.seq (.region Z1j9 [3, 4]) (.cond (.t 4) .skip (.seq (.region Z1ja [3, 4]) (.cond (.t 4) .skip (.seq (.region Z1jb [3, 4]) (.cond (.t 4) .skip (.seq (.region Z1jc [3, 4]) (.cond (.t 4) .skip (.seq (.region Z1jd [3, 4]) (.cond (.t 4) .skip (.seq (.region Z1je [3, 4]) (.cond (.t 4) .skip (.seq (.region Z1jf [3, 4]) (.cond (.t 4) .skip (.seq (.region Z1jg [3, 4]) (.cond (.t 4) .skip (.region Z1jh [4]))))))))))))))))))) (.cond (.t 4) (.seq (.region Z1ji [2]) .ret) .skip)))) (.seq (.region Z1jj [2]) .ret))), [.t 2]⟩
def Z1jl : List Z2a := [
  ⟨some 2, .mov, [.c (.bool false)], none⟩]
def Z1jm : List Z2a := [
  ⟨some 3, .mov, [.t 0], none⟩,
  ⟨some 4, (.call Zeb), [.t 3], none⟩,
  ⟨some 5, .mov, [.t 4], none⟩,
  ⟨some 6, .mov, [.t 0], some (5, true)⟩,
  ⟨some 7, (.bin .neq), [.t 6, .c (.int .i64 0)], some (5, true)⟩,
  ⟨some 8, .pick, [.t 5, .t 7, .c (.bool false)], none⟩,
  ⟨some 9, .mov, [.t 8], none⟩,
  ⟨some 10, .mov, [.t 0], some (9, true)⟩,
  ⟨some 11, (.bin .neq), [.t 10, .c (.int .i64 8)], some (9, true)⟩,
  ⟨some 12, .pick, [.t 9, .t 11, .c (.bool false)], none⟩,
  ⟨some 2, .mov, [.t 12], none⟩]
def Z1jn : Z2y := ⟨13, (.seq (.region Z1jl [0]) (.seq (.region Z1jm [2]) .ret)), [.t 2]⟩
def Zgo : List Z2a := [
  ⟨some 1, (.box 6), [.t 0], none⟩,
  ⟨some 2, .mov, [.c (.slc 0 [] true)], none⟩]
def Zgp : List Z2a := [
  ⟨some 3, (.load true 6), [.t 1], none⟩,
  ⟨some 4, (.call Ze2), [.t 3], none⟩,
  ⟨some 5, (.bin .neq), [.t 4, .c (.int .i64 0)], none⟩]
def Zgq : List Z2a := [
  ⟨some 2, .mov, [.c (.slc 0 [] true)], none⟩]
def Zgr : List Z2a := [
  ⟨some 6, (.load true 6), [.t 1], none⟩,
  ⟨some 7, (.call Ze4), [.c (.slc 0 [] true), .t 6, .c (.int .i64 (-1)), .c (.int .i64 1)], none⟩,
  ⟨some 8, (.call Ze3), [.t 7], none⟩,
  ⟨some 2, .mov, [.t 8], none⟩]
def Zgs : Z2y := ⟨9, (.seq (.region Zgo [1]) (.seq (.seq (.region Zgp [1, 5]) (.cond (.t 5) (.seq (.region Zgq [2]) .ret) .skip)) (.seq (.region Zgr [2]) .ret))), [.t 2]⟩
def Zhg : List Z2a := [
  ⟨some 5, (.box 6), [.t 1], none⟩,
  ⟨some 8, .mov, [.c (.slc 0 [] true)], none⟩]
def Zhh : List Z2a := [
  ⟨some 13, .mov, [.t 0], none⟩,
  ⟨some 14, .lens, [.t 13], none⟩,
  ⟨some 9, .mov, [.t 14], none⟩]
def Zhi : List Z2a := [
  ⟨some 15, .mov, [.t 0], none⟩,
  ⟨some 16, (.fad 0), [.t 5], none⟩,
  ⟨some 17, (.load false 1), [.t 16], none⟩,
  ⟨some 18, (.fad 1), [.t 5], none⟩,
  ⟨some 19, (.load false 1), [.t 18], none⟩,
  ⟨some 20, (.callp Zfb), [.t 19], none⟩,
  ⟨some 21, (.callp Zfa), [.t 20], none⟩,
  ⟨some 22, (.fad 3), [.t 5], none⟩,
  ⟨some 23, (.load false 1), [.t 22], none⟩,
  ⟨some 24, (.fad 4), [.t 5], none⟩,
  ⟨some 25, (.load false 1), [.t 24], none⟩,
  ⟨some 26, (.fad 5), [.t 5], none⟩,
  ⟨some 27, (.load false 1), [.t 26], none⟩,
  ⟨some 28, .mov, [.t 2], none⟩,
  ⟨some 29, .mov, [.t 3], none⟩,
  ⟨some 30, (.bld [(.int .i64 0), (.slc 0 [] true), (.slc 0 [] true), (.int .i64 0), (.int .i64 0), (.int .i64 0), (.int .i64 0), (.int .i64 0)] [(0, 1), (1, 1), (2, 1), (3, 1), (4, 1), (5, 1), (6, 1), (7, 1)]), [.t 17, .c (.slc 0 [] true), .t 21, .t 23, .t 25, .t 27, .t 28, .t 29], none⟩,
  ⟨some 31, (.bsl 8), [.t 30], none⟩,
  ⟨some 32, (.app 8 96), [.t 15, .t 31], none⟩,
  ⟨some 0, .mov, [.t 32], none⟩]
def Zhj : List Z2a := [
  ⟨some 10, .mov, [.c (.slc 0 [] true)], none⟩]
def Zhk : List Z2a := [
  ⟨some 33, (.fad 2), [.t 5], none⟩,
  ⟨some 34, (.load false 1), [.t 33], none⟩,
  ⟨some 35, .lens, [.t 34], none⟩,
  ⟨some 36, .mov, [.c (.int .i64 0)], none⟩]
def Zhl : List Z2a := [
  ⟨some 37, (.bin .lss), [.t 36, .t 35], none⟩]
def Zhm : List Z2a := [
  ⟨some 38, (.iad 6), [.t 34, .t 36], none⟩,
  ⟨some 39, (.load true 6), [.t 38], none⟩,
  ⟨some 12, (.alloc (.agg [(.int .i64 0), (.slc 0 [] true), (.slc 0 [] true), (.int .i64 0), (.int .i64 0), (.int .i64 0)])), [], none⟩,
  ⟨none, (.store 6), [.t 12, .t 39], none⟩]
def Zhn : List Z2a := [
  ⟨some 40, .mov, [.t 10], none⟩,
  ⟨some 41, .mov, [.t 0], none⟩,
  ⟨some 42, .lens, [.t 41], none⟩,
  ⟨some 43, (.bsl 1), [.t 42], none⟩,
  ⟨some 44, (.app 1 8), [.t 40, .t 43], none⟩,
  ⟨some 10, .mov, [.t 44], none⟩]
def Zho : List Z2a := [
  ⟨some 45, .mov, [.t 0], none⟩,
  ⟨some 46, (.load true 6), [.t 12], none⟩,
  ⟨some 47, .mov, [.t 9], none⟩,
  ⟨some 48, .mov, [.t 3], none⟩,
  ⟨some 49, (.bin .add), [.t 48, .c (.int .i64 1)], none⟩,
  ⟨some 50, (.call Ze4), [.t 45, .t 46, .t 47, .t 49], none⟩,
  ⟨some 0, .mov, [.t 50], none⟩]
def Zhp : List Z2a := [
  ⟨some 51, (.bin .add), [.t 36, .c (.int .i64 1)], none⟩,
  ⟨some 36, .mov, [.t 51], none⟩]
def Zhq : Z2b := (.seq (.region Zhl [0, 3, 9, 10, 34, 35, 36, 37]) (.seq (.cond (.t 37) .skip (.exit 0)) (.seq (.block 1 (.seq (.region Zhm [0, 3, 9, 10, 12, 34, 35, 36]) (.seq (.region Zhn [0, 3, 9, 10, 12, 34, 35, 36]) (.region Zho [0, 3, 9, 10, 34, 35, 36])))) (.region Zhp [0, 3, 9, 10, 34, 35, 36]))))
def Zhr : List Z2a := [
  ⟨some 52, .mov, [.t 0], none⟩,
  ⟨some 53, .mov, [.t 9], none⟩,
  ⟨some 54, .mov, [.t 10], none⟩,
  ⟨some 55, (.call Zfc), [.t 54], none⟩,
  ⟨some 56, (.iad 8), [.t 52, .t 53], none⟩,
  ⟨some 57, (.fad 1), [.t 56], none⟩,
  ⟨none, (.store 1), [.t 57, .t 55], none⟩]
def Zhs : List Z2a := [
  ⟨some 58, .mov, [.t 0], none⟩,
  ⟨some 8, .mov, [.t 58], none⟩]
def Zht : Z2y := ⟨59, (.seq (.region Zhg [0, 2, 3, 5]) (.seq (.region Zhh [0, 2, 3, 5, 9]) (.seq (.region Zhi [0, 3, 5, 9]) (.seq (.region Zhj [0, 3, 5, 9, 10]) (.seq (.seq (.region Zhk [0, 3, 9, 10, 34, 35, 36]) (.block 0 (.loop Zhq))) (.seq (.region Zhr [0]) (.seq (.region Zhs [8]) .ret))))))), [.t 8]⟩
end Go.Abs
namespace Go.Abs
open Go Go.Proofs
theorem Z1ew : Z2z Try.prog [] Zcp = some Z1bo.erase := by kernel_rfl
theorem Z19d : Z2z Try.prog [] Zd5 = some Z198.erase := by kernel_rfl
theorem Z1ey : Z2z Try.prog [] Zd6 = some Z1co.erase := by kernel_rfl
theorem Z1ez : Z2z Try.prog [] Zd9 = some Z1cx.erase := by kernel_rfl
theorem Z1f0 : Z2z Try.prog [] Zdr = some Z1d1.erase := by kernel_rfl
theorem Z1f1 : Z2z Try.prog [] Zf3 = some Z1dk.erase := by kernel_rfl
theorem Z1f2 : Z2z Try.prog [] Zdz = some Z1dn.erase := by kernel_rfl
theorem Z1f3 : Z2z Try.prog [] Zee = some Z1dq.erase := by kernel_rfl
theorem Z1f4 : Z2z Try.prog [] Zf8 = some Z1e3.erase := by kernel_rfl
theorem Z1f5 : Z2z Try.prog [] Zd8 = some Z1ek.erase := by kernel_rfl
theorem Z1os : Z2z Try.prog [] Zdc = some Z1nu.erase := by kernel_rfl
theorem Z1f6 : Z2z Try.prog [] Zeg = some Z1ev.erase := by kernel_rfl
theorem Z1jp : Z2z Try.prog [] Ze9 = some Z1jk.erase := by kernel_rfl
theorem Z1jq : Z2z Try.prog [] Zec = some Z1jn.erase := by kernel_rfl
theorem Zl8 : Z2z Try.prog [] Zcs = some Zgs.erase := by kernel_rfl
theorem Zld : Z2z Try.prog [(2, 6), (2, 5)] Ze4 = some Zht.erase := by kernel_rfl
end Go.Abs
namespace Go.Abs
open Go Go.Proofs
set_option linter.unusedVariables false
set_option linter.unusedSimpArgs false
set_option maxHeartbeats 4000000
attribute [local irreducible] AWp aops KP
theorem Z1fg : ∀ (t : Ty) (deep : Nat), deep ≤ 1000 → ∀ σ, Z1q Try.prog Zf3 [encT t, .int .i64 (deep : Int)] σ fun r σ' => r = .int .i64 (fewT deep t : Int) ∧ σ' = σ := by
  refine Ty.ind fun k ns ks l p s ih deep hd σ => ?_
  rw [Zlp]
  refine Z8t rfl Z1f1 (Nat.le_of_ble_eq_true rfl) ?_
  refine Z9z ?_
  refine Z9j rfl (Z0.fit_iff.1 rfl) fun b2 hb2 => ?_
  (repeat (refine st_q rfl rfl rfl ?_))
  (refine Z8y ?_; (repeat (first | refine Z9v rfl ?_ | refine Z9w ?_)); refine Z9u ?_)
  refine Zb3 (d := 2) (cs := [.int .i64 k, .slc 1 (ns.map .str) false, .slc 6 (Zln ks) false, .int .i64 l, .int .i64 p, .int .i64 s]) rfl ?_
  generalize hX : fewT deep (.mk k ns ks l p s) = X
  rw [fewT] at hX
  by_cases h1 : 20 < deep
  · (repeat (first | refine st_q rfl rfl rfl ?_ | refine awp_seq ?_ | refine Zbm (fun _ _ => rfl) ?_))
    (rw [show decide ((20 : Int) < (deep : Int)) = true from decide_eq_true (by omega)])
    (repeat (first | refine st_q rfl rfl rfl ?_ | refine Z8w rfl ?_ | (refine Z8y ?_; (repeat (first | refine Z9v rfl ?_ | refine Z9w ?_)); refine Z9u ?_) | refine awp_seq ?_ | refine Zbm (fun _ _ => rfl) ?_ | refine Z8f (t := true) rfl (fun _ => ?_) (fun e => by cases e)))
    (refine Z8d ?_; exact ares rfl (HSub.refl _) ⟨(by rw [← hX, if_pos (.inl h1)]; rfl), rfl⟩)
  (repeat (first | refine st_q rfl rfl rfl ?_ | refine awp_seq ?_ | refine Zbm (fun _ _ => rfl) ?_))
  (rw [show decide ((20 : Int) < (deep : Int)) = false from decide_eq_false (by omega)])
  (repeat (first | refine st_q rfl rfl rfl ?_ | refine Z8v rfl (st_q rfl rfl rfl ?_)))
  rw [Zlr]
  by_cases h2 : 300 < ks.length
  · (rw [show decide ((300 : Int) < (ks.length : Int)) = true from decide_eq_true (by omega)])
    (repeat (first | refine st_q rfl rfl rfl ?_ | refine Z8w rfl ?_ | (refine Z8y ?_; (repeat (first | refine Z9v rfl ?_ | refine Z9w ?_)); refine Z9u ?_) | refine awp_seq ?_ | refine Zbm (fun _ _ => rfl) ?_ | refine Z8f (t := true) rfl (fun _ => ?_) (fun e => by cases e)))
    (refine Z8d ?_; exact ares rfl (HSub.refl _) ⟨(by rw [← hX, if_pos (.inr (.inl h2))]; rfl), rfl⟩)
  (rw [show decide ((300 : Int) < (ks.length : Int)) = false from decide_eq_false (by omega)])
  (repeat (first | refine st_q rfl rfl rfl ?_ | refine Z8v rfl (st_q rfl rfl rfl ?_) | (refine Z8y ?_; (repeat (first | refine Z9v rfl ?_ | refine Z9w ?_)); refine Z9u ?_)))
  rw [List.length_map]
  by_cases h3 : 300 < ns.length
  · (rw [show decide ((300 : Int) < (ns.length : Int)) = true from decide_eq_true (by omega)])
    (repeat (first | refine st_q rfl rfl rfl ?_ | (refine Z8y ?_; (repeat (first | refine Z9v rfl ?_ | refine Z9w ?_)); refine Z9u ?_) | refine awp_seq ?_ | refine Zbm (fun _ _ => rfl) ?_ | refine Z8f (t := true) rfl (fun _ => ?_) (fun e => by cases e)))
    (refine Z8d ?_; exact ares rfl (HSub.refl _) ⟨(by rw [← hX, if_pos (.inr (.inr h3))]; rfl), rfl⟩)
  (rw [show decide ((300 : Int) < (ns.length : Int)) = false from decide_eq_false (by omega)])
  (repeat (first | refine st_q rfl rfl rfl ?_ | (refine Z8y ?_; (repeat (first | refine Z9v rfl ?_ | refine Z9w ?_)); refine Z9u ?_) | refine awp_seq ?_ | refine Zbm (fun _ _ => rfl) ?_ | refine Z8h ?_ | refine Zbn (fun _ _ => rfl) ?_ | refine Z8f (t := false) rfl (fun e => by cases e) (fun _ => ?_)))
  rw [if_neg (by omega)] at hX
  refine Zaa (fun m F σ' => ∃ (j : Nat), F = fset 1 (some (.int .i64 (deep : Int))) (fset 2 (some (.iptr [.int .i64 k, .slc 1 (ns.map .str) false, .slc 6 (Zln ks) false, .int .i64 l, .int .i64 p, .int .i64 s])) (fset 5 (some (.int .i64 1)) (fset 6 (some (.int .i64 (j : Int))) Z27))) ∧
    σ = σ' ∧ j ≤ ns.length ∧ (ns.take j).any (fun s => decide (200 < s.length)) = false ∧ m = ns.length - j) (n := ns.length) ⟨0, rfl, rfl, by omega, by simp, rfl⟩ ?_
  rintro m F σ' ⟨j, rfl, rfl, hj, hno, rfl⟩
  (repeat (first | refine st_q rfl rfl rfl ?_ | (refine Z8y ?_; (repeat (first | refine Z9v rfl ?_ | refine Z9w ?_)); refine Z9u ?_) | refine awp_seq ?_ | refine Zbm (fun _ _ => rfl) ?_))
  rw [List.length_map]
  refine Za3 (p := (j : Int) < (ns.length : Int)) rfl (fun h5 => ?_) (fun h5 => ?_)
  · have hjl : j < ns.length := by omega
    (repeat (first | refine st_q rfl rfl rfl ?_ | refine awp_seq ?_ | refine Zbm (fun _ _ => rfl) ?_ | refine Z8h ?_ | refine Zbn (fun _ _ => rfl) ?_))
    refine Z93 rfl (by omega) (Zxw hjl) ?_
    (repeat (first | refine st_q rfl rfl rfl ?_ | (refine Z8y ?_; (repeat (first | refine Z9v rfl ?_ | refine Z9w ?_)); refine Z9u ?_)))
    by_cases h6 : 200 < (ns[j]).length
    · (rw [show decide ((200 : Int) < ((ns[j]).length : Int)) = true from decide_eq_true (by omega)])
      (repeat (first | refine st_q rfl rfl rfl ?_ | (refine Z8y ?_; (repeat (first | refine Z9v rfl ?_ | refine Z9w ?_)); refine Z9u ?_) | refine awp_seq ?_ | refine Zbm (fun _ _ => rfl) ?_ | refine Z8f (t := true) rfl (fun _ => ?_) (fun e => by cases e)))
      refine Z8d ?_
      refine ares rfl (HSub.refl _) ⟨?_, rfl⟩
      have : ns.any (fun s => decide (200 < s.length)) = true := List.any_eq_true.2 ⟨ns[j], List.getElem_mem hjl, decide_eq_true h6⟩
      rw [← hX, if_pos this]; rfl
    · (rw [show decide ((200 : Int) < ((ns[j]).length : Int)) = false from decide_eq_false (by omega)])
      (repeat (first | refine Zbn (fun _ _ => rfl) ?_ | refine Z8f (t := false) rfl (fun e => by cases e) (fun _ => ?_)))
      refine Zbp ?_
      (repeat (refine st_q rfl rfl rfl ?_))
      rw [show IntKind.wrap .i64 ((j : Int) + 1) = ((j + 1 : Nat) : Int) by rw [w64 _ (by omega) (by omega)]; omega]
      (refine Z8y ?_; (repeat (first | refine Z9v rfl ?_ | refine Z9w ?_)); refine Z9u ?_)
      refine ⟨_, ns.length - (j + 1), HSub.refl _, ⟨j + 1, rfl, rfl, by omega, ?_, rfl⟩, by omega⟩
      rw [← List.take_append_getElem hjl, List.any_append, hno]
      simp; omega
  · rw [show ns.take j = ns from List.take_of_length_le (by omega)] at hno
    rw [if_neg (by rw [hno]; simp)] at hX
    (repeat (first | refine st_q rfl rfl rfl ?_ | (refine Z8y ?_; (repeat (first | refine Z9v rfl ?_ | refine Z9w ?_)); refine Z9u ?_) | refine awp_seq ?_ | refine Zbm (fun _ _ => rfl) ?_ | refine Z8h ?_ | refine Zbo (fun _ _ => rfl) ?_))
    refine Zaa (fun m F σ' => ∃ (j n : Nat), F = fset 1 (some (.int .i64 (deep : Int))) (fset 2 (some (.iptr [.int .i64 k, .slc 1 (ns.map .str) false, .slc 6 (Zln ks) false, .int .i64 l, .int .i64 p, .int .i64 s])) (fset 5 (some (.int .i64 (n : Int))) (fset 7 (some (.int .i64 (j : Int))) Z27))) ∧
      σ = σ' ∧ j ≤ ks.length ∧ n ≤ 1000 ∧ fewTL (deep + 1) n (ks.drop j) = X ∧ m = ks.length - j) (n := ks.length) ⟨0, 1, rfl, rfl, by omega, by omega, hX, rfl⟩ ?_
    rintro m F σ' ⟨j, n, rfl, rfl, hj, hn, hXj, rfl⟩
    (repeat (first | refine st_q rfl rfl rfl ?_ | (refine Z8y ?_; (repeat (first | refine Z9v rfl ?_ | refine Z9w ?_)); refine Z9u ?_) | refine awp_seq ?_ | refine Zbm (fun _ _ => rfl) ?_))
    rw [Zlr]
    refine Za3 (p := (j : Int) < (ks.length : Int)) rfl (fun h5 => ?_) (fun h5 => ?_)
    · have hjl : j < ks.length := by omega
      have h1 : (Zln ks)[((j : Nat) : Int).toNat]? = some (.agg (Zlo ks[j])) := by rw [← Zlp]; exact Zls (by rw [Int.toNat_natCast, List.getElem?_eq_getElem hjl])
      have hc := ih ks[j] (List.getElem_mem hjl) (deep + 1) (by omega)
      rw [Zlp] at hc
      have hle := Z1fd ks[j] (deep + 1)
      rw [List.drop_eq_getElem_cons hjl, fewTL] at hXj
      generalize fewT (deep + 1) ks[j] = q at hc hle hXj
      (repeat (first | refine st_q rfl rfl rfl ?_ | refine awp_seq ?_ | refine Zbm (fun _ _ => rfl) ?_ | refine Z8h ?_ | refine Zbn (fun _ _ => rfl) ?_))
      refine Z93 rfl (by omega) h1 ?_
      (repeat refine st_q rfl rfl rfl ?_)
      rw [show IntKind.wrap .i64 ((deep : Int) + 1) = ((deep + 1 : Nat) : Int) by rw [w64 _ (by omega) (by omega)]; omega]
      (first | refine Z9t rfl (hc _) ?_ | refine Z8v rfl (Z9t rfl (hc _) ?_) | refine Zbw rfl hc ?_ | refine Z8v rfl (Zbw rfl hc ?_))
      (repeat (first | refine st_q rfl rfl rfl ?_ | (refine Z8y ?_; (repeat (first | refine Z9v rfl ?_ | refine Z9w ?_)); refine Z9u ?_) | refine awp_seq ?_ | refine Zbm (fun _ _ => rfl) ?_))
      rw [show IntKind.wrap .i64 ((n : Int) + (q : Int)) = ((n + q : Nat) : Int) by rw [w64 _ (by omega) (by omega)]; omega]
      by_cases h7 : 1000 < n + q
      · (rw [show decide ((1000 : Int) < ((n + q : Nat) : Int)) = true from decide_eq_true (by omega)])
        (repeat (first | refine st_q rfl rfl rfl ?_ | (refine Z8y ?_; (repeat (first | refine Z9v rfl ?_ | refine Z9w ?_)); refine Z9u ?_) | refine awp_seq ?_ | refine Zbm (fun _ _ => rfl) ?_ | refine Z8f (t := true) rfl (fun _ => ?_) (fun e => by cases e)))
        (refine Z8d ?_; exact ares rfl (HSub.refl _) ⟨(by rw [← hXj, if_pos h7]; rfl), rfl⟩)
      · (rw [show decide ((1000 : Int) < ((n + q : Nat) : Int)) = false from decide_eq_false (by omega)])
        rw [if_neg h7] at hXj
        (repeat (first | refine Zbn (fun _ _ => rfl) ?_ | refine Z8f (t := false) rfl (fun e => by cases e) (fun _ => ?_)))
        refine Zbp ?_
        (repeat (refine st_q rfl rfl rfl ?_))
        rw [show IntKind.wrap .i64 ((j : Int) + 1) = ((j + 1 : Nat) : Int) by rw [w64 _ (by omega) (by omega)]; omega]
        (refine Z8y ?_; (repeat (first | refine Z9v rfl ?_ | refine Z9w ?_)); refine Z9u ?_)
        exact ⟨_, ks.length - (j + 1), HSub.refl _, ⟨j + 1, n + q, rfl, rfl, by omega, by omega, hXj, rfl⟩, by omega⟩
    · rw [List.drop_of_length_le (by omega), fewTL] at hXj
      subst hXj
      (repeat (first | refine st_q rfl rfl rfl ?_ | (refine Z8y ?_; (repeat (first | refine Z9v rfl ?_ | refine Z9w ?_)); refine Z9u ?_) | refine awp_seq ?_ | refine Zbm (fun _ _ => rfl) ?_ | refine Zbo (fun _ _ => rfl) ?_))
      (refine Z8d ?_; exact ares rfl (HSub.refl _) ⟨rfl, rfl⟩)
theorem Z1fh (t : Ty) (σ : Zc) : Z1q Try.prog Zdr [encT t] σ fun r σ' => r = .bool (decide (fewT 1 t ≤ 150)) ∧ σ' = σ := by
  have hc := Z1fg t 1 (by omega)
  rw [Zlp] at hc ⊢
  refine Z8t rfl Z1f0 (Nat.le_of_ble_eq_true rfl) ?_
  refine Z9z ?_
  refine Z9j rfl (Z0.fit_iff.1 rfl) fun b2 hb2 => ?_
  (repeat (refine st_q rfl rfl rfl ?_))
  (refine Z8y ?_; (repeat (first | refine Z9v rfl ?_ | refine Z9w ?_)); refine Z9u ?_)
  refine Zb3 (d := 1) (cs := Zlo t) rfl ?_
  (repeat (first | refine st_q rfl rfl rfl ?_ | refine awp_seq ?_ | refine Zbm (fun _ _ => rfl) ?_))
  (first | refine Z9t rfl (hc _) ?_ | refine Z8v rfl (Z9t rfl (hc _) ?_) | refine Zbw rfl hc ?_ | refine Z8v rfl (Zbw rfl hc ?_))
  (repeat (first | refine st_q rfl rfl rfl ?_ | (refine Z8y ?_; (repeat (first | refine Z9v rfl ?_ | refine Z9w ?_)); refine Z9u ?_) | refine awp_seq ?_ | refine Zbm (fun _ _ => rfl) ?_))
  refine Z8d ?_
  refine ares rfl (HSub.refl _) ⟨?_, rfl⟩
  simp only [Z8m, Z0.bool.injEq, decide_eq_decide]
  omega
theorem Z1fi : ∀ (t : Vl) (deep : Nat), deep ≤ 1000 → ∀ σ, Z1q Try.prog Zf8 [encV t, .int .i64 (deep : Int)] σ fun r σ' => r = .int .i64 (fewV deep t : Int) ∧ σ' = σ := by
  refine Vl.ind fun nu i n b ks ih deep hd σ => ?_
  rw [Zm7]
  refine Z8t rfl Z1f4 (Nat.le_of_ble_eq_true rfl) ?_
  refine Z9z ?_
  refine Z9j rfl (Z0.fit_iff.1 rfl) fun b2 hb2 => ?_
  (repeat (refine st_q rfl rfl rfl ?_))
  (refine Z8y ?_; (repeat (first | refine Z9v rfl ?_ | refine Z9w ?_)); refine Z9u ?_)
  refine Zb3 (d := 2) (cs := [.bool nu, .int .i64 i, .int .i64 n, .slc 1 (bytes b) false, .slc 5 (Zm5 ks) false]) rfl ?_
  generalize hX : fewV deep (.mk nu i n b ks) = X
  rw [fewV] at hX
  by_cases h1 : 20 < deep
  · (repeat (first | refine st_q rfl rfl rfl ?_ | refine awp_seq ?_ | refine Zbm (fun _ _ => rfl) ?_))
    (rw [show decide ((20 : Int) < (deep : Int)) = true from decide_eq_true (by omega)])
    (repeat (first | refine st_q rfl rfl rfl ?_ | refine Z8w rfl ?_ | (refine Z8y ?_; (repeat (first | refine Z9v rfl ?_ | refine Z9w ?_)); refine Z9u ?_) | refine awp_seq ?_ | refine Zbm (fun _ _ => rfl) ?_ | refine Z8f (t := true) rfl (fun _ => ?_) (fun e => by cases e)))
    (refine Z8d ?_; exact ares rfl (HSub.refl _) ⟨(by rw [← hX, if_pos (.inl h1)]; rfl), rfl⟩)
  (repeat (first | refine st_q rfl rfl rfl ?_ | refine awp_seq ?_ | refine Zbm (fun _ _ => rfl) ?_))
  (rw [show decide ((20 : Int) < (deep : Int)) = false from decide_eq_false (by omega)])
  (repeat (first | refine st_q rfl rfl rfl ?_ | refine Z8v rfl (st_q rfl rfl rfl ?_)))
  rw [Zm9]
  by_cases h2 : 400 < ks.length
  · (rw [show decide ((400 : Int) < (ks.length : Int)) = true from decide_eq_true (by omega)])
    (repeat (first | refine st_q rfl rfl rfl ?_ | refine Z8w rfl ?_ | (refine Z8y ?_; (repeat (first | refine Z9v rfl ?_ | refine Z9w ?_)); refine Z9u ?_) | refine awp_seq ?_ | refine Zbm (fun _ _ => rfl) ?_ | refine Z8f (t := true) rfl (fun _ => ?_) (fun e => by cases e)))
    (refine Z8d ?_; exact ares rfl (HSub.refl _) ⟨(by rw [← hX, if_pos (.inr (.inl h2))]; rfl), rfl⟩)
  (rw [show decide ((400 : Int) < (ks.length : Int)) = false from decide_eq_false (by omega)])
  (repeat (first | refine st_q rfl rfl rfl ?_ | refine Z8v rfl (st_q rfl rfl rfl ?_) | (refine Z8y ?_; (repeat (first | refine Z9v rfl ?_ | refine Z9w ?_)); refine Z9u ?_)))
  rw [Zam]
  by_cases h3 : 5000 < b.length
  · (rw [show decide ((5000 : Int) < (b.length : Int)) = true from decide_eq_true (by omega)])
    (repeat (first | refine st_q rfl rfl rfl ?_ | (refine Z8y ?_; (repeat (first | refine Z9v rfl ?_ | refine Z9w ?_)); refine Z9u ?_) | refine awp_seq ?_ | refine Zbm (fun _ _ => rfl) ?_ | refine Z8f (t := true) rfl (fun _ => ?_) (fun e => by cases e)))
    (refine Z8d ?_; exact ares rfl (HSub.refl _) ⟨(by rw [← hX, if_pos (.inr (.inr h3))]; rfl), rfl⟩)
  (rw [show decide ((5000 : Int) < (b.length : Int)) = false from decide_eq_false (by omega)])
  rw [if_neg (by omega)] at hX
  (repeat (first | refine st_q rfl rfl rfl ?_ | (refine Z8y ?_; (repeat (first | refine Z9v rfl ?_ | refine Z9w ?_)); refine Z9u ?_) | refine awp_seq ?_ | refine Zbm (fun _ _ => rfl) ?_ | refine Z8h ?_ | refine Zbn (fun _ _ => rfl) ?_ | refine Z8f (t := false) rfl (fun e => by cases e) (fun _ => ?_)))
  rw [Zam]
  rw [show IntKind.wrap .i64 (1 + IntKind.wrap .i64 ((b.length : Int).tdiv 50)) = ((1 + b.length / 50 : Nat) : Int) by
    rw [Int.tdiv_eq_ediv_of_nonneg (by omega), w64 ((b.length : Int) / 50) (by omega) (by omega), w64 _ (by omega) (by omega)]; omega]
  skip
  refine Zaa (fun m F σ' => ∃ (j n' : Nat), F = fset 1 (some (.int .i64 (deep : Int))) (fset 2 (some (.iptr [.bool nu, .int .i64 i, .int .i64 n, .slc 1 (bytes b) false, .slc 5 (Zm5 ks) false])) (fset 5 (some (.int .i64 (n' : Int))) (fset 6 (some (.int .i64 (j : Int))) Z27))) ∧
    σ = σ' ∧ j ≤ ks.length ∧ n' ≤ 1000 ∧ fewVL (deep + 1) n' (ks.drop j) = X ∧ m = ks.length - j) (n := ks.length) ⟨0, 1 + b.length / 50, rfl, rfl, by omega, by omega, hX, rfl⟩ ?_
  rintro m F σ' ⟨j, n', rfl, rfl, hj, hn, hXj, rfl⟩
  (repeat (first | refine st_q rfl rfl rfl ?_ | (refine Z8y ?_; (repeat (first | refine Z9v rfl ?_ | refine Z9w ?_)); refine Z9u ?_) | refine awp_seq ?_ | refine Zbm (fun _ _ => rfl) ?_))
  rw [Zm9]
  refine Za3 (p := (j : Int) < (ks.length : Int)) rfl (fun h5 => ?_) (fun h5 => ?_)
  · have hjl : j < ks.length := by omega
    have h1 : (Zm5 ks)[((j : Nat) : Int).toNat]? = some (.agg (Zm6 ks[j])) := by rw [← Zm7]; exact Zma (by rw [Int.toNat_natCast, List.getElem?_eq_getElem hjl])
    have hc := ih ks[j] (List.getElem_mem hjl) (deep + 1) (by omega)
    rw [Zm7] at hc
    have hle := Z1fe ks[j] (deep + 1)
    rw [List.drop_eq_getElem_cons hjl, fewVL] at hXj
    generalize fewV (deep + 1) ks[j] = q at hc hle hXj
    (repeat (first | refine st_q rfl rfl rfl ?_ | refine awp_seq ?_ | refine Zbm (fun _ _ => rfl) ?_ | refine Z8h ?_ | refine Zbn (fun _ _ => rfl) ?_))
    refine Z93 rfl (by omega) h1 ?_
    (repeat refine st_q rfl rfl rfl ?_)
    rw [show IntKind.wrap .i64 ((deep : Int) + 1) = ((deep + 1 : Nat) : Int) by rw [w64 _ (by omega) (by omega)]; omega]
    (first | refine Z9t rfl (hc _) ?_ | refine Z8v rfl (Z9t rfl (hc _) ?_) | refine Zbw rfl hc ?_ | refine Z8v rfl (Zbw rfl hc ?_))
    (repeat (first | refine st_q rfl rfl rfl ?_ | (refine Z8y ?_; (repeat (first | refine Z9v rfl ?_ | refine Z9w ?_)); refine Z9u ?_) | refine awp_seq ?_ | refine Zbm (fun _ _ => rfl) ?_))
    rw [show IntKind.wrap .i64 ((n' : Int) + (q : Int)) = ((n' + q : Nat) : Int) by rw [w64 _ (by omega) (by omega)]; omega]
    by_cases h7 : 1000 < n' + q
    · (rw [show decide ((1000 : Int) < ((n' + q : Nat) : Int)) = true from decide_eq_true (by omega)])
      (repeat (first | refine st_q rfl rfl rfl ?_ | (refine Z8y ?_; (repeat (first | refine Z9v rfl ?_ | refine Z9w ?_)); refine Z9u ?_) | refine awp_seq ?_ | refine Zbm (fun _ _ => rfl) ?_ | refine Z8f (t := true) rfl (fun _ => ?_) (fun e => by cases e)))
      (refine Z8d ?_; exact ares rfl (HSub.refl _) ⟨(by rw [← hXj, if_pos h7]; rfl), rfl⟩)
    · (rw [show decide ((1000 : Int) < ((n' + q : Nat) : Int)) = false from decide_eq_false (by omega)])
      rw [if_neg h7] at hXj
      (repeat (first | refine Zbn (fun _ _ => rfl) ?_ | refine Z8f (t := false) rfl (fun e => by cases e) (fun _ => ?_)))
      refine Zbp ?_
      (repeat (refine st_q rfl rfl rfl ?_))
      rw [show IntKind.wrap .i64 ((j : Int) + 1) = ((j + 1 : Nat) : Int) by rw [w64 _ (by omega) (by omega)]; omega]
      (refine Z8y ?_; (repeat (first | refine Z9v rfl ?_ | refine Z9w ?_)); refine Z9u ?_)
      exact ⟨_, ks.length - (j + 1), HSub.refl _, ⟨j + 1, n' + q, rfl, rfl, by omega, by omega, hXj, rfl⟩, by omega⟩
  · rw [List.drop_of_length_le (by omega), fewVL] at hXj
    subst hXj
    (repeat (first | refine st_q rfl rfl rfl ?_ | (refine Z8y ?_; (repeat (first | refine Z9v rfl ?_ | refine Z9w ?_)); refine Z9u ?_) | refine awp_seq ?_ | refine Zbm (fun _ _ => rfl) ?_ | refine Zbo (fun _ _ => rfl) ?_))
    (refine Z8d ?_; exact ares rfl (HSub.refl _) ⟨rfl, rfl⟩)
theorem Z1fj (t : Vl) (σ : Zc) : Z1q Try.prog Zdz [encV t] σ fun r σ' => r = .int .i64 (fewV 1 t : Int) ∧ σ' = σ := by
  have hc := Z1fi t 1 (by omega)
  rw [Zm7] at hc ⊢
  refine Z8t rfl Z1f2 (Nat.le_of_ble_eq_true rfl) ?_
  refine Z9z ?_
  refine Z9j rfl (Z0.fit_iff.1 rfl) fun b2 hb2 => ?_
  (repeat (refine st_q rfl rfl rfl ?_))
  (refine Z8y ?_; (repeat (first | refine Z9v rfl ?_ | refine Z9w ?_)); refine Z9u ?_)
  refine Zb3 (d := 1) (cs := Zm6 t) rfl ?_
  (repeat (first | refine st_q rfl rfl rfl ?_ | refine awp_seq ?_ | refine Zbm (fun _ _ => rfl) ?_))
  (first | refine Z9t rfl (hc _) ?_ | refine Z8v rfl (Z9t rfl (hc _) ?_) | refine Zbw rfl hc ?_ | refine Z8v rfl (Zbw rfl hc ?_))
  (repeat (first | refine st_q rfl rfl rfl ?_ | (refine Z8y ?_; (repeat (first | refine Z9v rfl ?_ | refine Z9w ?_)); refine Z9u ?_)))
  (refine Z8d ?_; exact ares rfl (HSub.refl _) ⟨rfl, rfl⟩)
theorem Z1fk (t : Vl) (σ : Zc) : Z1q Try.prog Zee [encV t] σ fun r σ' => r = .bool (decide (fewV 1 t ≤ 400)) ∧ σ' = σ := by
  have hc := Z1fj t
  rw [Zm7] at hc ⊢
  refine Z8t rfl Z1f3 (Nat.le_of_ble_eq_true rfl) ?_
  refine Z9z ?_
  refine Z9j rfl (Z0.fit_iff.1 rfl) fun b2 hb2 => ?_
  (repeat (refine st_q rfl rfl rfl ?_))
  (refine Z8y ?_; (repeat (first | refine Z9v rfl ?_ | refine Z9w ?_)); refine Z9u ?_)
  refine Zb3 (d := 1) (cs := Zm6 t) rfl ?_
  (repeat (first | refine st_q rfl rfl rfl ?_ | refine awp_seq ?_ | refine Zbm (fun _ _ => rfl) ?_))
  (first | refine Z9t rfl (hc _) ?_ | refine Z8v rfl (Z9t rfl (hc _) ?_) | refine Zbw rfl hc ?_ | refine Z8v rfl (Zbw rfl hc ?_))
  (repeat (first | refine st_q rfl rfl rfl ?_ | (refine Z8y ?_; (repeat (first | refine Z9v rfl ?_ | refine Z9w ?_)); refine Z9u ?_)))
  refine Z8d ?_
  refine ares rfl (HSub.refl _) ⟨?_, rfl⟩
  simp only [Z8m, Z0.bool.injEq, decide_eq_decide]
  omega
def few15 (t : Ty) (rows : List Vl) : Bool := decide (fewT 1 t ≤ 150) && (decide (rows.length ≤ 200) && fewR 0 rows)
theorem Z1fl (t : Ty) (rows : List Vl) (f : Bool) (σ : Zc) : Z1q Try.prog Zcp [encT t, .slc 5 (Zm5 rows) f] σ fun r σ' => r = .bool (few15 t rows) ∧ σ' = σ := by
  have hc := Z1fh t
  rw [Zlp] at hc ⊢
  refine Z8t rfl Z1ew (Nat.le_of_ble_eq_true rfl) ?_
  refine Z9z ?_
  refine Z9j rfl (Z0.fit_iff.1 rfl) fun b2 hb2 => ?_
  (repeat (refine st_q rfl rfl rfl ?_))
  (refine Z8y ?_; (repeat (first | refine Z9v rfl ?_ | refine Z9w ?_)); refine Z9u ?_)
  refine Zb3 (d := 2) (cs := Zlo t) rfl ?_
  (repeat (first | refine st_q rfl rfl rfl ?_ | refine awp_seq ?_ | refine Zbm (fun _ _ => rfl) ?_))
  (first | refine Z9t rfl (hc _) ?_ | refine Z8v rfl (Z9t rfl (hc _) ?_) | refine Zbw rfl hc ?_ | refine Z8v rfl (Zbw rfl hc ?_))
  unfold few15
  generalize decide (fewT 1 t ≤ 150) = q
  cases q with
  | false =>
    (repeat (first | refine st_q rfl rfl rfl ?_ | refine Z8w rfl ?_ | (refine Z8y ?_; (repeat (first | refine Z9v rfl ?_ | refine Z9w ?_)); refine Z9u ?_) | refine awp_seq ?_ | refine Zbm (fun _ _ => rfl) ?_ | refine Z8f (t := true) rfl (fun _ => ?_) (fun e => by cases e)))
    (refine Z8d ?_; exact ares rfl (HSub.refl _) ⟨rfl, rfl⟩)
  | true =>
  (repeat (first | refine st_q rfl rfl rfl ?_ | refine Z8v rfl (st_q rfl rfl rfl ?_) | (refine Z8y ?_; (repeat (first | refine Z9v rfl ?_ | refine Z9w ?_)); refine Z9u ?_)))
  rw [Zm9]
  by_cases h1 : 200 < rows.length
  · (rw [show decide ((200 : Int) < (rows.length : Int)) = true from decide_eq_true (by omega)])
    (repeat (first | refine st_q rfl rfl rfl ?_ | (refine Z8y ?_; (repeat (first | refine Z9v rfl ?_ | refine Z9w ?_)); refine Z9u ?_) | refine awp_seq ?_ | refine Zbm (fun _ _ => rfl) ?_ | refine Z8f (t := true) rfl (fun _ => ?_) (fun e => by cases e)))
    (refine Z8d ?_; exact ares rfl (HSub.refl _) ⟨(by rw [show decide (rows.length ≤ 200) = false from decide_eq_false (by omega)]; rfl), rfl⟩)
  (rw [show decide ((200 : Int) < (rows.length : Int)) = false from decide_eq_false (by omega)])
  rw [show decide (rows.length ≤ 200) = true from decide_eq_true (by omega), Bool.true_and, Bool.true_and]
  generalize hX : fewR 0 rows = X
  (repeat (first | refine st_q rfl rfl rfl ?_ | (refine Z8y ?_; (repeat (first | refine Z9v rfl ?_ | refine Z9w ?_)); refine Z9u ?_) | refine awp_seq ?_ | refine Zbm (fun _ _ => rfl) ?_ | refine Z8h ?_ | refine Zbn (fun _ _ => rfl) ?_ | refine Z8f (t := false) rfl (fun e => by cases e) (fun _ => ?_)))
  refine Zaa (fun m F σ' => ∃ (j n' : Nat), F = fset 1 (some (.slc 5 (Zm5 rows) f)) (fset 5 (some (.int .i64 (n' : Int))) (fset 6 (some (.int .i64 (j : Int))) Z27)) ∧
    σ = σ' ∧ j ≤ rows.length ∧ n' ≤ 1000 ∧ fewR n' (rows.drop j) = X ∧ m = rows.length - j) (n := rows.length) ⟨0, 0, rfl, rfl, by omega, by omega, hX, rfl⟩ ?_
  rintro m F σ' ⟨j, n', rfl, rfl, hj, hn, hXj, rfl⟩
  (repeat (first | refine st_q rfl rfl rfl ?_ | (refine Z8y ?_; (repeat (first | refine Z9v rfl ?_ | refine Z9w ?_)); refine Z9u ?_) | refine awp_seq ?_ | refine Zbm (fun _ _ => rfl) ?_))
  rw [Zm9]
  refine Za3 (p := (j : Int) < (rows.length : Int)) rfl (fun h5 => ?_) (fun h5 => ?_)
  · have hjl : j < rows.length := by omega
    have h1 : (Zm5 rows)[((j : Nat) : Int).toNat]? = some (.agg (Zm6 rows[j])) := by rw [← Zm7]; exact Zma (by rw [Int.toNat_natCast, List.getElem?_eq_getElem hjl])
    have hc := Z1fj rows[j]
    rw [Zm7] at hc
    have hle := Z1fe rows[j] 1
    rw [List.drop_eq_getElem_cons hjl, fewR] at hXj
    generalize fewV 1 rows[j] = q at hc hle hXj
    (repeat (first | refine st_q rfl rfl rfl ?_ | refine awp_seq ?_ | refine Zbm (fun _ _ => rfl) ?_ | refine Z8h ?_ | refine Zbn (fun _ _ => rfl) ?_))
    refine Z93 rfl (by omega) h1 ?_
    (repeat refine st_q rfl rfl rfl ?_)
    (first | refine Z9t rfl (hc _) ?_ | refine Z8v rfl (Z9t rfl (hc _) ?_) | refine Zbw rfl hc ?_ | refine Z8v rfl (Zbw rfl hc ?_))
    (repeat (first | refine st_q rfl rfl rfl ?_ | (refine Z8y ?_; (repeat (first | refine Z9v rfl ?_ | refine Z9w ?_)); refine Z9u ?_) | refine awp_seq ?_ | refine Zbm (fun _ _ => rfl) ?_))
    rw [show IntKind.wrap .i64 ((n' : Int) + (q : Int)) = ((n' + q : Nat) : Int) by rw [w64 _ (by omega) (by omega)]; omega]
    by_cases h7 : 1000 < n' + q
    · (rw [show decide ((1000 : Int) < ((n' + q : Nat) : Int)) = true from decide_eq_true (by omega)])
      (repeat (first | refine st_q rfl rfl rfl ?_ | (refine Z8y ?_; (repeat (first | refine Z9v rfl ?_ | refine Z9w ?_)); refine Z9u ?_) | refine awp_seq ?_ | refine Zbm (fun _ _ => rfl) ?_ | refine Z8f (t := true) rfl (fun _ => ?_) (fun e => by cases e)))
      (refine Z8d ?_; exact ares rfl (HSub.refl _) ⟨(by rw [← hXj, if_pos h7]; rfl), rfl⟩)
    · (rw [show decide ((1000 : Int) < ((n' + q : Nat) : Int)) = false from decide_eq_false (by omega)])
      rw [if_neg h7] at hXj
      (repeat (first | refine Zbn (fun _ _ => rfl) ?_ | refine Z8f (t := false) rfl (fun e => by cases e) (fun _ => ?_)))
      refine Zbp ?_
      (repeat (refine st_q rfl rfl rfl ?_))
      rw [show IntKind.wrap .i64 ((j : Int) + 1) = ((j + 1 : Nat) : Int) by rw [w64 _ (by omega) (by omega)]; omega]
      (refine Z8y ?_; (repeat (first | refine Z9v rfl ?_ | refine Z9w ?_)); refine Z9u ?_)
      exact ⟨_, rows.length - (j + 1), HSub.refl _, ⟨j + 1, n' + q, rfl, rfl, by omega, by omega, hXj, rfl⟩, by omega⟩
  · rw [List.drop_of_length_le (by omega), fewR] at hXj
    subst hXj
    (repeat (first | refine st_q rfl rfl rfl ?_ | (refine Z8y ?_; (repeat (first | refine Z9v rfl ?_ | refine Z9w ?_)); refine Z9u ?_) | refine awp_seq ?_ | refine Zbm (fun _ _ => rfl) ?_ | refine Zbo (fun _ _ => rfl) ?_))
    (refine Z8d ?_; exact ares rfl (HSub.refl _) ⟨rfl, rfl⟩)
end Go.Abs
namespace Go.Abs
open Go Go.Proofs
set_option linter.unusedVariables false
set_option linter.unusedSimpArgs false
set_option maxHeartbeats 4000000
attribute [local irreducible] AWp aops KP
theorem Z1fm {l : List Nd} {i : Int} {n : Nd} (h : l[i.toNat]? = some n) : (l.map encR)[i.toNat]? = some (encR n) := by rw [List.getElem?_map, h]; rfl
theorem Z1fn {l : List Nd} (hw : WfN l) : ∀ (a b : Nat) (x : Int), (x + 1).toNat ≤ a → (x + 1).toNat ≤ b → x < l.length → upF l a x = upF l b x := by
  intro a
  induction a with
  | zero =>
    intro b x h1 _ _
    cases b with
    | zero => rfl
    | succ b => rw [upF, upF, if_pos (.inl (by omega))]
  | succ a ih =>
    intro b x h1 h2 h3
    cases b with
    | zero => rw [upF, upF, if_pos (.inl (by omega))]
    | succ b =>
      rw [upF, upF]
      split
      · rfl
      · rename_i hx
        cases hlx : l[x.toNat]? with
        | none => rfl
        | some y =>
          have := hw.up _ _ hlx
          simp only
          split
          · exact ih b y.parent (by omega) (by omega) (by omega)
          · rfl
theorem Z1fo (l : List Nd) (hw : WfN l) (f : Bool) (col : Int) (σ : Zc) : Z1q Try.prog Zeg [.slc 9 (l.map encR) f, .int .i64 col] σ fun r σ' => r = .bool (goodF l col) ∧ σ' = σ := by
  have hml : (l.map encR).length = l.length := List.length_map ..
  have hlen := hw.len
  refine Z8t rfl Z1f6 (Nat.le_of_ble_eq_true rfl) ?_
  by_cases h1 : col < 0
  · (repeat (first | refine st_q rfl rfl rfl ?_ | (refine Z8y ?_; (repeat (first | refine Z9v rfl ?_ | refine Z9w ?_)); refine Z9u ?_) | refine awp_seq ?_ | refine Zbm (fun _ _ => rfl) ?_))
    (rw [show decide (col < 0) = true from decide_eq_true (by omega)])
    (repeat (first | refine st_q rfl rfl rfl ?_ | refine Z8w rfl ?_ | (refine Z8y ?_; (repeat (first | refine Z9v rfl ?_ | refine Z9w ?_)); refine Z9u ?_) | refine awp_seq ?_ | refine Zbm (fun _ _ => rfl) ?_ | refine Z8f (t := true) rfl (fun _ => ?_) (fun e => by cases e)))
    refine Z8d ?_
    exact ares rfl (HSub.refl _) ⟨by rw [goodF, if_pos (.inl h1)]; rfl, rfl⟩
  by_cases h2 : (l.length : Int) ≤ col
  · (repeat (first | refine st_q rfl rfl rfl ?_ | (refine Z8y ?_; (repeat (first | refine Z9v rfl ?_ | refine Z9w ?_)); refine Z9u ?_) | refine awp_seq ?_ | refine Zbm (fun _ _ => rfl) ?_))
    (rw [show decide (col < 0) = false from decide_eq_false (by omega)])
    (repeat (first | refine st_q rfl rfl rfl ?_ | refine Z8v rfl (st_q rfl rfl rfl ?_)))
    rw [hml]
    (rw [show decide (col ≥ (l.length : Int)) = true from decide_eq_true (by omega)])
    (repeat (first | refine st_q rfl rfl rfl ?_ | refine Z8w rfl ?_ | (refine Z8y ?_; (repeat (first | refine Z9v rfl ?_ | refine Z9w ?_)); refine Z9u ?_) | refine awp_seq ?_ | refine Zbm (fun _ _ => rfl) ?_ | refine Z8f (t := true) rfl (fun _ => ?_) (fun e => by cases e)))
    refine Z8d ?_
    exact ares rfl (HSub.refl _) ⟨by rw [goodF, if_pos (.inr h2)]; rfl, rfl⟩
  obtain ⟨n, hn⟩ : ∃ n, l[col.toNat]? = some n := ⟨_, List.getElem?_eq_getElem (by omega)⟩
  have hg : goodF l col = (Zlt n.t.kind && upF l (n.parent + 1).toNat n.parent) := by rw [goodF, if_neg (by omega), hn]
  rw [hg]
  have hup := hw.up _ _ hn
  (repeat (first | refine st_q rfl rfl rfl ?_ | (refine Z8y ?_; (repeat (first | refine Z9v rfl ?_ | refine Z9w ?_)); refine Z9u ?_) | refine awp_seq ?_ | refine Zbm (fun _ _ => rfl) ?_))
  (rw [show decide (col < 0) = false from decide_eq_false (by omega)])
  (repeat (first | refine st_q rfl rfl rfl ?_ | refine Z8v rfl (st_q rfl rfl rfl ?_)))
  rw [hml]
  (rw [show decide (col ≥ (l.length : Int)) = false from decide_eq_false (by omega)])
  (repeat refine Z8v rfl (st_q rfl rfl rfl ?_))
  refine Z8v rfl (Z93 rfl (by omega) (Z1fm hn) ?_)
  rw [encR, Zm3]
  (repeat refine Z8v rfl (st_q rfl rfl rfl ?_))
  refine Z8v rfl (Z9t rfl (Ztm _ _) ?_)
  cases hl : Zlt n.t.kind with
  | false =>
    (repeat (first | refine st_q rfl rfl rfl ?_ | refine Z8v rfl (st_q rfl rfl rfl ?_) | (refine Z8y ?_; (repeat (first | refine Z9v rfl ?_ | refine Z9w ?_)); refine Z9u ?_) | refine awp_seq ?_ | refine Zbm (fun _ _ => rfl) ?_ | refine Z8f (t := true) rfl (fun _ => ?_) (fun e => by cases e)))
    refine Z8d ?_
    exact ares rfl (HSub.refl _) ⟨rfl, rfl⟩
  | true =>
    rw [Bool.true_and]
    (repeat (first | refine st_q rfl rfl rfl ?_ | refine Z8v rfl (st_q rfl rfl rfl ?_) | (refine Z8y ?_; (repeat (first | refine Z9v rfl ?_ | refine Z9w ?_)); refine Z9u ?_) | refine awp_seq ?_ | refine Zbm (fun _ _ => rfl) ?_ | refine Zbn (fun _ _ => rfl) ?_ | refine Z8f (t := false) rfl (fun e => by cases e) (fun _ => ?_)))
    refine Z93 rfl (by omega) (Z1fm hn) ?_
    rw [encR, Zm3]
    (repeat (first | refine st_q rfl rfl rfl ?_ | (refine Z8y ?_; (repeat (first | refine Z9v rfl ?_ | refine Z9w ?_)); refine Z9u ?_) | refine Z8h ?_))
    refine Zaa (fun m F σ' => ∃ p : Int, F = fset 0 (some (.slc 9 (l.map encR) f)) (fset 5 (some (.int .i64 p)) Z27) ∧ σ = σ' ∧ -1 ≤ p ∧ p < l.length ∧ m = (p + 1).toNat ∧ upF l (p + 1).toNat p = upF l (n.parent + 1).toNat n.parent) (n := (n.parent + 1).toNat)
      ⟨n.parent, rfl, rfl, by omega, by omega, rfl, rfl⟩ ?_
    rintro m F σ' ⟨p, rfl, rfl, hp1, hp2, rfl, he⟩
    by_cases h3 : 0 ≤ p
    · obtain ⟨q, hq⟩ : ∃ q, l[p.toNat]? = some q := ⟨_, List.getElem?_eq_getElem (by omega)⟩
      obtain ⟨j, hj⟩ : ∃ j, (p + 1).toNat = j + 1 := ⟨p.toNat, by omega⟩
      have hupq := hw.up _ _ hq
      rw [hj, upF, if_neg (by omega), hq] at he
      simp only at he
      (repeat (first | refine st_q rfl rfl rfl ?_ | (refine Z8y ?_; (repeat (first | refine Z9v rfl ?_ | refine Z9w ?_)); refine Z9u ?_) | refine awp_seq ?_ | refine Zbm (fun _ _ => rfl) ?_))
      (rw [show decide (p ≥ 0) = true from decide_eq_true (by omega)])
      (repeat (first | refine st_q rfl rfl rfl ?_ | refine awp_seq ?_ | refine Zbm (fun _ _ => rfl) ?_ | refine Z8h ?_ | refine Zbn (fun _ _ => rfl) ?_ | refine Z8f (t := true) rfl (fun _ => ?_) (fun e => by cases e)))
      refine Z93 rfl (by omega) (Z1fm hq) ?_
      rw [encR, Zm3]
      (repeat (first | refine st_q rfl rfl rfl ?_ | (refine Z8y ?_; (repeat (first | refine Z9v rfl ?_ | refine Z9w ?_)); refine Z9u ?_)))
      refine Za3 (p := q.t.kind ≠ 12) rfl (fun h4 => ?_) (fun h4 => ?_)
      · rw [if_neg h4] at he
        rw [← he]
        (repeat (first | refine st_q rfl rfl rfl ?_ | (refine Z8y ?_; (repeat (first | refine Z9v rfl ?_ | refine Z9w ?_)); refine Z9u ?_) | refine awp_seq ?_ | refine Zbm (fun _ _ => rfl) ?_))
        refine Z8d ?_
        exact ares rfl (HSub.refl _) ⟨rfl, rfl⟩
      · rw [if_pos (by omega)] at he
        refine Zbn (fun _ _ => rfl) ?_
        refine awp_region ?_
        (repeat (refine st_q rfl rfl rfl ?_))
        refine Z93 rfl (by omega) (Z1fm hq) ?_
        rw [encR, Zm3]
        (repeat (refine st_q rfl rfl rfl ?_))
        refine Z8y ?_
        refine Zac (keep := [0, 5]) ?_
        ((repeat (first | refine Z9v rfl ?_ | refine Z9w ?_)); refine Z9u ?_)
        refine ⟨_, _, HSub.refl _, ⟨q.parent, rfl, rfl, by omega, by omega, rfl, ?_⟩, by omega⟩
        rw [← he]
        exact Z1fn hw _ _ _ (by omega) (by omega) (by omega)
    · have hp : p = -1 := by omega
      subst hp
      have e : upF l ((-1 : Int) + 1).toNat (-1) = true := rfl
      rw [e] at he
      rw [← he]
      (repeat (first | refine st_q rfl rfl rfl ?_ | (refine Z8y ?_; (repeat (first | refine Z9v rfl ?_ | refine Z9w ?_)); refine Z9u ?_) | refine awp_seq ?_ | refine Zbm (fun _ _ => rfl) ?_ | refine Zbo (fun _ _ => rfl) ?_ | refine Z8f (t := false) rfl (fun e => by cases e) (fun _ => ?_)))
      refine Z8d ?_
      exact ares rfl (HSub.refl _) ⟨rfl, rfl⟩
theorem Z1fp (p : List Tm) (hp : p.length ≤ 100000000) (f : Bool) (σ : Zc) : Z1q Try.prog Zd9 [.slc 7 (p.map encM) f] σ fun r σ' => r = .slc 7 (p.map encM) false ∧ σ' = σ := by
  have hpl : (p.map encM).length = p.length := List.length_map ..
  refine Zb5 (R := fun r σ' => ∃ β, Zbr 7 r (p.map encM) β ∧ σ' = β ++ σ) ?_ fun r σ' h => ?_
  case refine_2 =>
    obtain ⟨β, ho, rfl⟩ := h
    exact ⟨_, _, Zb6.one (Zb6.growG ho), rfl, rfl⟩
  refine Z8t rfl Z1ez (Nat.le_of_ble_eq_true rfl) ?_
  (repeat (first | refine st_q rfl rfl rfl ?_ | (refine Z8y ?_; (repeat (first | refine Z9v rfl ?_ | refine Z9w ?_)); refine Z9u ?_) | refine awp_seq ?_ | refine Zbm (fun _ _ => rfl) ?_ | refine Z8h ?_))
  refine Zaa (fun m F σ' => ∃ (i : Nat) (v : Z0) (β : Zc), F = fset 0 (some (.slc 7 (p.map encM) f)) (fset 3 (some v) (fset 4 (some (.int .i64 i)) Z27)) ∧ σ' = β ++ σ ∧ Zbr 7 v ((p.take i).map encM) β ∧ i ≤ p.length ∧ m = p.length - i) (n := p.length)
    ⟨0, .slc 0 [] true, [], rfl, rfl, Zbr.nil 7 0, by omega, by omega⟩ ?_
  rintro m F σ' ⟨i, v, β, rfl, rfl, ho, hi, rfl⟩
  (repeat (first | refine st_q rfl rfl rfl ?_ | (refine Z8y ?_; (repeat (first | refine Z9v rfl ?_ | refine Z9w ?_)); refine Z9u ?_) | refine awp_seq ?_ | refine Zbm (fun _ _ => rfl) ?_))
  rw [hpl]
  refine Za3 (p := (i : Int) < (p.length : Int)) rfl (fun h3 => ?_) (fun h3 => ?_)
  · have hil : i < p.length := by omega
    have hx := Z187 (i := (i : Int)) (show p[(i : Int).toNat]? = some p[i] from List.getElem?_eq_getElem hil)
    have htk : (p.take (i + 1)).map encM = (p.take i).map encM ++ [encM p[i]] := by
      rw [List.take_add_one, List.getElem?_eq_getElem hil, List.map_append]; rfl
    generalize p[i] = t at hx htk
    obtain ⟨tc, op, tv⟩ := t
    rw [encM, Z17q, Zm6] at hx htk
    simp only at hx htk
    (repeat (first | refine st_q rfl rfl rfl ?_ | refine awp_seq ?_ | refine Zbm (fun _ _ => rfl) ?_ | refine Z8h ?_ | refine Zbn (fun _ _ => rfl) ?_))
    refine Z93 rfl (by omega) hx ?_
    (repeat refine st_q rfl rfl rfl ?_)
    refine Z93 rfl (by omega) hx ?_
    (repeat refine st_q rfl rfl rfl ?_)
    refine Z93 rfl (by omega) hx ?_
    (repeat refine st_q rfl rfl rfl ?_)
    refine Zbs (ys := [.agg [.int .i64 tc, .int .i64 op, .bool tv.null, .int .i64 tv.i, .int .i64 tv.n, .slc 1 (bytes tv.b) false, .slc 5 (Zm5 tv.kids) false]]) ho rfl rfl (by simp only [List.length_map, List.length_take, List.length_cons, List.length_nil]; omega) fun b hb => ?_
    rw [← htk]
    (repeat (refine st_q rfl rfl rfl ?_))
    (refine Z8y ?_; (repeat (first | refine Z9v rfl ?_ | refine Z9w ?_)); refine Z9u ?_)
    refine awp_region ?_
    (repeat (refine st_q rfl rfl rfl ?_))
    rw [show IntKind.wrap .i64 ((i : Int) + 1) = ((i + 1 : Nat) : Int) by rw [w64 _ (by omega) (by omega)]; omega]
    (repeat (refine st_q rfl rfl rfl ?_))
    refine Z8y ?_
    refine Zac (keep := [0, 3, 4]) ?_
    ((repeat (first | refine Z9v rfl ?_ | refine Z9w ?_)); refine Z9u ?_)
    exact ⟨_, _, HSub.refl _, ⟨i + 1, _, _, rfl, rfl, Zbr.mk, by omega, rfl⟩, by omega⟩
  · have e : p.take i = p := List.take_of_length_le (by omega)
    rw [e] at ho
    (repeat (first | refine st_q rfl rfl rfl ?_ | (refine Z8y ?_; (repeat (first | refine Z9v rfl ?_ | refine Z9w ?_)); refine Z9u ?_) | refine awp_seq ?_ | refine Zbm (fun _ _ => rfl) ?_ | refine Zbo (fun _ _ => rfl) ?_))
    refine Z8d ?_
    exact ares rfl (HSub.refl _) ⟨β, ho, rfl⟩
end Go.Abs
namespace Go.Abs
open Go Go.Proofs
set_option linter.unusedVariables false
set_option linter.unusedSimpArgs false
set_option maxHeartbeats 4000000
attribute [local irreducible] AWp aops KP
def mayR (l : List Nd) (t : Tm) (ss : List Stt) : Bool :=
  match l[t.col.toNat]?, ss[t.col.toNat]?, ss[0]? with
  | some n, some x, some z =>
    if t.op = 7 then !(decide (x.count = z.count) && !x.null) else if x.count = 0 then false else if t.op = 8 then true
    else !(x.has && Z17z n.t.kind t.op t.v x.min x.max) && !(decide (n.t.kind = 0) && x.sums && Z17z n.t.kind t.op t.v (.mk false (if x.sum = x.count then 1 else 0) 0 [] []) (.mk false (if x.sum = 0 then 0 else 1) 0 [] []))
  | _, _, _ => true
theorem Z1p0 (l : List Nd) (hw : WfN l) (f g e : Bool) (p : List Tm) (hp : p.length ≤ 1000000) (ss : List Stt) (hs : ss.length = l.length) (hgd : ∀ t ∈ p, goodF l t.col = true) (σ : Zc) :
    Z1q Try.prog Zdc [.slc 9 (l.map encR) f, .slc 7 (p.map encM) e, .slc 15 (ss.map encS) g] σ fun r σ' => r = .bool (p.all fun t => mayR l t ss) ∧ σ' = σ := by
  have hpl : (p.map encM).length = p.length := List.length_map ..
  refine Z8t rfl Z1os (Nat.le_of_ble_eq_true rfl) ?_
  (repeat (first | refine st_q rfl rfl rfl ?_ | (refine Z8y ?_; (repeat (first | refine Z9v rfl ?_ | refine Z9w ?_)); refine Z9u ?_) | refine awp_seq ?_ | refine Zbm (fun _ _ => rfl) ?_ | refine Z8h ?_))
  generalize hX : (p.all fun t => mayR l t ss) = X
  obtain ⟨I, hI⟩ : ∃ I : Nat → Z26 → Zc → Prop, I = fun m F σ' => ∃ i : Nat, F = fset 0 (some (.slc 9 (l.map encR) f)) (fset 1 (some (.slc 7 (p.map encM) e)) (fset 2 (some (.slc 15 (ss.map encS) g)) (fset 7 (some (.int .i64 i)) Z27))) ∧ σ = σ' ∧ i ≤ p.length ∧ m = p.length - i ∧ ((p.drop i).all fun t => mayR l t ss) = X := ⟨_, rfl⟩
  refine Zaa I (n := p.length) (by rw [hI]; exact ⟨0, rfl, rfl, by omega, by omega, by rw [List.drop_zero]; exact hX⟩) ?_
  intro m F σ' hIm
  rw [hI] at hIm
  obtain ⟨i, rfl, rfl, hi, rfl, hM⟩ := hIm
  (repeat (first | refine st_q rfl rfl rfl ?_ | (refine Z8y ?_; (repeat (first | refine Z9v rfl ?_ | refine Z9w ?_)); refine Z9u ?_) | refine awp_seq ?_ | refine Zbm (fun _ _ => rfl) ?_))
  rw [hpl]
  refine Za3 (p := (i : Int) < (p.length : Int)) rfl (fun h3 => ?_) (fun h3 => ?_)
  · have hil : i < p.length := by omega
    have hx := Z187 (i := (i : Int)) (show p[(i : Int).toNat]? = some p[i] from List.getElem?_eq_getElem hil)
    have hgc := hgd p[i] (List.getElem_mem hil)
    rw [List.drop_eq_getElem_cons hil, List.all_cons] at hM
    generalize p[i] = t at hx hM hgc
    obtain ⟨k0, k1⟩ := Z181 hgc
    obtain ⟨n, hn⟩ : ∃ n, l[t.col.toNat]? = some n := ⟨_, List.getElem?_eq_getElem (by omega)⟩
    obtain ⟨x, hxx⟩ : ∃ x, ss[t.col.toNat]? = some x := ⟨_, List.getElem?_eq_getElem (by omega)⟩
    obtain ⟨z, hz⟩ : ∃ z, ss[0]? = some z := ⟨_, List.getElem?_eq_getElem (by omega)⟩
    have he : mayR l t ss = (if t.op = 7 then !(decide (x.count = z.count) && !x.null) else if x.count = 0 then false else if t.op = 8 then true
      else !(x.has && Z17z n.t.kind t.op t.v x.min x.max) && !(decide (n.t.kind = 0) && x.sums && Z17z n.t.kind t.op t.v (.mk false (if x.sum = x.count then 1 else 0) 0 [] []) (.mk false (if x.sum = 0 then 0 else 1) 0 [] []))) := by
      rw [mayR, hn, hxx, hz]
    have hxg := Z185 hxx
    have hzg : (ss.map encS)[(0 : Int).toNat]? = some (encS z) := Z185 (i := 0) hz
    have hng := Z1fm hn
    obtain ⟨tc, op, tv⟩ := t
    obtain ⟨xc, xn, xh, mn, mx, xs, xsum⟩ := x
    simp only at *
    rw [encM, Z17q, Zm6] at hx
    simp only at hx
    have hnev := fun τ => Z1oz n.t op tv mn mx τ
    have hnev2 := fun τ => Z1oz n.t op tv (.mk false (if xsum = xc then 1 else 0) 0 [] []) (.mk false (if xsum = 0 then 0 else 1) 0 [] []) τ
    simp only [Zm7, Zlp] at hnev hnev2
    generalize Z17z n.t.kind op tv mn mx = nv at hnev he
    generalize Z17z n.t.kind op tv (.mk false (if xsum = xc then 1 else 0) 0 [] []) (.mk false (if xsum = 0 then 0 else 1) 0 [] []) = nb at hnev2 he
    have next : mayR l ⟨tc, op, tv⟩ ss = true → ∀ (τ : Zc), HSub σ τ → ∀ Q : Z87, AWp Try.prog Z1nu.n (.region Z1nr [0, 1, 2, 7]) (Za9 I (p.length - i) Q)
        (fset 0 (some (.slc 9 (l.map encR) f)) (fset 1 (some (.slc 7 (p.map encM) e)) (fset 2 (some (.slc 15 (ss.map encS) g)) (fset 7 (some (.int .i64 i)) Z27)))) τ := fun ho τ hτ Q => by
      refine Z8a (FSub.refl _) hτ ?_
      rw [ho, Bool.true_and] at hM
      refine Zbp ?_
      (repeat (refine st_q rfl rfl rfl ?_))
      rw [show IntKind.wrap .i64 ((i : Int) + 1) = ((i + 1 : Nat) : Int) by rw [w64 _ (by omega) (by omega)]; omega]
      (repeat (refine st_q rfl rfl rfl ?_))
      (refine Z8y ?_; (repeat (first | refine Z9v rfl ?_ | refine Z9w ?_)); refine Z9u ?_)
      refine ⟨_, p.length - (i + 1), HSub.refl _, ?_, by omega⟩
      rw [hI]
      exact ⟨i + 1, rfl, rfl, by omega, rfl, hM⟩
    have bad : mayR l ⟨tc, op, tv⟩ ss = false → false = X := fun h => by rw [h, Bool.false_and] at hM; exact hM
    (repeat (first | refine st_q rfl rfl rfl ?_ | refine awp_seq ?_ | refine Zbm (fun _ _ => rfl) ?_ | refine Z8h ?_ | refine Zbn (fun _ _ => rfl) ?_))
    refine Z93 rfl (by omega) hx ?_
    (repeat (first | refine st_q rfl rfl rfl ?_ | (refine Z8y ?_; (repeat (first | refine Z9v rfl ?_ | refine Z9w ?_)); refine Z9u ?_) | refine awp_seq ?_ | refine Zbm (fun _ _ => rfl) ?_))
    refine Z93 rfl k0 hxg ?_
    rw [encS, Zxp]
    (repeat refine st_q rfl rfl rfl ?_)
    refine Z9k (by simp [Z0.cells, Z0.one]) fun b9 hb9 => ?_
    refine Z9a rfl Z8z rfl (by decide) (Z0.fit_iff.1 rfl) (fun h => by cases h) Z9b ?_
    (repeat (refine st_q rfl rfl rfl ?_))
    (refine Z8y ?_; (repeat (first | refine Z9v rfl ?_ | refine Z9w ?_)); refine Z9u ?_)
    refine Zb3 (d := 9) (cs := Zxp ⟨xc, xn, xh, mn, mx, xs, xsum⟩) rfl ?_
    (refine Z9y (keep := [0, 1, 2, 7, 8, 9]) ?_; ((repeat (first | refine Z9v rfl ?_ | refine Z9w ?_)); refine Z9u ?_))
    (repeat (first | refine st_q rfl rfl rfl ?_ | refine awp_seq ?_ | refine Zbm (fun _ _ => rfl) ?_))
    refine Z93 rfl k0 hng ?_
    rw [encR, Zm3, Zlo]
    (repeat refine st_q rfl rfl rfl ?_)
    refine Z9k (by simp [Z0.cells, Z0.one]) fun b10 hb10 => ?_
    refine Z9a rfl Z8z rfl (by decide) (Z0.fit_iff.1 rfl) (fun h => by cases h) Z9b ?_
    (repeat (refine st_q rfl rfl rfl ?_))
    (refine Z8y ?_; (repeat (first | refine Z9v rfl ?_ | refine Z9w ?_)); refine Z9u ?_)
    refine Zb3 (d := 10) (cs := Zlo n.t) rfl ?_
    (refine Z9y (keep := [0, 1, 2, 7, 9, 10]) ?_; ((repeat (first | refine Z9v rfl ?_ | refine Z9w ?_)); refine Z9u ?_))
    (repeat (first | refine st_q rfl rfl rfl ?_ | refine awp_seq ?_ | refine Zbm (fun _ _ => rfl) ?_ | refine Z8h ?_))
    refine Z93 rfl (by omega) hx ?_
    (repeat (first | refine st_q rfl rfl rfl ?_ | (refine Z8y ?_; (repeat (first | refine Z9v rfl ?_ | refine Z9w ?_)); refine Z9u ?_)))
    by_cases q7 : op = 7
    · rw [if_pos q7] at he
      (rw [show decide (op = 7) = true from decide_eq_true (by omega)])
      (repeat (first | refine st_q rfl rfl rfl ?_ | refine awp_seq ?_ | refine Zbm (fun _ _ => rfl) ?_ | refine Z8f (t := true) rfl (fun _ => ?_) (fun e => by cases e)))
      refine Z93 rfl (by decide) hzg ?_
      rw [encS, Zxp]
      (repeat refine st_q rfl rfl rfl ?_)
      by_cases qz : xc = z.count
      · rw [decide_eq_true qz, Bool.true_and] at he
        (rw [show decide (xc = z.count) = true from decide_eq_true (by omega)])
        cases xn with
        | true =>
          (repeat (first | refine st_q rfl rfl rfl ?_ | refine Z8v rfl (st_q rfl rfl rfl ?_) | (refine Z8y ?_; (repeat (first | refine Z9v rfl ?_ | refine Z9w ?_)); refine Z9u ?_) | refine Zbn (fun _ _ => rfl) ?_ | refine Zbo (fun _ _ => rfl) ?_ | refine Z8f (t := false) rfl (fun e => by cases e) (fun _ => ?_)))
          (refine Z9y (keep := [0, 1, 2, 7]) ?_; ((repeat (first | refine Z9v rfl ?_ | refine Z9w ?_)); refine Z9u ?_))
          exact next (by rw [he]; rfl) _ (HSub.refl _) _
        | false =>
          rw [← bad (by rw [he]; rfl)]
          (repeat (first | refine st_q rfl rfl rfl ?_ | refine Z8v rfl (st_q rfl rfl rfl ?_) | (refine Z8y ?_; (repeat (first | refine Z9v rfl ?_ | refine Z9w ?_)); refine Z9u ?_) | refine awp_seq ?_ | refine Zbm (fun _ _ => rfl) ?_ | refine Z8f (t := true) rfl (fun _ => ?_) (fun e => by cases e)))
          refine Z8d ?_
          exact ares rfl (HSub.refl _) ⟨rfl, rfl⟩
      · rw [decide_eq_false qz, Bool.false_and] at he
        (rw [show decide (xc = z.count) = false from decide_eq_false (by omega)])
        (repeat (first | refine st_q rfl rfl rfl ?_ | refine Z8w rfl ?_ | (refine Z8y ?_; (repeat (first | refine Z9v rfl ?_ | refine Z9w ?_)); refine Z9u ?_) | refine Zbn (fun _ _ => rfl) ?_ | refine Zbo (fun _ _ => rfl) ?_ | refine Z8f (t := false) rfl (fun e => by cases e) (fun _ => ?_)))
        (refine Z9y (keep := [0, 1, 2, 7]) ?_; ((repeat (first | refine Z9v rfl ?_ | refine Z9w ?_)); refine Z9u ?_))
        exact next (by rw [he]; rfl) _ (HSub.refl _) _
    rw [if_neg q7] at he
    (rw [show decide (op = 7) = false from decide_eq_false (by omega)])
    (repeat (first | refine st_q rfl rfl rfl ?_ | (refine Z8y ?_; (repeat (first | refine Z9v rfl ?_ | refine Z9w ?_)); refine Z9u ?_) | refine awp_seq ?_ | refine Zbm (fun _ _ => rfl) ?_ | refine Z8f (t := false) rfl (fun e => by cases e) (fun _ => ?_)))
    by_cases qc : xc = 0
    · rw [if_pos qc] at he
      rw [← bad he]
      (rw [show decide (xc = 0) = true from decide_eq_true (by omega)])
      (repeat (first | refine st_q rfl rfl rfl ?_ | (refine Z8y ?_; (repeat (first | refine Z9v rfl ?_ | refine Z9w ?_)); refine Z9u ?_) | refine awp_seq ?_ | refine Zbm (fun _ _ => rfl) ?_ | refine Z8f (t := true) rfl (fun _ => ?_) (fun e => by cases e)))
      refine Z8d ?_
      exact ares rfl (HSub.refl _) ⟨rfl, rfl⟩
    rw [if_neg qc] at he
    (rw [show decide (xc = 0) = false from decide_eq_false (by omega)])
    (repeat (first | refine st_q rfl rfl rfl ?_ | refine awp_seq ?_ | refine Zbm (fun _ _ => rfl) ?_ | refine Z8f (t := false) rfl (fun e => by cases e) (fun _ => ?_)))
    refine Z93 rfl (by omega) hx ?_
    (repeat (first | refine st_q rfl rfl rfl ?_ | (refine Z8y ?_; (repeat (first | refine Z9v rfl ?_ | refine Z9w ?_)); refine Z9u ?_)))
    by_cases q8 : op = 8
    · rw [if_pos q8] at he
      (rw [show decide (op = 8) = true from decide_eq_true (by omega)])
      (repeat (first | refine Zbo (fun _ _ => rfl) ?_ | refine Z8f (t := true) rfl (fun _ => ?_) (fun e => by cases e)))
      (refine Z9y (keep := [0, 1, 2, 7]) ?_; ((repeat (first | refine Z9v rfl ?_ | refine Z9w ?_)); refine Z9u ?_))
      exact next he _ (HSub.refl _) _
    rw [if_neg q8] at he
    (rw [show decide (op = 8) = false from decide_eq_false (by omega)])
    cases xh with
    | true =>
      (repeat (first | refine st_q rfl rfl rfl ?_ | refine Z8v rfl (st_q rfl rfl rfl ?_) | refine awp_seq ?_ | refine Zbm (fun _ _ => rfl) ?_ | refine Zbn (fun _ _ => rfl) ?_ | refine Z8f (t := false) rfl (fun e => by cases e) (fun _ => ?_)))
      refine Z8v rfl (Z93 rfl (by omega) hx ?_)
      (repeat refine Z8v rfl (st_q rfl rfl rfl ?_))
      refine Z8v rfl (Z93 rfl (by omega) hx ?_)
      (repeat refine Z8v rfl (st_q rfl rfl rfl ?_))
      refine Z8v rfl (Z9t rfl (hnev _) ?_)
      cases nv with
      | true =>
        rw [← bad (by rw [he]; rfl)]
        (repeat (first | refine st_q rfl rfl rfl ?_ | (refine Z8y ?_; (repeat (first | refine Z9v rfl ?_ | refine Z9w ?_)); refine Z9u ?_) | refine awp_seq ?_ | refine Zbm (fun _ _ => rfl) ?_ | refine Z8f (t := true) rfl (fun _ => ?_) (fun e => by cases e)))
        refine Z8d ?_
        exact ares rfl (HSub.refl _) ⟨rfl, rfl⟩
      | false =>
        (repeat (first | refine st_q rfl rfl rfl ?_ | (refine Z8y ?_; (repeat (first | refine Z9v rfl ?_ | refine Z9w ?_)); refine Z9u ?_) | refine awp_seq ?_ | refine Zbm (fun _ _ => rfl) ?_ | refine Zbn (fun _ _ => rfl) ?_ | refine Z8f (t := false) rfl (fun e => by cases e) (fun _ => ?_)))
        by_cases qk : n.t.kind = 0
        rotate_left
        · (rw [show decide (n.t.kind = 0) = false from decide_eq_false (by omega)])
          (repeat (first | refine st_q rfl rfl rfl ?_ | refine Z8w rfl ?_ | (refine Z8y ?_; (repeat (first | refine Z9v rfl ?_ | refine Z9w ?_)); refine Z9u ?_) | refine Zbn (fun _ _ => rfl) ?_ | refine Z8f (t := false) rfl (fun e => by cases e) (fun _ => ?_)))
          (refine Z9y (keep := [0, 1, 2, 7]) ?_; ((repeat (first | refine Z9v rfl ?_ | refine Z9w ?_)); refine Z9u ?_))
          exact next (by rw [he, decide_eq_false qk]; rfl) _ (HSub.refl _) _
        (rw [show decide (n.t.kind = 0) = true from decide_eq_true (by omega)])
        cases xs with
        | false =>
          (repeat (first | refine st_q rfl rfl rfl ?_ | refine Z8v rfl (st_q rfl rfl rfl ?_) | (refine Z8y ?_; (repeat (first | refine Z9v rfl ?_ | refine Z9w ?_)); refine Z9u ?_) | refine Zbn (fun _ _ => rfl) ?_ | refine Z8f (t := false) rfl (fun e => by cases e) (fun _ => ?_)))
          (refine Z9y (keep := [0, 1, 2, 7]) ?_; ((repeat (first | refine Z9v rfl ?_ | refine Z9w ?_)); refine Z9u ?_))
          exact next (by rw [he, decide_eq_true qk]; rfl) _ (HSub.refl _) _
        | true =>
          (repeat (first | refine st_q rfl rfl rfl ?_ | refine Z8v rfl (st_q rfl rfl rfl ?_) | (refine Z8y ?_; (repeat (first | refine Z9v rfl ?_ | refine Z9w ?_)); refine Z9u ?_) | refine awp_seq ?_ | refine Zbm (fun _ _ => rfl) ?_ | refine Z8f (t := true) rfl (fun _ => ?_) (fun e => by cases e)))
          refine Z9k (by simp [Z0.cells, Z0.one]) fun b11 hb11 => ?_
          refine Z9a rfl Z8z rfl (by decide) (Z0.fit_iff.1 rfl) (fun h => by cases h) Z9b ?_
          (repeat (refine st_q rfl rfl rfl ?_))
          (refine Z8y ?_; (repeat (first | refine Z9v rfl ?_ | refine Z9w ?_)); refine Z9u ?_)
          (repeat (first | refine st_q rfl rfl rfl ?_ | refine awp_seq ?_ | refine Zbm (fun _ _ => rfl) ?_))
          refine Z9k (by simp [Z0.cells, Z0.one]) fun b12 hb12 => ?_
          have hne : b12 ≠ b11 := fun e => hb12 (by rw [e]; simp [Zh])
          refine Z9a rfl Z8z rfl (by decide) (Z0.fit_iff.1 rfl) (fun h => by cases h) Z9b ?_
          (repeat (refine st_q rfl rfl rfl ?_))
          (refine Z8y ?_; (repeat (first | refine Z9v rfl ?_ | refine Z9w ?_)); refine Z9u ?_)
          by_cases g1 : xsum = xc <;> by_cases g2 : xsum = 0
          · rw [if_pos g1, if_pos g2] at hnev2
            (repeat (first | refine st_q rfl rfl rfl ?_ | (refine Z8y ?_; (repeat (first | refine Z9v rfl ?_ | refine Z9w ?_)); refine Z9u ?_) | refine awp_seq ?_ | refine Zbm (fun _ _ => rfl) ?_))
            (rw [show decide (xsum = xc) = true from decide_eq_true (by omega)])
            (repeat (first | refine st_q rfl rfl rfl ?_ | refine Zbm (fun _ _ => rfl) ?_ | refine Z8f (t := true) rfl (fun _ => ?_) (fun e => by cases e)))
            refine Z9a rfl (Z90 hne Z8z) rfl (by decide) (Z0.fit_iff.1 rfl) (fun h => by cases h) (Z9c hne Z9b) ?_
            (repeat (first | refine st_q rfl rfl rfl ?_ | (refine Z8y ?_; (repeat (first | refine Z9v rfl ?_ | refine Z9w ?_)); refine Z9u ?_) | refine awp_seq ?_ | refine Zbm (fun _ _ => rfl) ?_))
            (rw [show decide (xsum = 0) = true from decide_eq_true (by omega)])
            (repeat (first | refine st_q rfl rfl rfl ?_ | refine Zbm (fun _ _ => rfl) ?_ | refine Z8f (t := true) rfl (fun _ => ?_) (fun e => by cases e)))
            refine Z9a rfl Z8z rfl (by decide) (Z0.fit_iff.1 rfl) (fun h => by cases h) Z9b ?_
            (repeat (first | refine st_q rfl rfl rfl ?_ | (refine Z8y ?_; (repeat (first | refine Z9v rfl ?_ | refine Z9w ?_)); refine Z9u ?_) | refine awp_seq ?_ | refine Zbm (fun _ _ => rfl) ?_))
            refine Z93 rfl (by omega) hx ?_
            (repeat refine st_q rfl rfl rfl ?_)
            refine Z93 rfl (by omega) hx ?_
            (repeat refine st_q rfl rfl rfl ?_)
            (repeat (first | refine st_q rfl rfl rfl ?_ | refine Z92 rfl (Z90 hne Z8z) rfl rfl ?_))
            (repeat (first | refine st_q rfl rfl rfl ?_ | refine Z92 rfl Z8z rfl rfl ?_))
            refine Z9t rfl (Z1q.args (by (repeat (first | exact VRle.refl _ | exact Zc5 | refine Zc6 rfl rfl ?_ | refine Zc7 rfl ?_ | refine Zc4 ?_ ?_))) (hnev2 _)) ?_
            cases nb with
            | true =>
              rw [← bad (by rw [he, decide_eq_true qk]; rfl)]
              (repeat (first | refine st_q rfl rfl rfl ?_ | (refine Z8y ?_; (repeat (first | refine Z9v rfl ?_ | refine Z9w ?_)); refine Z9u ?_) | refine awp_seq ?_ | refine Zbm (fun _ _ => rfl) ?_ | refine Z8f (t := true) rfl (fun _ => ?_) (fun e => by cases e)))
              refine Z8d ?_
              exact ares rfl (HSub.of_sublist ((List.sublist_cons_self _ _).trans (List.sublist_cons_self _ _))) ⟨rfl, rfl⟩
            | false =>
              (repeat (first | (refine Z8y ?_; (repeat (first | refine Z9v rfl ?_ | refine Z9w ?_)); refine Z9u ?_) | refine Zbn (fun _ _ => rfl) ?_ | refine Z8f (t := false) rfl (fun e => by cases e) (fun _ => ?_)))
              (refine Z9y (keep := [0, 1, 2, 7]) ?_; ((repeat (first | refine Z9v rfl ?_ | refine Z9w ?_)); refine Z9u ?_))
              exact next (by rw [he, decide_eq_true qk]; rfl) _ (HSub.of_sublist ((List.sublist_cons_self _ _).trans (List.sublist_cons_self _ _))) _
          · rw [if_pos g1, if_neg g2] at hnev2
            (repeat (first | refine st_q rfl rfl rfl ?_ | (refine Z8y ?_; (repeat (first | refine Z9v rfl ?_ | refine Z9w ?_)); refine Z9u ?_) | refine awp_seq ?_ | refine Zbm (fun _ _ => rfl) ?_))
            (rw [show decide (xsum = xc) = true from decide_eq_true (by omega)])
            (repeat (first | refine st_q rfl rfl rfl ?_ | refine Zbm (fun _ _ => rfl) ?_ | refine Z8f (t := true) rfl (fun _ => ?_) (fun e => by cases e)))
            refine Z9a rfl (Z90 hne Z8z) rfl (by decide) (Z0.fit_iff.1 rfl) (fun h => by cases h) (Z9c hne Z9b) ?_
            (repeat (first | refine st_q rfl rfl rfl ?_ | (refine Z8y ?_; (repeat (first | refine Z9v rfl ?_ | refine Z9w ?_)); refine Z9u ?_) | refine awp_seq ?_ | refine Zbm (fun _ _ => rfl) ?_))
            (rw [show decide (xsum = 0) = false from decide_eq_false (by omega)])
            (repeat (first | refine st_q rfl rfl rfl ?_ | refine awp_seq ?_ | refine Zbm (fun _ _ => rfl) ?_ | refine Zbn (fun _ _ => rfl) ?_ | refine Z8f (t := false) rfl (fun e => by cases e) (fun _ => ?_)))
            refine Z93 rfl (by omega) hx ?_
            (repeat refine st_q rfl rfl rfl ?_)
            refine Z93 rfl (by omega) hx ?_
            (repeat refine st_q rfl rfl rfl ?_)
            (repeat (first | refine st_q rfl rfl rfl ?_ | refine Z92 rfl (Z90 hne Z8z) rfl rfl ?_))
            (repeat (first | refine st_q rfl rfl rfl ?_ | refine Z92 rfl Z8z rfl rfl ?_))
            refine Z9t rfl (Z1q.args (by (repeat (first | exact VRle.refl _ | exact Zc5 | refine Zc6 rfl rfl ?_ | refine Zc7 rfl ?_ | refine Zc4 ?_ ?_))) (hnev2 _)) ?_
            cases nb with
            | true =>
              rw [← bad (by rw [he, decide_eq_true qk]; rfl)]
              (repeat (first | refine st_q rfl rfl rfl ?_ | (refine Z8y ?_; (repeat (first | refine Z9v rfl ?_ | refine Z9w ?_)); refine Z9u ?_) | refine awp_seq ?_ | refine Zbm (fun _ _ => rfl) ?_ | refine Z8f (t := true) rfl (fun _ => ?_) (fun e => by cases e)))
              refine Z8d ?_
              exact ares rfl (HSub.of_sublist ((List.sublist_cons_self _ _).trans (List.sublist_cons_self _ _))) ⟨rfl, rfl⟩
            | false =>
              (repeat (first | (refine Z8y ?_; (repeat (first | refine Z9v rfl ?_ | refine Z9w ?_)); refine Z9u ?_) | refine Zbn (fun _ _ => rfl) ?_ | refine Z8f (t := false) rfl (fun e => by cases e) (fun _ => ?_)))
              (refine Z9y (keep := [0, 1, 2, 7]) ?_; ((repeat (first | refine Z9v rfl ?_ | refine Z9w ?_)); refine Z9u ?_))
              exact next (by rw [he, decide_eq_true qk]; rfl) _ (HSub.of_sublist ((List.sublist_cons_self _ _).trans (List.sublist_cons_self _ _))) _
          · rw [if_neg g1, if_pos g2] at hnev2
            (repeat (first | refine st_q rfl rfl rfl ?_ | (refine Z8y ?_; (repeat (first | refine Z9v rfl ?_ | refine Z9w ?_)); refine Z9u ?_) | refine awp_seq ?_ | refine Zbm (fun _ _ => rfl) ?_))
            (rw [show decide (xsum = xc) = false from decide_eq_false (by omega)])
            (repeat (first | refine st_q rfl rfl rfl ?_ | (refine Z8y ?_; (repeat (first | refine Z9v rfl ?_ | refine Z9w ?_)); refine Z9u ?_) | refine awp_seq ?_ | refine Zbm (fun _ _ => rfl) ?_ | refine Zbn (fun _ _ => rfl) ?_ | refine Z8f (t := false) rfl (fun e => by cases e) (fun _ => ?_)))
            (rw [show decide (xsum = 0) = true from decide_eq_true (by omega)])
            (repeat (first | refine st_q rfl rfl rfl ?_ | refine Zbm (fun _ _ => rfl) ?_ | refine Z8f (t := true) rfl (fun _ => ?_) (fun e => by cases e)))
            refine Z9a rfl Z8z rfl (by decide) (Z0.fit_iff.1 rfl) (fun h => by cases h) Z9b ?_
            (repeat (first | refine st_q rfl rfl rfl ?_ | (refine Z8y ?_; (repeat (first | refine Z9v rfl ?_ | refine Z9w ?_)); refine Z9u ?_) | refine awp_seq ?_ | refine Zbm (fun _ _ => rfl) ?_))
            refine Z93 rfl (by omega) hx ?_
            (repeat refine st_q rfl rfl rfl ?_)
            refine Z93 rfl (by omega) hx ?_
            (repeat refine st_q rfl rfl rfl ?_)
            (repeat (first | refine st_q rfl rfl rfl ?_ | refine Z92 rfl (Z90 hne Z8z) rfl rfl ?_))
            (repeat (first | refine st_q rfl rfl rfl ?_ | refine Z92 rfl Z8z rfl rfl ?_))
            refine Z9t rfl (Z1q.args (by (repeat (first | exact VRle.refl _ | exact Zc5 | refine Zc6 rfl rfl ?_ | refine Zc7 rfl ?_ | refine Zc4 ?_ ?_))) (hnev2 _)) ?_
            cases nb with
            | true =>
              rw [← bad (by rw [he, decide_eq_true qk]; rfl)]
              (repeat (first | refine st_q rfl rfl rfl ?_ | (refine Z8y ?_; (repeat (first | refine Z9v rfl ?_ | refine Z9w ?_)); refine Z9u ?_) | refine awp_seq ?_ | refine Zbm (fun _ _ => rfl) ?_ | refine Z8f (t := true) rfl (fun _ => ?_) (fun e => by cases e)))
              refine Z8d ?_
              exact ares rfl (HSub.of_sublist ((List.sublist_cons_self _ _).trans (List.sublist_cons_self _ _))) ⟨rfl, rfl⟩
            | false =>
              (repeat (first | (refine Z8y ?_; (repeat (first | refine Z9v rfl ?_ | refine Z9w ?_)); refine Z9u ?_) | refine Zbn (fun _ _ => rfl) ?_ | refine Z8f (t := false) rfl (fun e => by cases e) (fun _ => ?_)))
              (refine Z9y (keep := [0, 1, 2, 7]) ?_; ((repeat (first | refine Z9v rfl ?_ | refine Z9w ?_)); refine Z9u ?_))
              exact next (by rw [he, decide_eq_true qk]; rfl) _ (HSub.of_sublist ((List.sublist_cons_self _ _).trans (List.sublist_cons_self _ _))) _
          · rw [if_neg g1, if_neg g2] at hnev2
            (repeat (first | refine st_q rfl rfl rfl ?_ | (refine Z8y ?_; (repeat (first | refine Z9v rfl ?_ | refine Z9w ?_)); refine Z9u ?_) | refine awp_seq ?_ | refine Zbm (fun _ _ => rfl) ?_))
            (rw [show decide (xsum = xc) = false from decide_eq_false (by omega)])
            (repeat (first | refine st_q rfl rfl rfl ?_ | (refine Z8y ?_; (repeat (first | refine Z9v rfl ?_ | refine Z9w ?_)); refine Z9u ?_) | refine awp_seq ?_ | refine Zbm (fun _ _ => rfl) ?_ | refine Zbn (fun _ _ => rfl) ?_ | refine Z8f (t := false) rfl (fun e => by cases e) (fun _ => ?_)))
            (rw [show decide (xsum = 0) = false from decide_eq_false (by omega)])
            (repeat (first | refine st_q rfl rfl rfl ?_ | refine awp_seq ?_ | refine Zbm (fun _ _ => rfl) ?_ | refine Zbn (fun _ _ => rfl) ?_ | refine Z8f (t := false) rfl (fun e => by cases e) (fun _ => ?_)))
            refine Z93 rfl (by omega) hx ?_
            (repeat refine st_q rfl rfl rfl ?_)
            refine Z93 rfl (by omega) hx ?_
            (repeat refine st_q rfl rfl rfl ?_)
            (repeat (first | refine st_q rfl rfl rfl ?_ | refine Z92 rfl (Z90 hne Z8z) rfl rfl ?_))
            (repeat (first | refine st_q rfl rfl rfl ?_ | refine Z92 rfl Z8z rfl rfl ?_))
            refine Z9t rfl (Z1q.args (by (repeat (first | exact VRle.refl _ | exact Zc5 | refine Zc6 rfl rfl ?_ | refine Zc7 rfl ?_ | refine Zc4 ?_ ?_))) (hnev2 _)) ?_
            cases nb with
            | true =>
              rw [← bad (by rw [he, decide_eq_true qk]; rfl)]
              (repeat (first | refine st_q rfl rfl rfl ?_ | (refine Z8y ?_; (repeat (first | refine Z9v rfl ?_ | refine Z9w ?_)); refine Z9u ?_) | refine awp_seq ?_ | refine Zbm (fun _ _ => rfl) ?_ | refine Z8f (t := true) rfl (fun _ => ?_) (fun e => by cases e)))
              refine Z8d ?_
              exact ares rfl (HSub.of_sublist ((List.sublist_cons_self _ _).trans (List.sublist_cons_self _ _))) ⟨rfl, rfl⟩
            | false =>
              (repeat (first | (refine Z8y ?_; (repeat (first | refine Z9v rfl ?_ | refine Z9w ?_)); refine Z9u ?_) | refine Zbn (fun _ _ => rfl) ?_ | refine Z8f (t := false) rfl (fun e => by cases e) (fun _ => ?_)))
              (refine Z9y (keep := [0, 1, 2, 7]) ?_; ((repeat (first | refine Z9v rfl ?_ | refine Z9w ?_)); refine Z9u ?_))
              exact next (by rw [he, decide_eq_true qk]; rfl) _ (HSub.of_sublist ((List.sublist_cons_self _ _).trans (List.sublist_cons_self _ _))) _
    | false =>
      (repeat (first | refine st_q rfl rfl rfl ?_ | refine Z8w rfl ?_ | (refine Z8y ?_; (repeat (first | refine Z9v rfl ?_ | refine Z9w ?_)); refine Z9u ?_) | refine awp_seq ?_ | refine Zbm (fun _ _ => rfl) ?_ | refine Zbn (fun _ _ => rfl) ?_ | refine Z8f (t := false) rfl (fun e => by cases e) (fun _ => ?_)))
      by_cases qk : n.t.kind = 0
      rotate_left
      · (rw [show decide (n.t.kind = 0) = false from decide_eq_false (by omega)])
        (repeat (first | refine st_q rfl rfl rfl ?_ | refine Z8w rfl ?_ | (refine Z8y ?_; (repeat (first | refine Z9v rfl ?_ | refine Z9w ?_)); refine Z9u ?_) | refine Zbn (fun _ _ => rfl) ?_ | refine Z8f (t := false) rfl (fun e => by cases e) (fun _ => ?_)))
        (refine Z9y (keep := [0, 1, 2, 7]) ?_; ((repeat (first | refine Z9v rfl ?_ | refine Z9w ?_)); refine Z9u ?_))
        exact next (by rw [he, decide_eq_false qk]; rfl) _ (HSub.refl _) _
      (rw [show decide (n.t.kind = 0) = true from decide_eq_true (by omega)])
      cases xs with
      | false =>
        (repeat (first | refine st_q rfl rfl rfl ?_ | refine Z8v rfl (st_q rfl rfl rfl ?_) | (refine Z8y ?_; (repeat (first | refine Z9v rfl ?_ | refine Z9w ?_)); refine Z9u ?_) | refine Zbn (fun _ _ => rfl) ?_ | refine Z8f (t := false) rfl (fun e => by cases e) (fun _ => ?_)))
        (refine Z9y (keep := [0, 1, 2, 7]) ?_; ((repeat (first | refine Z9v rfl ?_ | refine Z9w ?_)); refine Z9u ?_))
        exact next (by rw [he, decide_eq_true qk]; rfl) _ (HSub.refl _) _
      | true =>
        (repeat (first | refine st_q rfl rfl rfl ?_ | refine Z8v rfl (st_q rfl rfl rfl ?_) | (refine Z8y ?_; (repeat (first | refine Z9v rfl ?_ | refine Z9w ?_)); refine Z9u ?_) | refine awp_seq ?_ | refine Zbm (fun _ _ => rfl) ?_ | refine Z8f (t := true) rfl (fun _ => ?_) (fun e => by cases e)))
        refine Z9k (by simp [Z0.cells, Z0.one]) fun b11 hb11 => ?_
        refine Z9a rfl Z8z rfl (by decide) (Z0.fit_iff.1 rfl) (fun h => by cases h) Z9b ?_
        (repeat (refine st_q rfl rfl rfl ?_))
        (refine Z8y ?_; (repeat (first | refine Z9v rfl ?_ | refine Z9w ?_)); refine Z9u ?_)
        (repeat (first | refine st_q rfl rfl rfl ?_ | refine awp_seq ?_ | refine Zbm (fun _ _ => rfl) ?_))
        refine Z9k (by simp [Z0.cells, Z0.one]) fun b12 hb12 => ?_
        have hne : b12 ≠ b11 := fun e => hb12 (by rw [e]; simp [Zh])
        refine Z9a rfl Z8z rfl (by decide) (Z0.fit_iff.1 rfl) (fun h => by cases h) Z9b ?_
        (repeat (refine st_q rfl rfl rfl ?_))
        (refine Z8y ?_; (repeat (first | refine Z9v rfl ?_ | refine Z9w ?_)); refine Z9u ?_)
        by_cases g1 : xsum = xc <;> by_cases g2 : xsum = 0
        · rw [if_pos g1, if_pos g2] at hnev2
          (repeat (first | refine st_q rfl rfl rfl ?_ | (refine Z8y ?_; (repeat (first | refine Z9v rfl ?_ | refine Z9w ?_)); refine Z9u ?_) | refine awp_seq ?_ | refine Zbm (fun _ _ => rfl) ?_))
          (rw [show decide (xsum = xc) = true from decide_eq_true (by omega)])
          (repeat (first | refine st_q rfl rfl rfl ?_ | refine Zbm (fun _ _ => rfl) ?_ | refine Z8f (t := true) rfl (fun _ => ?_) (fun e => by cases e)))
          refine Z9a rfl (Z90 hne Z8z) rfl (by decide) (Z0.fit_iff.1 rfl) (fun h => by cases h) (Z9c hne Z9b) ?_
          (repeat (first | refine st_q rfl rfl rfl ?_ | (refine Z8y ?_; (repeat (first | refine Z9v rfl ?_ | refine Z9w ?_)); refine Z9u ?_) | refine awp_seq ?_ | refine Zbm (fun _ _ => rfl) ?_))
          (rw [show decide (xsum = 0) = true from decide_eq_true (by omega)])
          (repeat (first | refine st_q rfl rfl rfl ?_ | refine Zbm (fun _ _ => rfl) ?_ | refine Z8f (t := true) rfl (fun _ => ?_) (fun e => by cases e)))
          refine Z9a rfl Z8z rfl (by decide) (Z0.fit_iff.1 rfl) (fun h => by cases h) Z9b ?_
          (repeat (first | refine st_q rfl rfl rfl ?_ | (refine Z8y ?_; (repeat (first | refine Z9v rfl ?_ | refine Z9w ?_)); refine Z9u ?_) | refine awp_seq ?_ | refine Zbm (fun _ _ => rfl) ?_))
          refine Z93 rfl (by omega) hx ?_
          (repeat refine st_q rfl rfl rfl ?_)
          refine Z93 rfl (by omega) hx ?_
          (repeat refine st_q rfl rfl rfl ?_)
          (repeat (first | refine st_q rfl rfl rfl ?_ | refine Z92 rfl (Z90 hne Z8z) rfl rfl ?_))
          (repeat (first | refine st_q rfl rfl rfl ?_ | refine Z92 rfl Z8z rfl rfl ?_))
          refine Z9t rfl (Z1q.args (by (repeat (first | exact VRle.refl _ | exact Zc5 | refine Zc6 rfl rfl ?_ | refine Zc7 rfl ?_ | refine Zc4 ?_ ?_))) (hnev2 _)) ?_
          cases nb with
          | true =>
            rw [← bad (by rw [he, decide_eq_true qk]; rfl)]
            (repeat (first | refine st_q rfl rfl rfl ?_ | (refine Z8y ?_; (repeat (first | refine Z9v rfl ?_ | refine Z9w ?_)); refine Z9u ?_) | refine awp_seq ?_ | refine Zbm (fun _ _ => rfl) ?_ | refine Z8f (t := true) rfl (fun _ => ?_) (fun e => by cases e)))
            refine Z8d ?_
            exact ares rfl (HSub.of_sublist ((List.sublist_cons_self _ _).trans (List.sublist_cons_self _ _))) ⟨rfl, rfl⟩
          | false =>
            (repeat (first | (refine Z8y ?_; (repeat (first | refine Z9v rfl ?_ | refine Z9w ?_)); refine Z9u ?_) | refine Zbn (fun _ _ => rfl) ?_ | refine Z8f (t := false) rfl (fun e => by cases e) (fun _ => ?_)))
            (refine Z9y (keep := [0, 1, 2, 7]) ?_; ((repeat (first | refine Z9v rfl ?_ | refine Z9w ?_)); refine Z9u ?_))
            exact next (by rw [he, decide_eq_true qk]; rfl) _ (HSub.of_sublist ((List.sublist_cons_self _ _).trans (List.sublist_cons_self _ _))) _
        · rw [if_pos g1, if_neg g2] at hnev2
          (repeat (first | refine st_q rfl rfl rfl ?_ | (refine Z8y ?_; (repeat (first | refine Z9v rfl ?_ | refine Z9w ?_)); refine Z9u ?_) | refine awp_seq ?_ | refine Zbm (fun _ _ => rfl) ?_))
          (rw [show decide (xsum = xc) = true from decide_eq_true (by omega)])
          (repeat (first | refine st_q rfl rfl rfl ?_ | refine Zbm (fun _ _ => rfl) ?_ | refine Z8f (t := true) rfl (fun _ => ?_) (fun e => by cases e)))
          refine Z9a rfl (Z90 hne Z8z) rfl (by decide) (Z0.fit_iff.1 rfl) (fun h => by cases h) (Z9c hne Z9b) ?_
          (repeat (first | refine st_q rfl rfl rfl ?_ | (refine Z8y ?_; (repeat (first | refine Z9v rfl ?_ | refine Z9w ?_)); refine Z9u ?_) | refine awp_seq ?_ | refine Zbm (fun _ _ => rfl) ?_))
          (rw [show decide (xsum = 0) = false from decide_eq_false (by omega)])
          (repeat (first | refine st_q rfl rfl rfl ?_ | refine awp_seq ?_ | refine Zbm (fun _ _ => rfl) ?_ | refine Zbn (fun _ _ => rfl) ?_ | refine Z8f (t := false) rfl (fun e => by cases e) (fun _ => ?_)))
          refine Z93 rfl (by omega) hx ?_
          (repeat refine st_q rfl rfl rfl ?_)
          refine Z93 rfl (by omega) hx ?_
          (repeat refine st_q rfl rfl rfl ?_)
          (repeat (first | refine st_q rfl rfl rfl ?_ | refine Z92 rfl (Z90 hne Z8z) rfl rfl ?_))
          (repeat (first | refine st_q rfl rfl rfl ?_ | refine Z92 rfl Z8z rfl rfl ?_))
          refine Z9t rfl (Z1q.args (by (repeat (first | exact VRle.refl _ | exact Zc5 | refine Zc6 rfl rfl ?_ | refine Zc7 rfl ?_ | refine Zc4 ?_ ?_))) (hnev2 _)) ?_
          cases nb with
          | true =>
            rw [← bad (by rw [he, decide_eq_true qk]; rfl)]
            (repeat (first | refine st_q rfl rfl rfl ?_ | (refine Z8y ?_; (repeat (first | refine Z9v rfl ?_ | refine Z9w ?_)); refine Z9u ?_) | refine awp_seq ?_ | refine Zbm (fun _ _ => rfl) ?_ | refine Z8f (t := true) rfl (fun _ => ?_) (fun e => by cases e)))
            refine Z8d ?_
            exact ares rfl (HSub.of_sublist ((List.sublist_cons_self _ _).trans (List.sublist_cons_self _ _))) ⟨rfl, rfl⟩
          | false =>
            (repeat (first | (refine Z8y ?_; (repeat (first | refine Z9v rfl ?_ | refine Z9w ?_)); refine Z9u ?_) | refine Zbn (fun _ _ => rfl) ?_ | refine Z8f (t := false) rfl (fun e => by cases e) (fun _ => ?_)))
            (refine Z9y (keep := [0, 1, 2, 7]) ?_; ((repeat (first | refine Z9v rfl ?_ | refine Z9w ?_)); refine Z9u ?_))
            exact next (by rw [he, decide_eq_true qk]; rfl) _ (HSub.of_sublist ((List.sublist_cons_self _ _).trans (List.sublist_cons_self _ _))) _
        · rw [if_neg g1, if_pos g2] at hnev2
          (repeat (first | refine st_q rfl rfl rfl ?_ | (refine Z8y ?_; (repeat (first | refine Z9v rfl ?_ | refine Z9w ?_)); refine Z9u ?_) | refine awp_seq ?_ | refine Zbm (fun _ _ => rfl) ?_))
          (rw [show decide (xsum = xc) = false from decide_eq_false (by omega)])
          (repeat (first | refine st_q rfl rfl rfl ?_ | (refine Z8y ?_; (repeat (first | refine Z9v rfl ?_ | refine Z9w ?_)); refine Z9u ?_) | refine awp_seq ?_ | refine Zbm (fun _ _ => rfl) ?_ | refine Zbn (fun _ _ => rfl) ?_ | refine Z8f (t := false) rfl (fun e => by cases e) (fun _ => ?_)))
          (rw [show decide (xsum = 0) = true from decide_eq_true (by omega)])
          (repeat (first | refine st_q rfl rfl rfl ?_ | refine Zbm (fun _ _ => rfl) ?_ | refine Z8f (t := true) rfl (fun _ => ?_) (fun e => by cases e)))
          refine Z9a rfl Z8z rfl (by decide) (Z0.fit_iff.1 rfl) (fun h => by cases h) Z9b ?_
          (repeat (first | refine st_q rfl rfl rfl ?_ | (refine Z8y ?_; (repeat (first | refine Z9v rfl ?_ | refine Z9w ?_)); refine Z9u ?_) | refine awp_seq ?_ | refine Zbm (fun _ _ => rfl) ?_))
          refine Z93 rfl (by omega) hx ?_
          (repeat refine st_q rfl rfl rfl ?_)
          refine Z93 rfl (by omega) hx ?_
          (repeat refine st_q rfl rfl rfl ?_)
          (repeat (first | refine st_q rfl rfl rfl ?_ | refine Z92 rfl (Z90 hne Z8z) rfl rfl ?_))
          (repeat (first | refine st_q rfl rfl rfl ?_ | refine Z92 rfl Z8z rfl rfl ?_))
          refine Z9t rfl (Z1q.args (by (repeat (first | exact VRle.refl _ | exact Zc5 | refine Zc6 rfl rfl ?_ | refine Zc7 rfl ?_ | refine Zc4 ?_ ?_))) (hnev2 _)) ?_
          cases nb with
          | true =>
            rw [← bad (by rw [he, decide_eq_true qk]; rfl)]
            (repeat (first | refine st_q rfl rfl rfl ?_ | (refine Z8y ?_; (repeat (first | refine Z9v rfl ?_ | refine Z9w ?_)); refine Z9u ?_) | refine awp_seq ?_ | refine Zbm (fun _ _ => rfl) ?_ | refine Z8f (t := true) rfl (fun _ => ?_) (fun e => by cases e)))
            refine Z8d ?_
            exact ares rfl (HSub.of_sublist ((List.sublist_cons_self _ _).trans (List.sublist_cons_self _ _))) ⟨rfl, rfl⟩
          | false =>
            (repeat (first | (refine Z8y ?_; (repeat (first | refine Z9v rfl ?_ | refine Z9w ?_)); refine Z9u ?_) | refine Zbn (fun _ _ => rfl) ?_ | refine Z8f (t := false) rfl (fun e => by cases e) (fun _ => ?_)))
            (refine Z9y (keep := [0, 1, 2, 7]) ?_; ((repeat (first | refine Z9v rfl ?_ | refine Z9w ?_)); refine Z9u ?_))
            exact next (by rw [he, decide_eq_true qk]; rfl) _ (HSub.of_sublist ((List.sublist_cons_self _ _).trans (List.sublist_cons_self _ _))) _
        · rw [if_neg g1, if_neg g2] at hnev2
          (repeat (first | refine st_q rfl rfl rfl ?_ | (refine Z8y ?_; (repeat (first | refine Z9v rfl ?_ | refine Z9w ?_)); refine Z9u ?_) | refine awp_seq ?_ | refine Zbm (fun _ _ => rfl) ?_))
          (rw [show decide (xsum = xc) = false from decide_eq_false (by omega)])
          (repeat (first | refine st_q rfl rfl rfl ?_ | (refine Z8y ?_; (repeat (first | refine Z9v rfl ?_ | refine Z9w ?_)); refine Z9u ?_) | refine awp_seq ?_ | refine Zbm (fun _ _ => rfl) ?_ | refine Zbn (fun _ _ => rfl) ?_ | refine Z8f (t := false) rfl (fun e => by cases e) (fun _ => ?_)))
          (rw [show decide (xsum = 0) = false from decide_eq_false (by omega)])
          (repeat (first | refine st_q rfl rfl rfl ?_ | refine awp_seq ?_ | refine Zbm (fun _ _ => rfl) ?_ | refine Zbn (fun _ _ => rfl) ?_ | refine Z8f (t := false) rfl (fun e => by cases e) (fun _ => ?_)))
          refine Z93 rfl (by omega) hx ?_
          (repeat refine st_q rfl rfl rfl ?_)
          refine Z93 rfl (by omega) hx ?_
          (repeat refine st_q rfl rfl rfl ?_)
          (repeat (first | refine st_q rfl rfl rfl ?_ | refine Z92 rfl (Z90 hne Z8z) rfl rfl ?_))
          (repeat (first | refine st_q rfl rfl rfl ?_ | refine Z92 rfl Z8z rfl rfl ?_))
          refine Z9t rfl (Z1q.args (by (repeat (first | exact VRle.refl _ | exact Zc5 | refine Zc6 rfl rfl ?_ | refine Zc7 rfl ?_ | refine Zc4 ?_ ?_))) (hnev2 _)) ?_
          cases nb with
          | true =>
            rw [← bad (by rw [he, decide_eq_true qk]; rfl)]
            (repeat (first | refine st_q rfl rfl rfl ?_ | (refine Z8y ?_; (repeat (first | refine Z9v rfl ?_ | refine Z9w ?_)); refine Z9u ?_) | refine awp_seq ?_ | refine Zbm (fun _ _ => rfl) ?_ | refine Z8f (t := true) rfl (fun _ => ?_) (fun e => by cases e)))
            refine Z8d ?_
            exact ares rfl (HSub.of_sublist ((List.sublist_cons_self _ _).trans (List.sublist_cons_self _ _))) ⟨rfl, rfl⟩
          | false =>
            (repeat (first | (refine Z8y ?_; (repeat (first | refine Z9v rfl ?_ | refine Z9w ?_)); refine Z9u ?_) | refine Zbn (fun _ _ => rfl) ?_ | refine Z8f (t := false) rfl (fun e => by cases e) (fun _ => ?_)))
            (refine Z9y (keep := [0, 1, 2, 7]) ?_; ((repeat (first | refine Z9v rfl ?_ | refine Z9w ?_)); refine Z9u ?_))
            exact next (by rw [he, decide_eq_true qk]; rfl) _ (HSub.of_sublist ((List.sublist_cons_self _ _).trans (List.sublist_cons_self _ _))) _
  · (repeat (first | refine st_q rfl rfl rfl ?_ | (refine Z8y ?_; (repeat (first | refine Z9v rfl ?_ | refine Z9w ?_)); refine Z9u ?_) | refine awp_seq ?_ | refine Zbm (fun _ _ => rfl) ?_ | refine Zbo (fun _ _ => rfl) ?_))
    have e : p.drop i = [] := List.drop_eq_nil_of_le (by omega)
    rw [e, List.all_nil] at hM
    rw [← hM]
    refine Z8d ?_
    exact ares rfl (HSub.refl _) ⟨rfl, rfl⟩
end Go.Abs
namespace Go.Abs
open Go Go.Proofs
set_option linter.unusedVariables false
set_option linter.unusedSimpArgs false
theorem Z1p1 {l : List Nd} {t : Tm} {ss : List Stt} {n : Nd} {x z : Stt} (hn : l[t.col.toNat]? = some n) (hx : ss[t.col.toNat]? = some x) (hz : ss[0]? = some z) (hB : n.t.kind = 0 → x.has = false) : mayF l t ss = mayR l t ss := by
  rw [mayF, mayR, hn, hx, hz]
  simp only
  by_cases h7 : t.op = 7
  · rw [if_pos h7, if_pos h7]
    by_cases hc : x.count = z.count <;> cases x.null <;> simp [hc]
  rw [if_neg h7, if_neg h7]
  by_cases h0 : x.count = 0
  · rw [if_pos h0, if_pos h0]
  rw [if_neg h0, if_neg h0]
  by_cases h8 : t.op = 8
  · rw [if_pos h8, if_pos h8]
  rw [if_neg h8, if_neg h8]
  generalize Z17z n.t.kind t.op t.v x.min x.max = a
  generalize Z17z n.t.kind t.op t.v (.mk false (if x.sum = x.count then 1 else 0) 0 [] []) (.mk false (if x.sum = 0 then 0 else 1) 0 [] []) = b
  by_cases hk : n.t.kind = 0
  · rw [hB hk]
    cases x.sums <;> cases a <;> cases b <;> simp [hk]
  · cases x.has <;> cases x.sums <;> cases a <;> cases b <;> simp [hk]
theorem Z1p2 {l : List Nd} {ss : List Stt} (hs : ss.length = l.length) : ∀ (p : List Tm), (∀ t ∈ p, goodF l t.col = true ∧ mayF l t ss = mayR l t ss) → MayF l ss p = p.all fun t => mayR l t ss
  | [], _ => rfl
  | t :: ts, h => by
    obtain ⟨hg, he⟩ := h t (by simp)
    obtain ⟨k0, k1⟩ := Z181 hg
    rw [MayF, List.all_cons, Z1p2 hs ts fun t ht => h t (by simp [ht]), ← he]
    cases hm : mayF l t ss with
    | true => rw [if_neg (by simp)]; simp
    | false => rw [if_pos ⟨hg, by omega, rfl⟩]; simp
end Go.Abs
namespace Go.Abs
open Go Go.Proofs
set_option linter.unusedVariables false
set_option linter.unusedSimpArgs false
set_option maxHeartbeats 4000000
attribute [local irreducible] AWp aops KP
def few25 (p : List Tm) : Bool := if 20 < p.length then false else p.all fun t => decide (fewV 1 t.v ≤ 400)
theorem Z1fq (p : List Tm) (f : Bool) (σ : Zc) : Z1q Try.prog Zd6 [.slc 7 (p.map encM) f] σ fun r σ' => r = .bool (few25 p) ∧ σ' = σ := by
  have hpl : (p.map encM).length = p.length := List.length_map ..
  refine Z8t rfl Z1ey (Nat.le_of_ble_eq_true rfl) ?_
  (repeat (first | refine st_q rfl rfl rfl ?_ | (refine Z8y ?_; (repeat (first | refine Z9v rfl ?_ | refine Z9w ?_)); refine Z9u ?_) | refine awp_seq ?_ | refine Zbm (fun _ _ => rfl) ?_))
  rw [hpl]
  by_cases h20 : 20 < p.length
  · rw [few25, if_pos h20]
    (rw [show decide ((p.length : Int) > 20) = true from decide_eq_true (by omega)])
    (repeat (first | refine st_q rfl rfl rfl ?_ | (refine Z8y ?_; (repeat (first | refine Z9v rfl ?_ | refine Z9w ?_)); refine Z9u ?_) | refine awp_seq ?_ | refine Zbm (fun _ _ => rfl) ?_ | refine Z8f (t := true) rfl (fun _ => ?_) (fun e => by cases e)))
    refine Z8d ?_
    exact ares rfl (HSub.refl _) ⟨rfl, rfl⟩
  rw [few25, if_neg h20]
  (rw [show decide ((p.length : Int) > 20) = false from decide_eq_false (by omega)])
  (repeat (first | refine st_q rfl rfl rfl ?_ | (refine Z8y ?_; (repeat (first | refine Z9v rfl ?_ | refine Z9w ?_)); refine Z9u ?_) | refine awp_seq ?_ | refine Zbm (fun _ _ => rfl) ?_ | refine Z8h ?_ | refine Zbn (fun _ _ => rfl) ?_ | refine Z8f (t := false) rfl (fun e => by cases e) (fun _ => ?_)))
  generalize hX : (p.all fun t => decide (fewV 1 t.v ≤ 400)) = X
  refine Zaa (fun m F σ' => ∃ i : Nat, F = fset 0 (some (.slc 7 (p.map encM) f)) (fset 3 (some (.int .i64 i)) Z27) ∧ σ = σ' ∧ i ≤ p.length ∧ m = p.length - i ∧ ((p.drop i).all fun t => decide (fewV 1 t.v ≤ 400)) = X) (n := p.length)
    ⟨0, rfl, rfl, by omega, by omega, by rw [List.drop_zero]; exact hX⟩ ?_
  rintro m F σ' ⟨i, rfl, rfl, hi, rfl, hM⟩
  (repeat (first | refine st_q rfl rfl rfl ?_ | (refine Z8y ?_; (repeat (first | refine Z9v rfl ?_ | refine Z9w ?_)); refine Z9u ?_) | refine awp_seq ?_ | refine Zbm (fun _ _ => rfl) ?_))
  rw [hpl]
  refine Za3 (p := (i : Int) < (p.length : Int)) rfl (fun h3 => ?_) (fun h3 => ?_)
  · have hil : i < p.length := by omega
    have hx := Z187 (i := (i : Int)) (show p[(i : Int).toNat]? = some p[i] from List.getElem?_eq_getElem hil)
    rw [List.drop_eq_getElem_cons hil, List.all_cons] at hM
    generalize p[i] = t at hx hM
    have hc := fun τ => Z1fk t.v τ
    rw [Zm7] at hc
    obtain ⟨tc, op, tv⟩ := t
    simp only at *
    rw [encM, Z17q, Zm6] at hx
    simp only at hx
    (repeat (first | refine st_q rfl rfl rfl ?_ | refine awp_seq ?_ | refine Zbm (fun _ _ => rfl) ?_ | refine Z8h ?_ | refine Zbn (fun _ _ => rfl) ?_))
    refine Z93 rfl (by omega) hx ?_
    (repeat refine st_q rfl rfl rfl ?_)
    refine Z9t rfl (hc _) ?_
    by_cases hf : fewV 1 tv ≤ 400
    · rw [decide_eq_true hf, Bool.true_and] at hM
      rw [decide_eq_true hf]
      (repeat (first | refine st_q rfl rfl rfl ?_ | (refine Z8y ?_; (repeat (first | refine Z9v rfl ?_ | refine Z9w ?_)); refine Z9u ?_) | refine Zbn (fun _ _ => rfl) ?_ | refine Z8f (t := false) rfl (fun e => by cases e) (fun _ => ?_)))
      refine awp_region ?_
      (repeat (refine st_q rfl rfl rfl ?_))
      rw [show IntKind.wrap .i64 ((i : Int) + 1) = ((i + 1 : Nat) : Int) by rw [w64 _ (by omega) (by omega)]; omega]
      (repeat (refine st_q rfl rfl rfl ?_))
      refine Z8y ?_
      refine Zac (keep := [0, 3]) ?_
      ((repeat (first | refine Z9v rfl ?_ | refine Z9w ?_)); refine Z9u ?_)
      exact ⟨_, _, HSub.refl _, ⟨i + 1, rfl, rfl, by omega, rfl, hM⟩, by omega⟩
    · rw [decide_eq_false hf, Bool.false_and] at hM
      rw [decide_eq_false hf, ← hM]
      (repeat (first | refine st_q rfl rfl rfl ?_ | (refine Z8y ?_; (repeat (first | refine Z9v rfl ?_ | refine Z9w ?_)); refine Z9u ?_) | refine awp_seq ?_ | refine Zbm (fun _ _ => rfl) ?_ | refine Z8f (t := true) rfl (fun _ => ?_) (fun e => by cases e)))
      refine Z8d ?_
      exact ares rfl (HSub.refl _) ⟨rfl, rfl⟩
  · (repeat (first | refine st_q rfl rfl rfl ?_ | (refine Z8y ?_; (repeat (first | refine Z9v rfl ?_ | refine Z9w ?_)); refine Z9u ?_) | refine awp_seq ?_ | refine Zbm (fun _ _ => rfl) ?_ | refine Zbo (fun _ _ => rfl) ?_))
    have e : p.drop i = [] := List.drop_eq_nil_of_le (by omega)
    rw [e, List.all_nil] at hM
    rw [← hM]
    refine Z8d ?_
    exact ares rfl (HSub.refl _) ⟨rfl, rfl⟩
def okR (l : List Nd) (t : Tm) : Bool :=
  goodF l t.col && (decide (1 ≤ t.op ∧ t.op ≤ 8) && (!t.v.null && (if 7 ≤ t.op then Z1az t.v vl0 else match l[t.col.toNat]? with | none => false | some n => decide (vchk n.t t.v = 0))))
def Z1fr (l : List Nd) (p : List Tm) : Nat := if 16 < p.length then 1 else if p.all (okR l) = true then 0 else 1
theorem Z1fs (l : List Nd) (hw : WfN l) (hok : ∀ n ∈ l, n.t.Ok) (f e : Bool) (p : List Tm) (hfit : ∀ t ∈ p, t.v.Fit) (σ : Zc) :
    Z1q Try.prog Zd8 [.slc 9 (l.map encR) f, .slc 7 (p.map encM) e] σ fun r σ' => r = .int .i64 (Z1fr l p : Int) ∧ σ' = σ := by
  have hpl : (p.map encM).length = p.length := List.length_map ..
  refine Z8t rfl Z1f5 (Nat.le_of_ble_eq_true rfl) ?_
  (repeat (first | refine st_q rfl rfl rfl ?_ | (refine Z8y ?_; (repeat (first | refine Z9v rfl ?_ | refine Z9w ?_)); refine Z9u ?_) | refine awp_seq ?_ | refine Zbm (fun _ _ => rfl) ?_))
  rw [hpl]
  by_cases h16 : 16 < p.length
  · rw [Z1fr, if_pos h16]
    (rw [show decide ((p.length : Int) > 16) = true from decide_eq_true (by omega)])
    (repeat (first | refine st_q rfl rfl rfl ?_ | (refine Z8y ?_; (repeat (first | refine Z9v rfl ?_ | refine Z9w ?_)); refine Z9u ?_) | refine awp_seq ?_ | refine Zbm (fun _ _ => rfl) ?_ | refine Z8f (t := true) rfl (fun _ => ?_) (fun e => by cases e)))
    refine Z8d ?_
    exact ares rfl (HSub.refl _) ⟨rfl, rfl⟩
  rw [Z1fr, if_neg h16]
  (rw [show decide ((p.length : Int) > 16) = false from decide_eq_false (by omega)])
  (repeat (first | refine st_q rfl rfl rfl ?_ | (refine Z8y ?_; (repeat (first | refine Z9v rfl ?_ | refine Z9w ?_)); refine Z9u ?_) | refine awp_seq ?_ | refine Zbm (fun _ _ => rfl) ?_ | refine Z8h ?_ | refine Zbn (fun _ _ => rfl) ?_ | refine Z8f (t := false) rfl (fun e => by cases e) (fun _ => ?_)))
  generalize hX : (if p.all (okR l) = true then 0 else 1 : Nat) = X
  obtain ⟨I, hI⟩ : ∃ I : Nat → Z26 → Zc → Prop, I = fun m F σ' => ∃ i : Nat, F = fset 0 (some (.slc 9 (l.map encR) f)) (fset 1 (some (.slc 7 (p.map encM) e)) (fset 5 (some (.int .i64 i)) Z27)) ∧ σ = σ' ∧ i ≤ p.length ∧ m = p.length - i ∧ (if (p.drop i).all (okR l) = true then 0 else 1 : Nat) = X := ⟨_, rfl⟩
  refine Zaa I (n := p.length) (by rw [hI]; exact ⟨0, rfl, rfl, by omega, by omega, by rw [List.drop_zero]; exact hX⟩) ?_
  intro m F σ' hIm
  rw [hI] at hIm
  obtain ⟨i, rfl, rfl, hi, rfl, hM⟩ := hIm
  (repeat (first | refine st_q rfl rfl rfl ?_ | (refine Z8y ?_; (repeat (first | refine Z9v rfl ?_ | refine Z9w ?_)); refine Z9u ?_) | refine awp_seq ?_ | refine Zbm (fun _ _ => rfl) ?_))
  rw [hpl]
  refine Za3 (p := (i : Int) < (p.length : Int)) rfl (fun h3 => ?_) (fun h3 => ?_)
  · have hil : i < p.length := by omega
    have hx := Z187 (i := (i : Int)) (show p[(i : Int).toNat]? = some p[i] from List.getElem?_eq_getElem hil)
    have hft := hfit p[i] (List.getElem_mem hil)
    rw [List.drop_eq_getElem_cons hil, List.all_cons] at hM
    generalize p[i] = t at hx hM hft
    have hgd := fun τ => Z1fo l hw f t.col τ
    have hsm := fun τ => Z1b3 t.v hft vl0 τ
    simp only [Zm7] at hsm
    obtain ⟨tc, op, tv⟩ := t
    simp only at *
    rw [encM, Z17q, Zm6] at hx
    simp only at hx
    have next : okR l ⟨tc, op, tv⟩ = true → ∀ Q : Z87, AWp Try.prog Z1ek.n (.region Z1eh [0, 1, 5]) (Za9 I (p.length - i) Q)
        (fset 0 (some (.slc 9 (l.map encR) f)) (fset 1 (some (.slc 7 (p.map encM) e)) (fset 5 (some (.int .i64 i)) Z27))) σ := fun ho Q => by
      rw [ho, Bool.true_and] at hM
      refine Zbp ?_
      (repeat (refine st_q rfl rfl rfl ?_))
      rw [show IntKind.wrap .i64 ((i : Int) + 1) = ((i + 1 : Nat) : Int) by rw [w64 _ (by omega) (by omega)]; omega]
      (repeat (refine st_q rfl rfl rfl ?_))
      (refine Z8y ?_; (repeat (first | refine Z9v rfl ?_ | refine Z9w ?_)); refine Z9u ?_)
      refine ⟨_, p.length - (i + 1), HSub.refl _, ?_, by omega⟩
      rw [hI]
      exact ⟨i + 1, rfl, rfl, by omega, rfl, hM⟩
    have bad : okR l ⟨tc, op, tv⟩ = false → 1 = X := fun h => by
      rw [h, Bool.false_and, if_neg (by simp)] at hM
      exact hM
    (repeat (first | refine st_q rfl rfl rfl ?_ | refine awp_seq ?_ | refine Zbm (fun _ _ => rfl) ?_ | refine Z8h ?_ | refine Zbn (fun _ _ => rfl) ?_))
    refine Z93 rfl (by omega) hx ?_
    (repeat refine st_q rfl rfl rfl ?_)
    refine Z9t rfl (hgd _) ?_
    cases hgc : goodF l tc with
    | false =>
      rw [← bad (by rw [okR]; simp only [hgc, Bool.false_and])]
      (repeat (first | refine st_q rfl rfl rfl ?_ | refine Z8w rfl ?_ | (refine Z8y ?_; (repeat (first | refine Z9v rfl ?_ | refine Z9w ?_)); refine Z9u ?_) | refine awp_seq ?_ | refine Zbm (fun _ _ => rfl) ?_ | refine Z8f (t := true) rfl (fun _ => ?_) (fun e => by cases e)))
      refine Z8d ?_
      exact ares rfl (HSub.refl _) ⟨rfl, rfl⟩
    | true =>
    obtain ⟨k0, k1⟩ := Z181 hgc
    obtain ⟨n, hn⟩ : ∃ n, l[tc.toNat]? = some n := ⟨_, List.getElem?_eq_getElem (by omega)⟩
    have hchk := fun τ => Ztz tv hft n.t (hok n (List.mem_of_getElem? hn)) τ
    simp only [Zm7, Zlp] at hchk
    have hom : okR l ⟨tc, op, tv⟩ = (decide (1 ≤ op ∧ op ≤ 8) && (!tv.null && (if 7 ≤ op then Z1az tv vl0 else decide (vchk n.t tv = 0)))) := by
      rw [okR]
      simp only [hgc, hn, Bool.true_and]
    (repeat (first | refine st_q rfl rfl rfl ?_ | refine Z8v rfl (st_q rfl rfl rfl ?_)))
    refine Z8v rfl (Z93 rfl (by omega) hx ?_)
    (repeat (first | refine st_q rfl rfl rfl ?_ | refine Z8v rfl (st_q rfl rfl rfl ?_)))
    by_cases q1 : op < 1
    · rw [← bad (by rw [hom, decide_eq_false (by omega), Bool.false_and])]
      (rw [show decide (op < 1) = true from decide_eq_true (by omega)])
      (repeat (first | refine st_q rfl rfl rfl ?_ | refine Z8w rfl ?_ | (refine Z8y ?_; (repeat (first | refine Z9v rfl ?_ | refine Z9w ?_)); refine Z9u ?_) | refine awp_seq ?_ | refine Zbm (fun _ _ => rfl) ?_ | refine Z8f (t := true) rfl (fun _ => ?_) (fun e => by cases e)))
      refine Z8d ?_
      exact ares rfl (HSub.refl _) ⟨rfl, rfl⟩
    (rw [show decide (op < 1) = false from decide_eq_false (by omega)])
    (repeat refine Z8v rfl (st_q rfl rfl rfl ?_))
    refine Z8v rfl (Z93 rfl (by omega) hx ?_)
    (repeat (first | refine st_q rfl rfl rfl ?_ | refine Z8v rfl (st_q rfl rfl rfl ?_) | (refine Z8y ?_; (repeat (first | refine Z9v rfl ?_ | refine Z9w ?_)); refine Z9u ?_)))
    by_cases q2 : op > 8
    · rw [← bad (by rw [hom, decide_eq_false (by omega), Bool.false_and])]
      (rw [show decide (op > 8) = true from decide_eq_true (by omega)])
      (repeat (first | refine st_q rfl rfl rfl ?_ | (refine Z8y ?_; (repeat (first | refine Z9v rfl ?_ | refine Z9w ?_)); refine Z9u ?_) | refine awp_seq ?_ | refine Zbm (fun _ _ => rfl) ?_ | refine Z8f (t := true) rfl (fun _ => ?_) (fun e => by cases e)))
      refine Z8d ?_
      exact ares rfl (HSub.refl _) ⟨rfl, rfl⟩
    (rw [show decide (op > 8) = false from decide_eq_false (by omega)])
    rw [decide_eq_true (by omega), Bool.true_and] at hom
    (repeat (first | refine st_q rfl rfl rfl ?_ | refine awp_seq ?_ | refine Zbm (fun _ _ => rfl) ?_ | refine Zbn (fun _ _ => rfl) ?_ | refine Z8f (t := false) rfl (fun e => by cases e) (fun _ => ?_)))
    refine Z93 rfl (by omega) hx ?_
    (repeat refine st_q rfl rfl rfl ?_)
    refine Z9k (by simp [Z0.cells, Z0.one]) fun b hb => ?_
    refine Z9a rfl Z8z rfl (by decide) (Z0.fit_iff.1 rfl) (fun h => by cases h) Z9b ?_
    (repeat (refine st_q rfl rfl rfl ?_))
    (refine Z8y ?_; (repeat (first | refine Z9v rfl ?_ | refine Z9w ?_)); refine Z9u ?_)
    refine Zb3 (d := 6) (cs := Zm6 tv) rfl ?_
    (refine Z9y (keep := [0, 1, 5, 6]) ?_; ((repeat (first | refine Z9v rfl ?_ | refine Z9w ?_)); refine Z9u ?_))
    (repeat (first | refine st_q rfl rfl rfl ?_ | refine awp_seq ?_ | refine Zbm (fun _ _ => rfl) ?_))
    refine Z93 rfl (by omega) hx ?_
    (repeat (first | refine st_q rfl rfl rfl ?_ | (refine Z8y ?_; (repeat (first | refine Z9v rfl ?_ | refine Z9w ?_)); refine Z9u ?_)))
    by_cases q7 : op ≥ 7
    · rw [if_pos q7] at hom
      (rw [show decide (op ≥ 7) = true from decide_eq_true (by omega)])
      (repeat (first | refine st_q rfl rfl rfl ?_ | refine awp_seq ?_ | refine Zbm (fun _ _ => rfl) ?_ | refine Z8f (t := true) rfl (fun _ => ?_) (fun e => by cases e)))
      cases hvn : tv.null with
      | true =>
        rw [hvn] at hom
        rw [← bad (by rw [hom]; rfl)]
        (repeat (first | refine st_q rfl rfl rfl ?_ | refine Z8w rfl ?_ | (refine Z8y ?_; (repeat (first | refine Z9v rfl ?_ | refine Z9w ?_)); refine Z9u ?_) | refine awp_seq ?_ | refine Zbm (fun _ _ => rfl) ?_ | refine Z8f (t := true) rfl (fun _ => ?_) (fun e => by cases e)))
        refine Z8d ?_
        exact ares rfl (HSub.refl _) ⟨rfl, rfl⟩
      | false =>
        rw [hvn] at hom
        (repeat refine Z8v rfl (st_q rfl rfl rfl ?_))
        refine Z8v rfl (Z9t rfl (Z1q.args (by (repeat (first | exact VRle.refl _ | exact Zc5 | refine Zc6 rfl rfl ?_ | refine Zc7 rfl ?_ | refine Zc4 ?_ ?_))) (hsm _)) ?_)
        cases hs : Z1az tv vl0 with
        | true =>
          (repeat (first | refine st_q rfl rfl rfl ?_ | refine Z8v rfl (st_q rfl rfl rfl ?_) | (refine Z8y ?_; (repeat (first | refine Z9v rfl ?_ | refine Z9w ?_)); refine Z9u ?_) | refine Zbn (fun _ _ => rfl) ?_ | refine Zbo (fun _ _ => rfl) ?_ | refine Z8f (t := false) rfl (fun e => by cases e) (fun _ => ?_)))
          (refine Z9y (keep := [0, 1, 5]) ?_; ((repeat (first | refine Z9v rfl ?_ | refine Z9w ?_)); refine Z9u ?_))
          exact next (by rw [hom, hs]; rfl) _
        | false =>
          rw [← bad (by rw [hom, hs]; rfl)]
          (repeat (first | refine st_q rfl rfl rfl ?_ | refine Z8v rfl (st_q rfl rfl rfl ?_) | (refine Z8y ?_; (repeat (first | refine Z9v rfl ?_ | refine Z9w ?_)); refine Z9u ?_) | refine awp_seq ?_ | refine Zbm (fun _ _ => rfl) ?_ | refine Z8f (t := true) rfl (fun _ => ?_) (fun e => by cases e)))
          refine Z8d ?_
          exact ares rfl (HSub.refl _) ⟨rfl, rfl⟩
    rw [if_neg q7] at hom
    (rw [show decide (op ≥ 7) = false from decide_eq_false (by omega)])
    (repeat (first | refine st_q rfl rfl rfl ?_ | refine awp_seq ?_ | refine Zbm (fun _ _ => rfl) ?_ | refine Zbn (fun _ _ => rfl) ?_ | refine Z8f (t := false) rfl (fun e => by cases e) (fun _ => ?_)))
    cases hvn : tv.null with
    | true =>
      rw [hvn] at hom
      rw [← bad (by rw [hom]; rfl)]
      (repeat (first | refine st_q rfl rfl rfl ?_ | refine Z8w rfl ?_ | (refine Z8y ?_; (repeat (first | refine Z9v rfl ?_ | refine Z9w ?_)); refine Z9u ?_) | refine awp_seq ?_ | refine Zbm (fun _ _ => rfl) ?_ | refine Z8f (t := true) rfl (fun _ => ?_) (fun e => by cases e)))
      refine Z8d ?_
      exact ares rfl (HSub.refl _) ⟨rfl, rfl⟩
    | false =>
      rw [hvn] at hom
      (repeat refine Z8v rfl (st_q rfl rfl rfl ?_))
      refine Z8v rfl (Z93 rfl (by omega) hx ?_)
      (repeat refine Z8v rfl (st_q rfl rfl rfl ?_))
      refine Z8v rfl (Z93 rfl k0 (Z1fm hn) ?_)
      rw [encR, Zm3]
      (repeat refine Z8v rfl (st_q rfl rfl rfl ?_))
      refine Z8v rfl (Z9t rfl (hchk _) ?_)
      (repeat (first | refine st_q rfl rfl rfl ?_ | refine Z8v rfl (st_q rfl rfl rfl ?_) | (refine Z8y ?_; (repeat (first | refine Z9v rfl ?_ | refine Z9w ?_)); refine Z9u ?_)))
      by_cases hv0 : vchk n.t tv = 0
      · (rw [show decide ((vchk n.t tv : Int) ≠ 0) = false from decide_eq_false (by omega)])
        (repeat (first | refine Zbn (fun _ _ => rfl) ?_ | refine Z8f (t := false) rfl (fun e => by cases e) (fun _ => ?_)))
        (refine Z9y (keep := [0, 1, 5]) ?_; ((repeat (first | refine Z9v rfl ?_ | refine Z9w ?_)); refine Z9u ?_))
        exact next (by rw [hom, decide_eq_true hv0]; rfl) _
      · (rw [show decide ((vchk n.t tv : Int) ≠ 0) = true from decide_eq_true (by omega)])
        rw [← bad (by rw [hom, decide_eq_false hv0]; rfl)]
        (repeat (first | refine st_q rfl rfl rfl ?_ | (refine Z8y ?_; (repeat (first | refine Z9v rfl ?_ | refine Z9w ?_)); refine Z9u ?_) | refine awp_seq ?_ | refine Zbm (fun _ _ => rfl) ?_ | refine Z8f (t := true) rfl (fun _ => ?_) (fun e => by cases e)))
        refine Z8d ?_
        exact ares rfl (HSub.refl _) ⟨rfl, rfl⟩
  · (repeat (first | refine st_q rfl rfl rfl ?_ | (refine Z8y ?_; (repeat (first | refine Z9v rfl ?_ | refine Z9w ?_)); refine Z9u ?_) | refine awp_seq ?_ | refine Zbm (fun _ _ => rfl) ?_ | refine Zbo (fun _ _ => rfl) ?_))
    have e : p.drop i = [] := List.drop_eq_nil_of_le (by omega)
    rw [e, List.all_nil, if_pos rfl] at hM
    rw [← hM]
    refine Z8d ?_
    exact ares rfl (HSub.refl _) ⟨rfl, rfl⟩
end Go.Abs
namespace Go.Abs
open Go Go.Proofs
set_option linter.unusedVariables false
set_option linter.unusedSimpArgs false
set_option maxHeartbeats 4000000
attribute [local irreducible] AWp aops KP
theorem Znj : ∀ (t : Ty), t.Small → ∀ (v : Z0) (xs : List Z0) (β : Zc) (parent : Int) (deep : Nat) (σ : Zc), Zbr 8 v xs β → xs.length + cnt t ≤ 1000 → deep + cnt t ≤ 1000 →
    Z1q Try.prog Ze4 [v, encT t, .int .i64 parent, .int .i64 (deep : Int)] (β ++ σ) fun r σ' => ∃ β', Zbr 8 r (xs ++ (Zlz xs.length parent deep t).map encN) β' ∧ σ' = β' ++ σ := by
  refine Ty.ind fun k ns ks l p s ih hsmall v xs β parent deep σ ho hx hd => ?_
  cases hsmall with
  | mk hk1 hn1 hn4 hkids =>
  simp only [encT, Ty.kind, Ty.names, Ty.kids, Ty.len, Ty.prec, Ty.scale] at *
  have hlenks := Znc ks
  refine Z8t rfl Zld (Nat.le_of_ble_eq_true rfl) ?_
  refine Z9z ?_
  refine Z9j rfl (Z0.fit_iff.1 rfl) fun pb hpb => ?_
  (repeat (refine st_q rfl rfl rfl ?_))
  (refine Z8y ?_; (repeat (first | refine Z9v rfl ?_ | refine Z9w ?_)); refine Z9u ?_)
  refine Zb3 (d := 5) (cs := [.int .i64 k, .slc 1 (ns.map .str) false, .slc 6 (Zln ks) false, .int .i64 l, .int .i64 p, .int .i64 s]) rfl ?_
  refine Z9z ?_
  refine st_q rfl rfl rfl ?_
  refine Zas rfl ho.lens ?_
  (repeat (refine st_q rfl rfl rfl ?_))
  (refine Z8y ?_; (repeat (first | refine Z9v rfl ?_ | refine Z9w ?_)); refine Z9u ?_)
  refine Z9z ?_
  (repeat (refine st_q rfl rfl rfl ?_))
  refine Zbw rfl (Znb _ _ (Zni ns) (by rw [List.length_map]; omega)) ?_
  refine Zbw rfl (Zn5 _ _) ?_
  (repeat (refine st_q rfl rfl rfl ?_))
  refine Zbs (ys := [.agg [.int .i64 k, .slc 0 [] true, .slc 1 (ns.map .str) true, .int .i64 l, .int .i64 p, .int .i64 s, .int .i64 parent, .int .i64 (deep : Int)]]) ho rfl rfl (by simp only [List.length_cons, List.length_nil]; omega) fun b1 hb1 => ?_
  (repeat (first | refine st_q rfl rfl rfl ?_ | (refine Z8y ?_; (repeat (first | refine Z9v rfl ?_ | refine Z9w ?_)); refine Z9u ?_) | refine awp_seq ?_ | refine Zbm (fun _ _ => rfl) ?_ | refine Z8h ?_))
  rw [Zlr]
  obtain ⟨x0, hx0⟩ : ∃ x0, x0 = Z0.agg [.int .i64 k, .slc 0 [] true, .slc 1 (ns.map .str) true, .int .i64 l, .int .i64 p, .int .i64 s, .int .i64 parent, .int .i64 (deep : Int)] := ⟨_, rfl⟩
  rw [← hx0]
  refine Zaa (fun m F σ' => ∃ (i b : Nat) (vk : Z0) (βk : Zc) (R : List Z0), F = fset 0 (some (.arr 8 b 0 R.length)) (fset 3 (some (.int .i64 (deep : Int))) (fset 9 (some (.int .i64 (xs.length : Int))) (fset 10 (some vk) (fset 34 (some (.slc 6 (Zln ks) false)) (fset 35 (some (.int .i64 (ks.length : Int))) (fset 36 (some (.int .i64 (i : Int))) Z27)))))) ∧
    σ' = (b, .cells 8 R) :: (βk ++ σ) ∧ R = xs ++ x0 :: (Zm0 (xs.length + 1) (xs.length : Int) (deep + 1) (ks.take i)).map encN ∧ Zbr 1 vk (ints (Zly (xs.length + 1) (ks.take i))) βk ∧ i ≤ ks.length ∧ m = ks.length - i) (n := ks.length)
    ⟨0, b1, _, [], _, rfl, rfl, rfl, Zbr.nil 1 0, by omega, rfl⟩ ?_
  rintro m F σ' ⟨i, b, vk, βk, R, rfl, rfl, hR, hok, hi, rfl⟩
  have hRl : R.length = xs.length + 1 + cntL (ks.take i) := by rw [hR]; simp [Zng]; omega
  (repeat (first | refine st_q rfl rfl rfl ?_ | (refine Z8y ?_; (repeat (first | refine Z9v rfl ?_ | refine Z9w ?_)); refine Z9u ?_) | refine awp_seq ?_ | refine Zbm (fun _ _ => rfl) ?_))
  refine Za3 (p := (i : Int) < (ks.length : Int)) rfl (fun h3 => ?_) (fun h3 => ?_)
  · have hil : i < ks.length := by omega
    have Zd : ks[i]? = some ks[i] := List.getElem?_eq_getElem hil
    have hx' : (Zln ks)[(i : Int).toNat]? = some (encT ks[i]) := Zls (by rw [Int.toNat_natCast, Zd])
    have hcn := Znh ks i _ Zd
    have hkl := Zne ks (xs.length + 1) i _ Zd
    have hfl := Znf ks (xs.length + 1) i (xs.length : Int) (deep + 1) _ Zd
    simp only [cnt] at hx hd
    (repeat (first | refine awp_seq ?_ | refine Zbm (fun _ _ => rfl) ?_ | refine Z8h ?_ | refine Zbn (fun _ _ => rfl) ?_))
    refine Z93 rfl (by omega) hx' ?_
    rw [Zlp]
    (repeat refine st_q rfl rfl rfl ?_)
    refine Z9k (by simp [Z0.cells, Z0.one]) fun vb hvb => ?_
    refine Z9a rfl Z8z rfl (by decide) (Z0.fit_iff.1 rfl) (fun h => by cases h) Z9b ?_
    (refine Z8y ?_; (repeat (first | refine Z9v rfl ?_ | refine Z9w ?_)); refine Z9u ?_)
    refine Zb3 (d := 12) (cs := Zlo ks[i]) rfl ?_
    refine Zb4 (β := [(b, .cells 8 R)]) (γ := βk) ?_
    refine awp_seq ?_
    refine Zbm (fun _ _ => rfl) ?_
    (repeat (refine st_q rfl rfl rfl ?_))
    refine Zbs (ys := [.int .i64 (R.length : Int)]) hok rfl rfl (by
      simp only [List.length_cons, List.length_nil, ints, List.length_map]
      have : ∀ (l : List Ty) (a : Nat), (Zly a l).length = l.length := by
        intro l; induction l with
        | nil => intro a; rfl
        | cons t l ih => intro a; simp [Zly, ih]
      rw [this, List.length_take]; omega) fun b2 hb2 => ?_
    (repeat (refine st_q rfl rfl rfl ?_))
    (refine Z8y ?_; (repeat (first | refine Z9v rfl ?_ | refine Z9w ?_)); refine Z9u ?_)
    refine Zb4 (β := [(b2, .cells 1 _)]) (γ := [(b, .cells 8 R)]) ?_
    refine Zbm (fun _ _ => rfl) ?_
    (repeat (refine st_q rfl rfl rfl ?_))
    rw [show IntKind.wrap .i64 ((deep : Int) + 1) = ((deep + 1 : Nat) : Int) by rw [w64 _ (by omega) (by omega)]; omega]
    have hcw := ih ks[i] (List.getElem_mem hil) (hkids _ (List.getElem_mem hil)) (.arr 8 b 0 R.length) R [(b, .cells 8 R)] (xs.length : Int) (deep + 1) ([(b2, .cells 1 (ints (Zly (xs.length + 1) (ks.take i)) ++ [.int .i64 (R.length : Int)]))] ++ σ) Zbr.mk (by omega) (by omega)
    rw [Zlp] at hcw
    refine Z9s rfl hcw ?_ ?_
    · obtain ⟨gv, gβ, hgr⟩ := Zbr.ex 8 (R ++ (Zlz R.length (xs.length : Int) (deep + 1) ks[i]).map encN)
      exact ⟨_, _, gβ, hgr, rfl⟩
    rintro r2 _ ⟨β2, ho2, rfl⟩
    obtain ⟨b3, rfl, rfl⟩ := ho2.arr (by rw [hR]; simp)
    (repeat (refine st_q rfl rfl rfl ?_))
    (refine Z8y ?_; (repeat (first | refine Z9v rfl ?_ | refine Z9w ?_)); refine Z9u ?_)
    refine Zbp ?_
    (repeat (refine st_q rfl rfl rfl ?_))
    rw [show IntKind.wrap .i64 ((i : Int) + 1) = ((i + 1 : Nat) : Int) by rw [w64 _ (by omega) (by omega)]; omega]
    (refine Z8y ?_; (repeat (first | refine Z9v rfl ?_ | refine Z9w ?_)); refine Z9u ?_)
    refine ⟨_, ks.length - (i + 1), HSub.refl _, ⟨i + 1, b3, _, _, _, rfl, rfl, ?_, ?_, by omega, rfl⟩, by omega⟩
    · rw [hfl, hRl, hR]; simp
    · rw [hkl]
      have e : ints (Zly (xs.length + 1) (ks.take i) ++ [xs.length + 1 + cntL (ks.take i)]) = ints (Zly (xs.length + 1) (ks.take i)) ++ [.int .i64 (R.length : Int)] := by
        rw [hRl]; simp [ints]
      rw [e]
      exact Zbr.mk
  · have hie : i = ks.length := by omega
    subst hie
    rw [List.take_length] at hR hok
    refine Zbo (fun _ _ => rfl) ?_
    refine Zb4 (β := [(b, .cells 8 R)]) (γ := βk) ?_
    refine Z9z ?_
    (repeat (refine st_q rfl rfl rfl ?_))
    refine Z9t rfl (Zn8 hok ([(b, .cells 8 R)] ++ σ)) ?_
    refine Z94 rfl ⟨by omega, by omega⟩ ?_
    (repeat (refine st_q rfl rfl rfl ?_))
    have hxat : R[0 + ((xs.length : Nat) : Int).toNat]? = some x0 := by
      rw [hR, Nat.zero_add, Int.toNat_natCast]; simp
    refine Z9a rfl Z8z hxat (by decide) (Z0.fit_iff.1 rfl) (fun h => by rw [hx0] at h; cases h) Z9b ?_
    (repeat (first | refine st_q rfl rfl rfl ?_ | (refine Z8y ?_; (repeat (first | refine Z9v rfl ?_ | refine Z9w ?_)); refine Z9u ?_) | refine awp_seq ?_ | refine Zbm (fun _ _ => rfl) ?_))
    refine Z8d ?_
    refine ares rfl (HSub.refl _) ⟨_, .inr ⟨b, ?_, rfl⟩, ?_⟩
    · simp [Z8m, hR, Zlz, Zng]
    · have e : R.set (0 + ((xs.length : Nat) : Int).toNat) (Z1r x0 (0 + 1) (Z0.slc 1 (ints (Zly (xs.length + 1) ks)) true).cells) = xs ++ (Zlz xs.length parent deep (.mk k ns ks l p s)).map encN := by
        rw [hR, Nat.zero_add, Int.toNat_natCast, List.set_append_right _ _ (Nat.le_refl _), Nat.sub_self, List.set_cons_zero, hx0, Zlz]
        rfl
      rw [e]; rfl
theorem Znk (t : Ty) (h : t.Fit) (σ : Zc) : Z1q Try.prog Zcs [encT t] σ fun r σ' => r = .slc 8 ((Zm4 t).map encN) true ∧ σ' = σ := by
  have hc := Zn1 t h σ
  have hf := fun (hs : t.Small) => Znj t hs (.slc 0 [] true) [] [] (-1) 1 σ (Zbr.nil 8 0)
  rw [Zlp] at *
  refine Z8t rfl Zl8 (Nat.le_of_ble_eq_true rfl) ?_
  refine Z9z ?_
  refine Z9j rfl (Z0.fit_iff.1 rfl) fun pb hpb => ?_
  (repeat (refine st_q rfl rfl rfl ?_))
  (refine Z8y ?_; (repeat (first | refine Z9v rfl ?_ | refine Z9w ?_)); refine Z9u ?_)
  refine Zb3 (d := 1) (cs := Zlo t) rfl ?_
  (repeat (first | refine st_q rfl rfl rfl ?_ | refine awp_seq ?_ | refine Zbm (fun _ _ => rfl) ?_))
  refine Z9t rfl hc ?_
  (repeat (first | refine st_q rfl rfl rfl ?_ | (refine Z8y ?_; (repeat (first | refine Z9v rfl ?_ | refine Z9w ?_)); refine Z9u ?_)))
  by_cases h0 : Zlx t = 0
  · have hs := Znd t 1 0 h0
    (rw [show decide (((Zlx t : Nat) : Int) ≠ 0) = false from decide_eq_false (by omega)])
    (repeat (first | refine st_q rfl rfl rfl ?_ | refine awp_seq ?_ | refine Zbm (fun _ _ => rfl) ?_ | refine Zbn (fun _ _ => rfl) ?_ | refine Z8f (t := false) rfl (fun e => by cases e) (fun _ => ?_)))
    refine Z9s rfl (hf hs.2.1 (by simp; omega) (by omega)) ?_ ?_
    · obtain ⟨gv, gβ, hgr⟩ := Zbr.ex 8 ([] ++ (Zlz 0 (-1) 1 t).map encN)
      exact ⟨_, _, gβ, hgr, rfl⟩
    rintro r2 _ ⟨β2, ho2, rfl⟩
    refine Z9t rfl (Zna ho2 σ) ?_
    (repeat (first | refine st_q rfl rfl rfl ?_ | (refine Z8y ?_; (repeat (first | refine Z9v rfl ?_ | refine Z9w ?_)); refine Z9u ?_)))
    refine Z8d ?_
    exact ares rfl (HSub.refl _) ⟨by rw [Zm4, if_pos h0]; rfl, rfl⟩
  · (rw [show decide (((Zlx t : Nat) : Int) ≠ 0) = true from decide_eq_true (by omega)])
    (repeat (first | refine st_q rfl rfl rfl ?_ | (refine Z8y ?_; (repeat (first | refine Z9v rfl ?_ | refine Z9w ?_)); refine Z9u ?_) | refine awp_seq ?_ | refine Zbm (fun _ _ => rfl) ?_ | refine Z8f (t := true) rfl (fun _ => ?_) (fun e => by cases e)))
    refine Z8d ?_
    refine Zau rfl ?_ (HSub.refl _) ⟨rfl, rfl⟩
    rw [Zm4, if_neg h0]
    exact VRle.nil_slc 0 8 true
end Go.Abs
namespace Go.Abs
open Go Go.Proofs
set_option linter.unusedVariables false
set_option linter.unusedSimpArgs false
set_option maxHeartbeats 4000000
attribute [local irreducible] AWp aops KP
def tB (k : Int) : Ty := .mk 12 [[97]] [.mk k [] [] 0 0 0] 0 0 0
def lB (k : Int) : List Nd := [⟨tB k, [1], -1, 1⟩, ⟨.mk k [] [] 0 0 0, [], 0, 2⟩]
theorem Z19f : Zm4 (tB 3) = lB 3 := by rfl
theorem Z19h (k : Int) : (tB k).Fit := by
  refine .mk (by simp [tB, Ty.kids]) (by simp [tB, Ty.names]) (by simp [tB, Ty.names, maxLen]) fun u hu => ?_
  simp only [tB, Ty.kids, List.mem_singleton] at hu
  subst hu
  exact .mk (by simp [Ty.kids]) (by simp [Ty.names]) (by simp [Ty.names]) (by simp [Ty.kids])
theorem lB_Wf (k : Int) : WfN (lB k) := by
  refine ⟨by simp [lB], ?_, ?_⟩
  · intro i n h
    match i, h with
    | 0, h => simp only [lB, List.getElem?_cons_zero, Option.some.injEq] at h; subst h; simp
    | 1, h => simp only [lB, List.getElem?_cons_succ, List.getElem?_cons_zero, Option.some.injEq] at h; subst h; simp
    | i + 2, h => simp [lB] at h
  · intro n hn
    simp only [lB, List.mem_cons, List.not_mem_nil, or_false] at hn
    rcases hn with rfl | rfl <;> simp
theorem lB_ok {k : Int} (h : ownF k [] 0 0 0 0 = 0) : ∀ n ∈ lB k, Zlt n.t.kind = true → (tyN n).Ok := by
  intro n hn hl
  simp only [lB, List.mem_cons, List.not_mem_nil, or_false] at hn
  rcases hn with rfl | rfl
  · simp [tB, Ty.kind, Zlt] at hl
  · exact .mk h (by simp [tyN, Ty.kids])
def vI (i : Int) : Vl := .mk false i 0 [] []
def rowI (v : Vl) : Vl := .mk false 0 0 [] [v]
def tm1 (op i : Int) : Tm := ⟨1, op, vI i⟩
theorem vI_Cl (i : Int) : (vI i).Cl := .mk (by simp [vI, Vl.b]) (by simp [vI, Vl.kids]) (by simp [vI, Vl.kids])
theorem Z19i (i : Int) (h : -9223372036854775808 ≤ i ∧ i ≤ 9223372036854775807) : (vI i).Fit := .mk h (by simp [vI, Vl.b]) (by simp [vI, Vl.kids]) (by simp [vI, Vl.kids])
theorem Z19j (v : Vl) (h : v.Cl) : (rowI v).Cl := .mk (by simp [rowI, Vl.b]) (by simp [rowI, Vl.kids]) (by simpa [rowI, Vl.kids] using h)
def s25 (c : Int) : Stt := ⟨c, false, false, vl0, vl0, false, 0⟩
def h25 (c lo hi : Int) : Stt := ⟨c, false, true, vI lo, vI hi, false, 0⟩
theorem hs25' (op v c lo hi : Int) : ∀ t ∈ [tm1 op v], goodF (lB 3) t.col = true → ∀ x, [s25 c, h25 c lo hi][t.col.toNat]? = some x → x.has = true := by
  intro t ht _ x hx
  rw [List.mem_singleton] at ht
  subst ht
  simp only [tm1, Int.toNat_one, List.getElem?_cons_succ, List.getElem?_cons_zero, Option.some.injEq] at hx
  subst hx
  rfl
theorem k_get : GetF (lB 3) 1 (rowI (vI 4)) = (vI 4, true) := by rfl
theorem Z19k : Z18b (lB 3) [tm1 3 5] = 0 := by rfl
theorem Z19l : Z18b (lB 3) [⟨0, 1, vl0⟩] = 1 := by rfl
theorem Z19m : Z189 (lB 3) (rowI (vI 4)) [tm1 3 5] 1 = 1 := by rfl
theorem Z19n : Z189 (lB 3) (rowI nullV) [tm1 3 5] 1 = 2 := by rfl
theorem k_may : MayF (lB 3) [s25 1, h25 1 5 9] [tm1 3 5] = false := by rfl
theorem Z19o (σ : Zc) : Z1q Try.prog Zd5 [] σ fun r σ' => r = .bool true ∧ σ' = σ := by
  have hFl := Znk (tB 3) (Z19h 3)
  rw [Z19f, Zlp] at hFl
  have hG := c_Get (lB 3) (lB_Wf 3) true 1 (rowI (vI 4)) (Z19j _ (vI_Cl 4))
  rw [k_get] at hG
  have hC := Z18c (lB 3) (lB_Wf 3) (lB_ok rfl) true false [tm1 3 5] (by
    intro t ht
    rw [List.mem_singleton] at ht
    subst ht
    exact Z19i 5 (by omega))
  rw [Z19k] at hC
  have hC0 := Z18c (lB 3) (lB_Wf 3) (lB_ok rfl) true false [⟨0, 1, vl0⟩] (by
    intro t ht
    rw [List.mem_singleton] at ht
    subst ht
    exact Z19i 0 (by omega))
  rw [Z19l] at hC0
  have hM := Z18a (lB 3) (lB_Wf 3) true false [tm1 3 5] (by simp) (rowI (vI 4))
  rw [Z19m] at hM
  have hN := Z18a (lB 3) (lB_Wf 3) true false [tm1 3 5] (by simp) (rowI nullV)
  rw [Z19n] at hN
  have hY := Z188 (lB 3) (lB_Wf 3) true false false [tm1 3 5] (by simp) [s25 1, h25 1 5 9] (hs25' 3 5 1 5 9)
  rw [k_may] at hY
  simp only [Zm7] at *
  refine Z8t rfl Z19d (Nat.le_of_ble_eq_true rfl) ?_
  (repeat (first | refine st_q rfl rfl rfl ?_ | (refine Z8y ?_; (repeat (first | refine Z9v rfl ?_ | refine Z9w ?_)); refine Z9u ?_) | refine awp_seq ?_ | refine Zbm (fun _ _ => rfl) ?_))
  refine Z9k (by simp [Z0.cells, Z0.one]) fun b1 hb1 => ?_
  (first | refine Z9a rfl Z8z rfl (by decide) (Z0.fit_iff.1 rfl) (fun h => by cases h) Z9b ?_ | refine Z8v rfl (Z9a rfl Z8z rfl (by decide) (Z0.fit_iff.1 rfl) (fun h => by cases h) Z9b ?_))
  (refine Z8y ?_; (repeat (first | refine Z9v rfl ?_ | refine Z9w ?_)); refine Z9u ?_)
  refine Zby (Zbx.view (ys := [.agg (Zlo (tB 3))]) rfl rfl (by (repeat (first | exact VRle.refl _ | exact Zc5 | refine Zc6 rfl rfl ?_ | refine Zc7 rfl ?_ | refine Zc4 ?_ ?_)))) ?_
  refine Zb3 (d := 1) (cs := Zlo (tB 3)) rfl ?_
  (repeat (first | refine st_q rfl rfl rfl ?_ | refine awp_seq ?_ | refine Zbm (fun _ _ => rfl) ?_))
  (first | refine Z9t rfl (hFl _) ?_ | refine Z8v rfl (Z9t rfl (hFl _) ?_) | refine Zbw rfl hFl ?_ | refine Z8v rfl (Zbw rfl hFl ?_))
  (repeat (first | refine st_q rfl rfl rfl ?_ | (refine Z8y ?_; (repeat (first | refine Z9v rfl ?_ | refine Z9w ?_)); refine Z9u ?_) | refine awp_seq ?_ | refine Zbm (fun _ _ => rfl) ?_ | refine Zbn (fun _ _ => rfl) ?_ | refine Z8f (t := false) rfl (fun e => by cases e) (fun _ => ?_)))
  refine Z9k (by simp [Z0.cells, Z0.one]) fun b4 hb4 => ?_
  (first | refine Z9a rfl Z8z rfl (by decide) (Z0.fit_iff.1 rfl) (fun h => by cases h) Z9b ?_ | refine Z8v rfl (Z9a rfl Z8z rfl (by decide) (Z0.fit_iff.1 rfl) (fun h => by cases h) Z9b ?_))
  (refine Z8y ?_; (repeat (first | refine Z9v rfl ?_ | refine Z9w ?_)); refine Z9u ?_)
  refine Zby (Zbx.view (ys := [.agg (Zm6 (rowI (vI 4)))]) rfl rfl (by (repeat (first | exact VRle.refl _ | exact Zc5 | refine Zc6 rfl rfl ?_ | refine Zc7 rfl ?_ | refine Zc4 ?_ ?_)))) ?_
  refine Zb3 (d := 4) (cs := Zm6 (rowI (vI 4))) rfl ?_
  (refine Z9y (keep := [2, 3, 4]) ?_; ((repeat (first | refine Z9v rfl ?_ | refine Z9w ?_)); refine Z9u ?_))
  (repeat (first | refine st_q rfl rfl rfl ?_ | refine awp_seq ?_ | refine Zbm (fun _ _ => rfl) ?_))
  refine Z9k (by simp [Z0.cells, Z0.one]) fun b5 hb5 => ?_
  (first | refine Z9a rfl Z8z rfl (by decide) (Z0.fit_iff.1 rfl) (fun h => by cases h) Z9b ?_ | refine Z8v rfl (Z9a rfl Z8z rfl (by decide) (Z0.fit_iff.1 rfl) (fun h => by cases h) Z9b ?_))
  (refine Z8y ?_; (repeat (first | refine Z9v rfl ?_ | refine Z9w ?_)); refine Z9u ?_)
  refine Zby (Zbx.view (ys := [.agg (Zm6 (rowI nullV))]) rfl rfl (by (repeat (first | exact VRle.refl _ | exact Zc5 | refine Zc6 rfl rfl ?_ | refine Zc7 rfl ?_ | refine Zc4 ?_ ?_)))) ?_
  refine Zb3 (d := 5) (cs := Zm6 (rowI nullV)) rfl ?_
  (refine Z9y (keep := [2, 3, 4, 5]) ?_; ((repeat (first | refine Z9v rfl ?_ | refine Z9w ?_)); refine Z9u ?_))
  (repeat (first | refine st_q rfl rfl rfl ?_ | refine awp_seq ?_ | refine Zbm (fun _ _ => rfl) ?_))
  refine Z9t rfl (hG _) ?_
  (repeat refine st_q rfl rfl rfl ?_)
  refine Z9k (by simp [Z0.cells, Z0.one]) fun b6 hb6 => ?_
  (first | refine Z9a rfl Z8z rfl (by decide) (Z0.fit_iff.1 rfl) (fun h => by cases h) Z9b ?_ | refine Z8v rfl (Z9a rfl Z8z rfl (by decide) (Z0.fit_iff.1 rfl) (fun h => by cases h) Z9b ?_))
  (repeat (refine st_q rfl rfl rfl ?_))
  (refine Z8y ?_; (repeat (first | refine Z9v rfl ?_ | refine Z9w ?_)); refine Z9u ?_)
  refine Zb3 (d := 6) (cs := Zm6 (vI 4)) rfl ?_
  (refine Z9y (keep := [2, 3, 4, 5, 6, 7]) ?_; ((repeat (first | refine Z9v rfl ?_ | refine Z9w ?_)); refine Z9u ?_))
  (repeat (first | refine st_q rfl rfl rfl ?_ | (refine Z8y ?_; (repeat (first | refine Z9v rfl ?_ | refine Z9w ?_)); refine Z9u ?_) | refine awp_seq ?_ | refine Zbm (fun _ _ => rfl) ?_))
  refine Z9t rfl (Z1q.args (by (repeat (first | exact VRle.refl _ | exact Zc5 | refine Zc6 rfl rfl ?_ | refine Zc7 rfl ?_ | refine Zc4 ?_ ?_))) (hC _)) ?_
  (repeat (first | refine st_q rfl rfl rfl ?_ | refine Z8v rfl (st_q rfl rfl rfl ?_)))
  refine Z8v rfl (Z9t rfl (Z1q.args (by (repeat (first | exact VRle.refl _ | exact Zc5 | refine Zc6 rfl rfl ?_ | refine Zc7 rfl ?_ | refine Zc4 ?_ ?_))) (hC0 _)) ?_)
  (repeat (first | refine st_q rfl rfl rfl ?_ | refine Z8v rfl (st_q rfl rfl rfl ?_)))
  refine Z8v rfl (Z9t rfl (Z1q.args (by (repeat (first | exact VRle.refl _ | exact Zc5 | refine Zc6 rfl rfl ?_ | refine Zc7 rfl ?_ | refine Zc4 ?_ ?_))) (hM _)) ?_)
  (repeat (first | refine st_q rfl rfl rfl ?_ | refine Z8v rfl (st_q rfl rfl rfl ?_)))
  refine Z8v rfl (Z9t rfl (Z1q.args (by (repeat (first | exact VRle.refl _ | exact Zc5 | refine Zc6 rfl rfl ?_ | refine Zc7 rfl ?_ | refine Zc4 ?_ ?_))) (hN _)) ?_)
  (repeat (first | refine st_q rfl rfl rfl ?_ | refine Z8v rfl (st_q rfl rfl rfl ?_)))
  refine Z8v rfl (Z9t rfl (Z1q.args (by (repeat (first | exact VRle.refl _ | exact Zc5 | refine Zc6 rfl rfl ?_ | refine Zc7 rfl ?_ | refine Zc4 ?_ ?_))) (hY _)) ?_)
  (repeat (first | refine st_q rfl rfl rfl ?_ | refine Z8v rfl (st_q rfl rfl rfl ?_) | (refine Z8y ?_; (repeat (first | refine Z9v rfl ?_ | refine Z9w ?_)); refine Z9u ?_)))
  refine Z8d ?_
  exact ares rfl (HSub.refl _) ⟨rfl, rfl⟩
end Go.Abs
namespace Go.Abs
open Go Go.Proofs
set_option linter.unusedVariables false
set_option linter.unusedSimpArgs false
set_option maxHeartbeats 4000000
attribute [local irreducible] AWp aops KP
def con (op : Int) : Int := if op = 1 then 2 else if op = 2 then 1 else if op = 3 then 6 else if op = 4 then 5 else if op = 5 then 4 else if op = 6 then 3 else if op = 7 then 8 else 7
def mt (l : List Nd) (row : Vl) (t : Tm) : Int := Z189 l row [t] 1
theorem Z1g0 {op : Int} (h : 1 ≤ op ∧ op ≤ 6) (c : Int) : Z17x (con op) c = !Z17x op c := by
  have h6 : op = 1 ∨ op = 2 ∨ op = 3 ∨ op = 4 ∨ op = 5 ∨ op = 6 := by omega
  have key : ∀ (p q : Prop) [Decidable p] [Decidable q], (p ↔ ¬ q) → decide p = !decide q := by
    intro p q _ _ h
    by_cases hq : q
    · rw [decide_eq_true hq, decide_eq_false (fun hp => h.1 hp hq)]; rfl
    · rw [decide_eq_false hq, decide_eq_true (h.2 hq)]; rfl
  rcases h6 with rfl | rfl | rfl | rfl | rfl | rfl
  · exact key (c ≠ 0) (c = 0) (by omega)
  · exact key (c = 0) (c ≠ 0) (by omega)
  · exact key (c ≥ 0) (c < 0) (by omega)
  · exact key (c > 0) (c ≤ 0) (by omega)
  · exact key (c ≤ 0) (c > 0) (by omega)
  · exact key (c < 0) (c ≥ 0) (by omega)
theorem mt_eq {l : List Nd} {row : Vl} {t : Tm} {n : Nd} (hg : goodF l t.col = true) (hn : l[t.col.toNat]? = some n) : mt l row t =
    (if t.op = 7 then (if (getF l (t.col.toNat + 1) t.col row).null = true then 1 else 0) else if t.op = 8 then (if (getF l (t.col.toNat + 1) t.col row).null = true then 0 else 1)
    else if (getF l (t.col.toNat + 1) t.col row).null = true then 2 else if Z17x t.op (cmpV n.t.kind (getF l (t.col.toNat + 1) t.col row) t.v).1 = true then 1 else 0) := by
  rw [mt, Z189, if_neg (by rw [hg]; simp), hn]
  simp only [Z189]
theorem Z1g1 {l : List Nd} {row : Vl} {t : Tm} {n : Nd} (hg : goodF l t.col = true) (hn : l[t.col.toNat]? = some n) (ts : List Tm) (out : Int) : Z189 l row (t :: ts) out =
    if mt l row t = 0 then 0 else Z189 l row ts (if mt l row t = 2 then 2 else out) := by
  rw [mt_eq hg hn, Z189, if_neg (by rw [hg]; simp), hn]
  simp only
  cases hv : (getF l (t.col.toNat + 1) t.col row).null <;> by_cases h7 : t.op = 7 <;> by_cases h8 : t.op = 8 <;> cases hh : Z17x t.op (cmpV n.t.kind (getF l (t.col.toNat + 1) t.col row) t.v).1 <;> simp [h7, h8] <;> omega
theorem Z1g2 {l : List Nd} {row : Vl} {c op : Int} {v : Vl} (hop : 1 ≤ op ∧ op ≤ 8) {n : Nd} (hg : goodF l c = true) (hn : l[c.toNat]? = some n) :
    (mt l row ⟨c, op, v⟩ = 1 ∧ mt l row ⟨c, con op, v⟩ = 0) ∨ (mt l row ⟨c, op, v⟩ = 0 ∧ mt l row ⟨c, con op, v⟩ = 1) ∨ (mt l row ⟨c, op, v⟩ = 2 ∧ mt l row ⟨c, con op, v⟩ = 2) := by
  have e1 := mt_eq (row := row) (t := ⟨c, op, v⟩) hg hn
  have e2 := mt_eq (row := row) (t := ⟨c, con op, v⟩) hg hn
  simp only at e1 e2
  rw [e1, e2]
  generalize getF l (c.toNat + 1) c row = w
  by_cases h7 : op = 7
  · subst h7
    cases w.null <;> simp [con]
  by_cases h8 : op = 8
  · subst h8
    cases w.null <;> simp [con]
  have h6 : 1 ≤ op ∧ op ≤ 6 := by omega
  have hc7 : con op ≠ 7 ∧ con op ≠ 8 := by
    have : op = 1 ∨ op = 2 ∨ op = 3 ∨ op = 4 ∨ op = 5 ∨ op = 6 := by omega
    rcases this with rfl | rfl | rfl | rfl | rfl | rfl <;> decide
  rw [if_neg h7, if_neg h8, if_neg hc7.1, if_neg hc7.2, Z1g0 h6]
  cases w.null <;> cases Z17x op (cmpV n.t.kind w v).1 <;> simp
theorem Z1g3 {l : List Nd} {row : Vl} : ∀ (ts : List Tm) (out : Int), (∀ t ∈ ts, goodF l t.col = true ∧ 1 ≤ t.op ∧ t.op ≤ 8) → out = 1 ∨ out = 2 →
    decide (Z189 l row ts out = 0) = ts.any (fun t => decide (mt l row t = 0)) ∧ decide (Z189 l row ts out = 1) = (decide (out = 1) && ts.all fun t => decide (mt l row t = 1))
  | [], out, _, ho => by
    rcases ho with rfl | rfl <;> exact ⟨rfl, rfl⟩
  | t :: ts, out, h, ho => by
    obtain ⟨hg, hop⟩ := h t (by simp)
    obtain ⟨k0, k1⟩ := Z181 hg
    obtain ⟨n, hn⟩ : ∃ n, l[t.col.toNat]? = some n := ⟨_, List.getElem?_eq_getElem (by omega)⟩
    obtain ⟨c, op, v⟩ := t
    have hm := Z1g2 (row := row) (v := v) hop hg hn
    rw [Z1g1 hg hn, List.any_cons, List.all_cons]
    have ih1 := Z1g3 (row := row) ts 1 (fun t ht => h t (by simp [ht])) (.inl rfl)
    have ih2 := Z1g3 (row := row) ts 2 (fun t ht => h t (by simp [ht])) (.inr rfl)
    rcases hm with ⟨hm, _⟩ | ⟨hm, _⟩ | ⟨hm, _⟩
    · rw [hm, if_neg (by decide), if_neg (by decide)]
      rcases ho with rfl | rfl
      · simpa using ih1
      · simpa using ih2
    · rw [hm, if_pos rfl]
      simp
    · rw [hm, if_neg (by decide), if_pos rfl]
      obtain ⟨a, b⟩ := ih2
      rw [a, b]
      simp
theorem Z1g5 {l : List Nd} {p : List Tm} (h : Z1fr l p = 0) : ∀ t ∈ p, goodF l t.col = true ∧ 1 ≤ t.op ∧ t.op ≤ 8 := by
  intro t ht
  rw [Z1fr] at h
  split at h
  · cases h
  · split at h
    · rename_i h2
      have := List.all_eq_true.1 h2 t ht
      simp only [okR, Bool.and_eq_true, decide_eq_true_eq] at this
      exact ⟨this.1, this.2.1⟩
    · cases h
end Go.Abs
namespace Go.Abs
open Go Go.Proofs
set_option linter.unusedVariables false
set_option linter.unusedSimpArgs false
set_option maxHeartbeats 4000000
attribute [local irreducible] AWp aops KP
theorem Z1l7 (k : Int) (σ : Zc) : Z1q Try.prog Ze9 [.int .i64 k] σ fun r σ' => r = .bool (Zxj k) ∧ σ' = σ := by
  refine Z8t rfl Z1jp (Nat.le_of_ble_eq_true rfl) ?_
  by_cases h0 : k = 0
  · subst h0; (repeat (first | refine st_q rfl rfl rfl ?_ | (refine Z8y ?_; (repeat (first | refine Z9v rfl ?_ | refine Z9w ?_)); refine Z9u ?_) | refine awp_seq ?_ | refine Zbm (fun _ _ => rfl) ?_ | refine Z8h ?_ | refine Zbn (fun _ _ => rfl) ?_ | refine Z8f (t := true) rfl (fun _ => ?_) (fun e => by cases e))); refine Z8d ?_; exact ares rfl (HSub.refl _) ⟨rfl, rfl⟩
  by_cases h1 : k = 1
  · subst h1; (repeat (first | refine st_q rfl rfl rfl ?_ | (refine Z8y ?_; (repeat (first | refine Z9v rfl ?_ | refine Z9w ?_)); refine Z9u ?_) | refine awp_seq ?_ | refine Zbm (fun _ _ => rfl) ?_ | refine Z8h ?_ | refine Zbn (fun _ _ => rfl) ?_ | refine Z8f (t := true) rfl (fun _ => ?_) (fun e => by cases e) | refine Z8f (t := false) rfl (fun e => by cases e) (fun _ => ?_))); refine Z8d ?_; exact ares rfl (HSub.refl _) ⟨rfl, rfl⟩
  by_cases h2 : k = 2
  · subst h2; (repeat (first | refine st_q rfl rfl rfl ?_ | (refine Z8y ?_; (repeat (first | refine Z9v rfl ?_ | refine Z9w ?_)); refine Z9u ?_) | refine awp_seq ?_ | refine Zbm (fun _ _ => rfl) ?_ | refine Z8h ?_ | refine Zbn (fun _ _ => rfl) ?_ | refine Z8f (t := true) rfl (fun _ => ?_) (fun e => by cases e) | refine Z8f (t := false) rfl (fun e => by cases e) (fun _ => ?_))); refine Z8d ?_; exact ares rfl (HSub.refl _) ⟨rfl, rfl⟩
  by_cases h3 : k = 3
  · subst h3; (repeat (first | refine st_q rfl rfl rfl ?_ | (refine Z8y ?_; (repeat (first | refine Z9v rfl ?_ | refine Z9w ?_)); refine Z9u ?_) | refine awp_seq ?_ | refine Zbm (fun _ _ => rfl) ?_ | refine Z8h ?_ | refine Zbn (fun _ _ => rfl) ?_ | refine Z8f (t := true) rfl (fun _ => ?_) (fun e => by cases e) | refine Z8f (t := false) rfl (fun e => by cases e) (fun _ => ?_))); refine Z8d ?_; exact ares rfl (HSub.refl _) ⟨rfl, rfl⟩
  by_cases h4 : k = 4
  · subst h4; (repeat (first | refine st_q rfl rfl rfl ?_ | (refine Z8y ?_; (repeat (first | refine Z9v rfl ?_ | refine Z9w ?_)); refine Z9u ?_) | refine awp_seq ?_ | refine Zbm (fun _ _ => rfl) ?_ | refine Z8h ?_ | refine Zbn (fun _ _ => rfl) ?_ | refine Z8f (t := true) rfl (fun _ => ?_) (fun e => by cases e) | refine Z8f (t := false) rfl (fun e => by cases e) (fun _ => ?_))); refine Z8d ?_; exact ares rfl (HSub.refl _) ⟨rfl, rfl⟩
  by_cases h7 : k = 7
  · subst h7; (repeat (first | refine st_q rfl rfl rfl ?_ | (refine Z8y ?_; (repeat (first | refine Z9v rfl ?_ | refine Z9w ?_)); refine Z9u ?_) | refine awp_seq ?_ | refine Zbm (fun _ _ => rfl) ?_ | refine Z8h ?_ | refine Zbn (fun _ _ => rfl) ?_ | refine Z8f (t := true) rfl (fun _ => ?_) (fun e => by cases e) | refine Z8f (t := false) rfl (fun e => by cases e) (fun _ => ?_))); refine Z8d ?_; exact ares rfl (HSub.refl _) ⟨rfl, rfl⟩
  by_cases h16 : k = 16
  · subst h16; (repeat (first | refine st_q rfl rfl rfl ?_ | (refine Z8y ?_; (repeat (first | refine Z9v rfl ?_ | refine Z9w ?_)); refine Z9u ?_) | refine awp_seq ?_ | refine Zbm (fun _ _ => rfl) ?_ | refine Z8h ?_ | refine Zbn (fun _ _ => rfl) ?_ | refine Z8f (t := true) rfl (fun _ => ?_) (fun e => by cases e) | refine Z8f (t := false) rfl (fun e => by cases e) (fun _ => ?_))); refine Z8d ?_; exact ares rfl (HSub.refl _) ⟨rfl, rfl⟩
  by_cases h17 : k = 17
  · subst h17; (repeat (first | refine st_q rfl rfl rfl ?_ | (refine Z8y ?_; (repeat (first | refine Z9v rfl ?_ | refine Z9w ?_)); refine Z9u ?_) | refine awp_seq ?_ | refine Zbm (fun _ _ => rfl) ?_ | refine Z8h ?_ | refine Zbn (fun _ _ => rfl) ?_ | refine Z8f (t := true) rfl (fun _ => ?_) (fun e => by cases e) | refine Z8f (t := false) rfl (fun e => by cases e) (fun _ => ?_))); refine Z8d ?_; exact ares rfl (HSub.refl _) ⟨rfl, rfl⟩
  by_cases h8 : k = 8
  · subst h8; (repeat (first | refine st_q rfl rfl rfl ?_ | (refine Z8y ?_; (repeat (first | refine Z9v rfl ?_ | refine Z9w ?_)); refine Z9u ?_) | refine awp_seq ?_ | refine Zbm (fun _ _ => rfl) ?_ | refine Z8h ?_ | refine Zbn (fun _ _ => rfl) ?_ | refine Z8f (t := true) rfl (fun _ => ?_) (fun e => by cases e) | refine Z8f (t := false) rfl (fun e => by cases e) (fun _ => ?_))); refine Z8d ?_; exact ares rfl (HSub.refl _) ⟨rfl, rfl⟩
  by_cases h14 : k = 14
  · subst h14; (repeat (first | refine st_q rfl rfl rfl ?_ | (refine Z8y ?_; (repeat (first | refine Z9v rfl ?_ | refine Z9w ?_)); refine Z9u ?_) | refine awp_seq ?_ | refine Zbm (fun _ _ => rfl) ?_ | refine Z8h ?_ | refine Z8f (t := true) rfl (fun _ => ?_) (fun e => by cases e) | refine Z8f (t := false) rfl (fun e => by cases e) (fun _ => ?_))); refine Z8d ?_; exact ares rfl (HSub.refl _) ⟨rfl, rfl⟩
  (repeat (first | refine st_q rfl rfl rfl ?_ | (refine Z8y ?_; (repeat (first | refine Z9v rfl ?_ | refine Z9w ?_)); refine Z9u ?_) | refine awp_seq ?_ | refine Zbm (fun _ _ => rfl) ?_ | refine Z8h ?_))
  (rw [show decide (k = 0) = false from decide_eq_false (by omega)])
  (repeat (first | refine st_q rfl rfl rfl ?_ | (refine Z8y ?_; (repeat (first | refine Z9v rfl ?_ | refine Z9w ?_)); refine Z9u ?_) | refine awp_seq ?_ | refine Zbm (fun _ _ => rfl) ?_ | refine Z8f (t := false) rfl (fun e => by cases e) (fun _ => ?_)))
  (rw [show decide (k = 1) = false from decide_eq_false (by omega)])
  (repeat (first | refine st_q rfl rfl rfl ?_ | (refine Z8y ?_; (repeat (first | refine Z9v rfl ?_ | refine Z9w ?_)); refine Z9u ?_) | refine awp_seq ?_ | refine Zbm (fun _ _ => rfl) ?_ | refine Z8f (t := false) rfl (fun e => by cases e) (fun _ => ?_)))
  (rw [show decide (k = 2) = false from decide_eq_false (by omega)])
  (repeat (first | refine st_q rfl rfl rfl ?_ | (refine Z8y ?_; (repeat (first | refine Z9v rfl ?_ | refine Z9w ?_)); refine Z9u ?_) | refine awp_seq ?_ | refine Zbm (fun _ _ => rfl) ?_ | refine Z8f (t := false) rfl (fun e => by cases e) (fun _ => ?_)))
  (rw [show decide (k = 3) = false from decide_eq_false (by omega)])
  (repeat (first | refine st_q rfl rfl rfl ?_ | (refine Z8y ?_; (repeat (first | refine Z9v rfl ?_ | refine Z9w ?_)); refine Z9u ?_) | refine awp_seq ?_ | refine Zbm (fun _ _ => rfl) ?_ | refine Z8f (t := false) rfl (fun e => by cases e) (fun _ => ?_)))
  (rw [show decide (k = 4) = false from decide_eq_false (by omega)])
  (repeat (first | refine st_q rfl rfl rfl ?_ | (refine Z8y ?_; (repeat (first | refine Z9v rfl ?_ | refine Z9w ?_)); refine Z9u ?_) | refine awp_seq ?_ | refine Zbm (fun _ _ => rfl) ?_ | refine Z8f (t := false) rfl (fun e => by cases e) (fun _ => ?_)))
  (rw [show decide (k = 7) = false from decide_eq_false (by omega)])
  (repeat (first | refine st_q rfl rfl rfl ?_ | (refine Z8y ?_; (repeat (first | refine Z9v rfl ?_ | refine Z9w ?_)); refine Z9u ?_) | refine awp_seq ?_ | refine Zbm (fun _ _ => rfl) ?_ | refine Z8f (t := false) rfl (fun e => by cases e) (fun _ => ?_)))
  (rw [show decide (k = 16) = false from decide_eq_false (by omega)])
  (repeat (first | refine st_q rfl rfl rfl ?_ | (refine Z8y ?_; (repeat (first | refine Z9v rfl ?_ | refine Z9w ?_)); refine Z9u ?_) | refine awp_seq ?_ | refine Zbm (fun _ _ => rfl) ?_ | refine Z8f (t := false) rfl (fun e => by cases e) (fun _ => ?_)))
  (rw [show decide (k = 17) = false from decide_eq_false (by omega)])
  (repeat (first | refine st_q rfl rfl rfl ?_ | (refine Z8y ?_; (repeat (first | refine Z9v rfl ?_ | refine Z9w ?_)); refine Z9u ?_) | refine awp_seq ?_ | refine Zbm (fun _ _ => rfl) ?_ | refine Z8f (t := false) rfl (fun e => by cases e) (fun _ => ?_)))
  (rw [show decide (k = 8) = false from decide_eq_false (by omega)])
  (repeat (first | refine st_q rfl rfl rfl ?_ | (refine Z8y ?_; (repeat (first | refine Z9v rfl ?_ | refine Z9w ?_)); refine Z9u ?_) | refine Zbm (fun _ _ => rfl) ?_ | refine Z8f (t := false) rfl (fun e => by cases e) (fun _ => ?_)))
  (rw [show decide (k = 14) = false from decide_eq_false (by omega)])
  (repeat (first | refine st_q rfl rfl rfl ?_ | (refine Z8y ?_; (repeat (first | refine Z9v rfl ?_ | refine Z9w ?_)); refine Z9u ?_) | refine awp_seq ?_ | refine Zbm (fun _ _ => rfl) ?_ | refine Zbn (fun _ _ => rfl) ?_ | refine Z8f (t := false) rfl (fun e => by cases e) (fun _ => ?_)))
  refine Z8d ?_
  exact ares rfl (HSub.refl _) ⟨by simp [Zxj, Z8m, h0, h1, h2, h3, h4, h7, h16, h17, h8, h14], rfl⟩
theorem Z1l8 (k : Int) (σ : Zc) : Z1q Try.prog Zec [.int .i64 k] σ fun r σ' => r = .bool (Zxk k) ∧ σ' = σ := by
  refine Z8t rfl Z1jq (Nat.le_of_ble_eq_true rfl) ?_
  (repeat (first | refine st_q rfl rfl rfl ?_ | (refine Z8y ?_; (repeat (first | refine Z9v rfl ?_ | refine Z9w ?_)); refine Z9u ?_) | refine awp_seq ?_ | refine Zbm (fun _ _ => rfl) ?_))
  refine Z9t rfl (Ztm k _) ?_
  cases hl : Zlt k with
  | false =>
    (repeat (first | refine st_q rfl rfl rfl ?_ | refine Z8w rfl ?_ | (refine Z8y ?_; (repeat (first | refine Z9v rfl ?_ | refine Z9w ?_)); refine Z9u ?_)))
    refine Z8d ?_
    exact ares rfl (HSub.refl _) ⟨by simp [Zxk, Z8m, hl], rfl⟩
  | true =>
    (repeat (first | refine st_q rfl rfl rfl ?_ | refine Z8v rfl (st_q rfl rfl rfl ?_)))
    by_cases h0 : k = 0
    · (rw [show decide (k ≠ 0) = false from decide_eq_false (by omega)])
      (repeat (first | refine st_q rfl rfl rfl ?_ | refine Z8w rfl ?_ | (refine Z8y ?_; (repeat (first | refine Z9v rfl ?_ | refine Z9w ?_)); refine Z9u ?_)))
      refine Z8d ?_
      exact ares rfl (HSub.refl _) ⟨by simp [Zxk, Z8m, h0], rfl⟩
    · (rw [show decide (k ≠ 0) = true from decide_eq_true (by omega)])
      (repeat (first | refine st_q rfl rfl rfl ?_ | refine Z8v rfl (st_q rfl rfl rfl ?_) | (refine Z8y ?_; (repeat (first | refine Z9v rfl ?_ | refine Z9w ?_)); refine Z9u ?_)))
      refine Z8d ?_
      exact ares rfl (HSub.refl _) ⟨by simp [Zxk, Z8m, hl, h0], rfl⟩
def Z1l9 (a b : Stt) : Bool := decide (a.count = b.count) && ((a.null == b.null) && ((a.has == b.has) && (Z1az a.min b.min && (Z1az a.max b.max && ((a.sums == b.sums) && decide (a.sum = b.sum))))))
end Go.Abs

