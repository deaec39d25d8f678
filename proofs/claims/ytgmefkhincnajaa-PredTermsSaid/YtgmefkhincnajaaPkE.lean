/- Part E of a proof: merged by program. -/
import Derived.Test.YtgmefkhincnajaaPkD
import Derived.Test.YtgmefkhincnajaaProg
import Derived.KernelRfl
namespace Go.Abs
open Go
def Zuh : List Z2a := [
  ⟨some 1, (.box 5), [.t 0], none⟩,
  ⟨some 2, .mov, [.c (.bool false)], none⟩]
def Zui : List Z2a := [
  ⟨some 3, (.fad 0), [.t 1], none⟩,
  ⟨some 4, (.load false 1), [.t 3], none⟩,
  ⟨some 5, (.call Zew), [.t 4, .c (.bool false)], none⟩,
  ⟨some 2, .mov, [.t 5], none⟩]
def Zuj : Z2y := ⟨6, (.seq (.region Zuh [1]) (.seq (.region Zui [2]) .ret)), [.t 2]⟩
def Zuk : List Z2a := [
  ⟨some 1, (.box 5), [.t 0], none⟩,
  ⟨some 2, .mov, [.c (.bool false)], none⟩]
def Zul : List Z2a := [
  ⟨some 3, .mov, [.c (.int .i64 0)], none⟩]
def Zum : List Z2a := [
  ⟨some 4, .mov, [.t 3], none⟩,
  ⟨some 5, (.fad 0), [.t 1], none⟩,
  ⟨some 6, (.load false 1), [.t 5], none⟩,
  ⟨some 7, .lens, [.t 6], none⟩,
  ⟨some 8, (.bin .lss), [.t 4, .t 7], none⟩]
def Zun : List Z2a := [
  ⟨some 11, (.fad 0), [.t 1], none⟩,
  ⟨some 12, (.load false 1), [.t 11], none⟩,
  ⟨some 13, .mov, [.t 3], none⟩,
  ⟨some 14, (.iad 1), [.t 12, .t 13], none⟩,
  ⟨some 15, (.load false 1), [.t 14], none⟩,
  ⟨some 16, .unot, [.t 15], none⟩]
def Zuo : List Z2a := [
  ⟨some 2, .mov, [.c (.bool true)], none⟩]
def Zup : List Z2a := [
  ⟨some 9, .mov, [.t 3], none⟩,
  ⟨some 10, (.bin .add), [.t 9, .c (.int .i64 1)], none⟩,
  ⟨some 3, .mov, [.t 10], none⟩]
def Zuq : Z2b := (.seq (.seq (.region Zum [1, 3, 8]) (.cond (.t 8) .skip (.exit 0))) (.seq (.block 1 (.seq (.region Zun [1, 3, 16]) (.cond (.t 16) (.seq (.region Zuo [2]) .ret) .skip))) (.region Zup [1, 3])))
def Zur : List Z2a := [
  ⟨some 2, .mov, [.c (.bool false)], none⟩]
def Zus : Z2y := ⟨17, (.seq (.region Zuk [1]) (.seq (.seq (.region Zul [1, 3]) (.block 0 (.loop Zuq))) (.seq (.region Zur [2]) .ret))), [.t 2]⟩
def Zut : List Z2a := [
  ⟨some 4, .mov, [.c (.bool false)], none⟩]
def Zuu : List Z2a := [
  ⟨some 5, .mov, [.t 0], none⟩,
  ⟨some 6, .mov, [.t 1], none⟩,
  ⟨some 7, (.call Zfy), [.t 5, .t 6], none⟩,
  ⟨some 8, (.bin .geq), [.t 7, .c (.int .i64 0)], none⟩,
  ⟨some 4, .mov, [.t 8], none⟩]
def Zuv : Z2y := ⟨9, (.seq (.region Zut [0, 1]) (.seq (.region Zuu [4]) .ret)), [.t 4]⟩
def Zuw : List Z2a := [
  ⟨some 4, .mov, [.c (.int .i64 0)], none⟩]
def Zux : List Z2a := [
  ⟨some 6, .mov, [.t 0], none⟩,
  ⟨some 7, .lens, [.t 6], none⟩,
  ⟨some 8, .mov, [.c (.int .i64 0)], none⟩]
def Zuy : List Z2a := [
  ⟨some 9, (.bin .lss), [.t 8, .t 7], none⟩]
def Zuz : List Z2a := [
  ⟨some 10, .mov, [.t 8], none⟩,
  ⟨some 5, .mov, [.t 10], none⟩]
def Zv0 : List Z2a := [
  ⟨some 11, .mov, [.t 1], none⟩,
  ⟨some 12, .mov, [.t 0], none⟩,
  ⟨some 13, .mov, [.t 5], none⟩,
  ⟨some 14, (.iad 1), [.t 12, .t 13], none⟩,
  ⟨some 15, (.load false 1), [.t 14], none⟩,
  ⟨some 16, (.binb .eql), [.t 11, .t 15], none⟩]
def Zv1 : List Z2a := [
  ⟨some 17, .mov, [.t 5], none⟩,
  ⟨some 4, .mov, [.t 17], none⟩]
def Zv2 : List Z2a := [
  ⟨some 18, (.bin .add), [.t 8, .c (.int .i64 1)], none⟩,
  ⟨some 8, .mov, [.t 18], none⟩]
def Zv3 : Z2b := (.seq (.region Zuy [0, 1, 7, 8, 9]) (.seq (.cond (.t 9) .skip (.exit 0)) (.seq (.block 1 (.seq (.region Zuz [0, 1, 5, 7, 8]) (.seq (.region Zv0 [0, 1, 5, 7, 8, 16]) (.cond (.t 16) (.seq (.region Zv1 [4]) .ret) .skip)))) (.region Zv2 [0, 1, 7, 8]))))
def Zv4 : List Z2a := [
  ⟨some 4, .mov, [.c (.int .i64 (-1))], none⟩]
def Zv5 : Z2y := ⟨19, (.seq (.region Zuw [0, 1]) (.seq (.seq (.region Zux [0, 1, 7, 8]) (.block 0 (.loop Zv3))) (.seq (.region Zv4 [4]) .ret))), [.t 4]⟩
def Zv6 : List Z2a := [
  ⟨some 2, (.box 8), [.t 0], none⟩,
  ⟨some 3, (.box 5), [.t 1], none⟩,
  ⟨some 4, (.alloc (.agg [(.int .i64 0), (.bool false), (.bool false), (.bool false), (.int .i64 0), (.int .i64 0), (.slc 0 [] true), (.slc 0 [] true), (.bool false), (.int .i64 0), (.int .i64 0), (.slc 0 [] true), (.slc 0 [] true), (.bool false), (.int .i64 0)])), [], none⟩]
def Zv7 : List Z2a := [
  ⟨some 11, (.load true 5), [.t 3], none⟩,
  ⟨some 12, (.callp Zdl), [.t 11], none⟩,
  ⟨some 13, (.fad 0), [.t 2], none⟩,
  ⟨some 14, (.load false 1), [.t 13], none⟩,
  ⟨some 15, (.callp Ze5), [.t 14], none⟩,
  ⟨some 16, (.bld [(.int .i64 0), (.bool false), (.bool false), (.bool false), (.int .i64 0), (.int .i64 0), (.slc 0 [] true), (.slc 0 [] true), (.bool false), (.int .i64 0), (.int .i64 0), (.slc 0 [] true), (.slc 0 [] true), (.bool false), (.int .i64 0)] [(1, 1), (13, 1)]), [.t 12, .t 15], none⟩,
  ⟨some 5, (.alloc (.agg [(.int .i64 0), (.bool false), (.bool false), (.bool false), (.int .i64 0), (.int .i64 0), (.slc 0 [] true), (.slc 0 [] true), (.bool false), (.int .i64 0), (.int .i64 0), (.slc 0 [] true), (.slc 0 [] true), (.bool false), (.int .i64 0)])), [], none⟩,
  ⟨none, (.store 15), [.t 5, .t 16], none⟩]
def Zv8 : List Z2a := [
  ⟨some 17, (.fad 0), [.t 3], none⟩,
  ⟨some 18, (.load false 1), [.t 17], none⟩,
  ⟨some 19, .lens, [.t 18], none⟩,
  ⟨some 20, .mov, [.c (.int .i64 0)], none⟩]
def Zv9 : List Z2a := [
  ⟨some 21, (.bin .lss), [.t 20, .t 19], none⟩]
def Zva : List Z2a := [
  ⟨some 22, (.iad 1), [.t 18, .t 20], none⟩,
  ⟨some 23, (.load false 1), [.t 22], none⟩,
  ⟨some 7, .mov, [.t 23], none⟩]
def Zvb : List Z2a := [
  ⟨some 24, .mov, [.t 7], none⟩]
def Zvc : List Z2a := [
  ⟨some 25, (.fad 0), [.t 5], none⟩,
  ⟨some 26, (.load false 1), [.t 25], none⟩,
  ⟨some 27, (.bin .add), [.t 26, .c (.int .i64 1)], none⟩,
  ⟨some 28, (.fad 0), [.t 5], none⟩,
  ⟨none, (.store 1), [.t 28, .t 27], none⟩]
def Zvd : List Z2a := [
  ⟨some 29, (.bin .add), [.t 20, .c (.int .i64 1)], none⟩,
  ⟨some 20, .mov, [.t 29], none⟩]
def Zve : Z2b := (.seq (.region Zv9 [2, 3, 4, 5, 18, 19, 20, 21]) (.seq (.cond (.t 21) .skip (.exit 0)) (.seq (.block 1 (.seq (.region Zva [2, 3, 4, 5, 7, 18, 19, 20]) (.seq (.region Zvb [2, 3, 4, 5, 18, 19, 20, 24]) (.cond (.t 24) (.region Zvc [2, 3, 4, 5, 18, 19, 20]) .skip)))) (.region Zvd [2, 3, 4, 5, 18, 19, 20]))))
def Zvf : List Z2a := [
  ⟨some 30, (.fad 1), [.t 3], none⟩,
  ⟨some 31, (.load false 1), [.t 30], none⟩,
  ⟨some 32, .lens, [.t 31], none⟩,
  ⟨some 33, (.fad 3), [.t 3], none⟩,
  ⟨some 34, (.load false 1), [.t 33], none⟩,
  ⟨some 35, .lens, [.t 34], none⟩,
  ⟨some 36, .max, [.t 32, .t 35], none⟩,
  ⟨some 37, .mov, [.c (.int .i64 0)], none⟩]
def Zvg : List Z2a := [
  ⟨some 38, (.bin .lss), [.t 37, .t 36], none⟩]
def Zvh : List Z2a := [
  ⟨some 39, .mov, [.t 37], none⟩,
  ⟨some 8, .mov, [.t 39], none⟩]
def Zvi : List Z2a := [
  ⟨some 9, (.alloc (.agg [(.bool false), (.int .i64 0), (.int .i64 0), (.slc 0 [] true), (.slc 0 [] true)])), [], none⟩]
def Zvj : List Z2a := [
  ⟨some 10, .mov, [.c (.int .i64 0)], none⟩]
def Zvk : List Z2a := [
  ⟨some 40, .mov, [.t 8], none⟩,
  ⟨some 41, (.fad 3), [.t 3], none⟩,
  ⟨some 42, (.load false 1), [.t 41], none⟩,
  ⟨some 43, .lens, [.t 42], none⟩,
  ⟨some 44, (.bin .lss), [.t 40, .t 43], none⟩]
def Zvl : List Z2a := [
  ⟨some 45, (.fad 3), [.t 3], none⟩,
  ⟨some 46, (.load false 1), [.t 45], none⟩,
  ⟨some 47, .mov, [.t 8], none⟩,
  ⟨some 48, (.iad 1), [.t 46, .t 47], none⟩,
  ⟨some 49, (.load false 1), [.t 48], none⟩,
  ⟨some 50, (.fad 3), [.t 9], none⟩,
  ⟨none, (.store 1), [.t 50, .t 49], none⟩]
def Zvm : List Z2a := [
  ⟨some 51, (.fad 3), [.t 9], none⟩,
  ⟨some 52, (.load false 1), [.t 51], none⟩,
  ⟨some 53, .lens, [.t 52], none⟩,
  ⟨some 10, .mov, [.t 53], none⟩]
def Zvn : List Z2a := [
  ⟨some 54, (.fad 1), [.t 3], none⟩,
  ⟨some 55, (.load false 1), [.t 54], none⟩,
  ⟨some 56, .mov, [.t 8], none⟩,
  ⟨some 57, (.iad 1), [.t 55, .t 56], none⟩,
  ⟨some 58, (.load false 1), [.t 57], none⟩,
  ⟨some 59, (.fad 1), [.t 9], none⟩,
  ⟨none, (.store 1), [.t 59, .t 58], none⟩]
def Zvo : List Z2a := [
  ⟨some 60, (.fad 1), [.t 9], none⟩,
  ⟨some 61, (.load false 1), [.t 60], none⟩,
  ⟨some 10, .mov, [.t 61], none⟩]
def Zvp : List Z2a := [
  ⟨some 62, .mov, [.t 8], none⟩,
  ⟨some 63, (.fad 2), [.t 3], none⟩,
  ⟨some 64, (.load false 1), [.t 63], none⟩,
  ⟨some 65, .lens, [.t 64], none⟩,
  ⟨some 66, (.bin .lss), [.t 62, .t 65], none⟩]
def Zvq : List Z2a := [
  ⟨some 67, (.fad 2), [.t 3], none⟩,
  ⟨some 68, (.load false 1), [.t 67], none⟩,
  ⟨some 69, .mov, [.t 8], none⟩,
  ⟨some 70, (.iad 1), [.t 68, .t 69], none⟩,
  ⟨some 71, (.load false 1), [.t 70], none⟩,
  ⟨some 72, (.fad 2), [.t 9], none⟩,
  ⟨none, (.store 1), [.t 72, .t 71], none⟩]
def Zvr : List Z2a := [
  ⟨some 73, (.fad 0), [.t 2], none⟩,
  ⟨some 74, (.load false 1), [.t 73], none⟩,
  ⟨some 75, (.call Ze6), [.t 74], none⟩]
def Zvs : List Z2a := [
  ⟨some 76, (.load true 8), [.t 2], none⟩,
  ⟨some 77, (.load true 5), [.t 9], none⟩,
  ⟨some 78, (.load true 5), [.t 9], none⟩,
  ⟨some 79, (.call Ze7), [.t 5, .t 76, .t 77, .t 78], none⟩]
def Zvt : List Z2a := [
  ⟨some 80, .mov, [.t 10], none⟩,
  ⟨some 81, (.call Ze8), [.t 5, .t 80], none⟩]
def Zvu : List Z2a := [
  ⟨some 82, (.bin .add), [.t 37, .c (.int .i64 1)], none⟩,
  ⟨some 37, .mov, [.t 82], none⟩]
def Zvv : Z2b := (.seq (.region Zvg [2, 3, 4, 5, 36, 37, 38]) (.seq (.cond (.t 38) .skip (.exit 2)) (.seq (.block 3 (.seq (.region Zvh [2, 3, 4, 5, 8, 36, 37]) (.seq (.region Zvi [2, 3, 4, 5, 8, 9, 36, 37]) (.seq (.region Zvj [2, 3, 4, 5, 8, 9, 36, 37]) (.seq (.seq (.region Zvk [2, 3, 4, 5, 8, 9, 36, 37, 44]) (.cond (.t 44) (.seq (.region Zvl [2, 3, 4, 5, 8, 9, 36, 37]) (.region Zvm [2, 3, 4, 5, 8, 9, 10, 36, 37])) (.seq (.region Zvn [2, 3, 4, 5, 8, 9, 36, 37]) (.region Zvo [2, 3, 4, 5, 8, 9, 10, 36, 37])))) (.seq (.seq (.region Zvp [2, 3, 4, 5, 8, 9, 10, 36, 37, 66]) (.cond (.t 66) (.region Zvq [2, 3, 4, 5, 9, 10, 36, 37]) .skip)) (.seq (.seq (.region Zvr [2, 3, 4, 5, 9, 10, 36, 37, 75]) (.cond (.t 75) (.region Zvs [2, 3, 4, 5, 10, 36, 37]) .skip)) (.region Zvt [2, 3, 4, 5, 36, 37])))))))) (.region Zvu [2, 3, 4, 5, 36, 37]))))
def Zvw : List Z2a := [
  ⟨some 83, (.load true 15), [.t 5], none⟩,
  ⟨none, (.store 15), [.t 4, .t 83], none⟩]
def Zvx : Z2y := ⟨84, (.seq (.region Zv6 [2, 3, 4]) (.seq (.region Zv7 [2, 3, 4, 5]) (.seq (.seq (.region Zv8 [2, 3, 4, 5, 18, 19, 20]) (.block 0 (.loop Zve))) (.seq (.seq (.region Zvf [2, 3, 4, 5, 36, 37]) (.block 2 (.loop Zvv))) (.seq (.region Zvw [4]) .ret))))), [.cell 4 true 15]⟩
def Zvy : List Z2a := [
  ⟨some 1, (.box 8), [.t 0], none⟩,
  ⟨some 2, (.alloc (.agg [(.int .i64 0), (.bool false), (.bool false), (.bool false), (.int .i64 0), (.int .i64 0), (.slc 0 [] true), (.slc 0 [] true), (.bool false), (.int .i64 0), (.int .i64 0), (.slc 0 [] true), (.slc 0 [] true), (.bool false), (.int .i64 0)])), [], none⟩]
def Zvz : List Z2a := [
  ⟨some 3, (.load true 8), [.t 1], none⟩,
  ⟨some 4, (.bld [(.slc 0 [] true), (.slc 0 [] true), (.slc 0 [] true), (.slc 0 [] true), (.slc 0 [] true)] []), [], none⟩,
  ⟨some 5, (.call Zct), [.t 3, .t 4], none⟩,
  ⟨none, (.store 15), [.t 2, .t 5], none⟩]
def Zw0 : Z2y := ⟨6, (.seq (.region Zvy [1, 2]) (.seq (.region Zvz [2]) .ret)), [.cell 2 true 15]⟩
def Zw1 : List Z2a := [
  ⟨some 4, .mov, [.c (.int .i64 0)], none⟩,
  ⟨some 5, .mov, [.c (.bool false)], none⟩]
def Zw2 : List Z2a := [
  ⟨some 6, .mov, [.t 1], none⟩,
  ⟨some 7, (.bin .gtr), [.t 6, .c (.int .i64 0)], none⟩,
  ⟨some 8, .mov, [.t 7], none⟩,
  ⟨some 9, .mov, [.t 0], some (8, true)⟩,
  ⟨some 10, .mov, [.t 1], some (8, true)⟩,
  ⟨some 11, (.bin .sub), [.c (.int .i64 9223372036854775807), .t 10], some (8, true)⟩,
  ⟨some 12, (.bin .gtr), [.t 9, .t 11], some (8, true)⟩,
  ⟨some 13, .pick, [.t 8, .t 12, .c (.bool false)], none⟩,
  ⟨some 14, .mov, [.t 13], none⟩,
  ⟨some 15, .mov, [.t 1], some (14, false)⟩,
  ⟨some 16, (.bin .lss), [.t 15, .c (.int .i64 0)], some (14, false)⟩,
  ⟨some 17, .mov, [.t 16], some (14, false)⟩,
  ⟨some 18, .mov, [.t 0], some (17, true)⟩,
  ⟨some 19, .mov, [.t 1], some (17, true)⟩,
  ⟨some 20, (.bin .sub), [.c (.int .i64 (-9223372036854775808)), .t 19], some (17, true)⟩,
  ⟨some 21, (.bin .lss), [.t 18, .t 20], some (17, true)⟩,
  ⟨some 22, .pick, [.t 17, .t 21, .c (.bool false)], some (14, false)⟩,
  ⟨some 23, .pick, [.t 14, .c (.bool true), .t 22], none⟩]
def Zw3 : List Z2a := [
  ⟨some 4, .mov, [.c (.int .i64 0)], none⟩,
  ⟨some 5, .mov, [.c (.bool false)], none⟩]
def Zw4 : List Z2a := [
  ⟨some 24, .mov, [.t 0], none⟩,
  ⟨some 25, .mov, [.t 1], none⟩,
  ⟨some 26, (.bin .add), [.t 24, .t 25], none⟩,
  ⟨some 4, .mov, [.t 26], none⟩,
  ⟨some 5, .mov, [.c (.bool true)], none⟩]
def Zw5 : Z2y := ⟨27, (.seq (.region Zw1 [0, 1, 9, 10, 11, 12, 15, 16, 17, 18, 19, 20, 21, 22]) (.seq (.seq (.region Zw2 [0, 1, 23]) (.cond (.t 23) (.seq (.region Zw3 [4, 5]) .ret) .skip)) (.seq (.region Zw4 [4, 5]) .ret))), [.t 4, .t 5]⟩
def Zw6 : List Z2a := [
  ⟨some 2, .mov, [.c (.bool false)], none⟩]
def Zw7 : List Z2a := [
  ⟨some 3, .mov, [.t 0], none⟩]
def Zw8 : List Z2a := [
  ⟨some 5, (.bin .eql), [.t 3, .c (.int .i64 0)], none⟩,
  ⟨some 4, .mov, [.t 5], none⟩]
def Zw9 : List Z2a := [
  ⟨some 6, (.bin .eql), [.t 3, .c (.int .i64 1)], none⟩,
  ⟨some 4, .mov, [.t 6], none⟩]
def Zwa : List Z2a := [
  ⟨some 7, (.bin .eql), [.t 3, .c (.int .i64 2)], none⟩,
  ⟨some 4, .mov, [.t 7], none⟩]
def Zwb : List Z2a := [
  ⟨some 8, (.bin .eql), [.t 3, .c (.int .i64 3)], none⟩,
  ⟨some 4, .mov, [.t 8], none⟩]
def Zwc : List Z2a := [
  ⟨some 9, (.bin .eql), [.t 3, .c (.int .i64 4)], none⟩,
  ⟨some 4, .mov, [.t 9], none⟩]
def Zwd : List Z2a := [
  ⟨some 11, (.bin .eql), [.t 3, .c (.int .i64 7)], none⟩,
  ⟨some 10, .mov, [.t 11], none⟩]
def Zwe : List Z2a := [
  ⟨some 12, (.bin .eql), [.t 3, .c (.int .i64 16)], none⟩,
  ⟨some 10, .mov, [.t 12], none⟩]
def Zwf : List Z2a := [
  ⟨some 13, (.bin .eql), [.t 3, .c (.int .i64 17)], none⟩,
  ⟨some 10, .mov, [.t 13], none⟩]
def Zwg : List Z2a := [
  ⟨some 14, (.bin .eql), [.t 3, .c (.int .i64 8)], none⟩,
  ⟨some 10, .mov, [.t 14], none⟩]
def Zwh : List Z2a := [
  ⟨some 16, (.bin .eql), [.t 3, .c (.int .i64 14)], none⟩,
  ⟨some 15, .mov, [.t 16], none⟩]
def Zwi : List Z2a := [
  ⟨some 2, .mov, [.c (.bool true)], none⟩]
def Zwj : List Z2a := [
  ⟨some 2, .mov, [.c (.bool false)], none⟩]
def Zwk : Z2y := ⟨17, (.seq (.region Zw6 [0]) (.seq (.seq (.region Zw7 [3]) (.block 0 (.seq (.block 3 (.block 2 (.block 1 (.seq (.seq (.seq (.seq (.region Zw8 [3, 4]) (.cond (.t 4) .skip (.seq (.region Zw9 [3, 4]) (.cond (.t 4) .skip (.seq (.region Zwa [3, 4]) (.cond (.t 4) .skip (.seq (.region Zwb [3, 4]) (.cond (.t 4) .skip (.region Zwc [3, 4]))))))))) (.cond (.t 4) (.exit 1) .skip)) (.seq (.seq (.seq (.region Zwd [3, 10]) (.cond (.t 10) .skip (.seq (.region Zwe [3, 10]) (.cond (.t 10) .skip (.seq (.region Zwf [3, 10]) (.cond (.t 10) .skip (.region Zwg [3, 10]))))))) (.cond (.t 10) (.exit 2) .skip)) (.seq (.region Zwh [15]) (.cond (.t 15) (.exit 3) .skip)))) (.exit 0))))) (.seq (.seq (.region Zwi [2]) .ret) (.exit 0))))) (.seq (.region Zwj [2]) .ret))), [.t 2]⟩
def Zwl : List Z2a := [
  ⟨some 2, .mov, [.c (.bool false)], none⟩]
def Zwm : List Z2a := [
  ⟨some 3, .mov, [.t 0], none⟩,
  ⟨some 4, (.call Zfd), [.t 3], none⟩,
  ⟨some 5, .mov, [.t 4], none⟩,
  ⟨some 6, .mov, [.t 0], some (5, true)⟩,
  ⟨some 7, (.bin .neq), [.t 6, .c (.int .i64 0)], some (5, true)⟩,
  ⟨some 8, .pick, [.t 5, .t 7, .c (.bool false)], none⟩,
  ⟨some 9, .mov, [.t 8], none⟩,
  ⟨some 10, .mov, [.t 0], some (9, true)⟩,
  ⟨some 11, (.bin .neq), [.t 10, .c (.int .i64 8)], some (9, true)⟩,
  ⟨some 12, .pick, [.t 9, .t 11, .c (.bool false)], none⟩,
  ⟨some 2, .mov, [.t 12], none⟩]
def Zwn : Z2y := ⟨13, (.seq (.region Zwl [0, 6, 7, 10, 11]) (.seq (.region Zwm [2]) .ret)), [.t 2]⟩
def Zwo : List Z2a := [
  ⟨some 5, (.box 8), [.t 1], none⟩,
  ⟨some 6, (.box 5), [.t 2], none⟩,
  ⟨some 7, (.box 5), [.t 3], none⟩]
def Zwp : List Z2a := [
  ⟨some 13, (.fad 0), [.t 5], none⟩,
  ⟨some 14, (.load false 1), [.t 13], none⟩,
  ⟨some 15, (.bld [(.int .i64 0), (.slc 0 [] true), (.slc 0 [] true), (.int .i64 0), (.int .i64 0), (.int .i64 0)] [(0, 1)]), [.t 14], none⟩,
  ⟨some 8, (.alloc (.agg [(.int .i64 0), (.slc 0 [] true), (.slc 0 [] true), (.int .i64 0), (.int .i64 0), (.int .i64 0)])), [], none⟩,
  ⟨none, (.store 6), [.t 8, .t 15], none⟩]
def Zwq : List Z2a := [
  ⟨some 17, (.load true 6), [.t 8], none⟩,
  ⟨some 18, (.load true 5), [.t 6], none⟩,
  ⟨some 19, .mov, [.t 0], none⟩,
  ⟨some 20, .nilc, [.t 19], none⟩,
  ⟨some 21, (.fad 3), [.t 20], none⟩,
  ⟨some 22, (.load true 5), [.t 21], none⟩,
  ⟨some 23, (.call Zel), [.t 17, .t 18, .t 22], none⟩,
  ⟨some 16, .mov, [.t 23], none⟩,
  ⟨some 24, (.ext 0), [.t 16], none⟩,
  ⟨some 25, (.ext 1), [.t 16], none⟩,
  ⟨some 9, .mov, [.t 24], none⟩,
  ⟨some 10, .mov, [.t 25], none⟩]
def Zwr : List Z2a := [
  ⟨some 26, .mov, [.t 0], none⟩,
  ⟨some 27, .nilc, [.t 26], none⟩,
  ⟨some 28, (.fad 2), [.t 27], none⟩,
  ⟨some 29, (.load false 1), [.t 28], none⟩,
  ⟨some 30, .unot, [.t 29], none⟩,
  ⟨some 31, .mov, [.t 30], none⟩,
  ⟨some 32, .mov, [.t 9], some (31, false)⟩,
  ⟨some 33, (.bin .lss), [.t 32, .c (.int .i64 0)], some (31, false)⟩,
  ⟨some 34, .pick, [.t 31, .c (.bool true), .t 33], none⟩]
def Zws : List Z2a := [
  ⟨some 35, .mov, [.t 0], none⟩,
  ⟨some 36, (.load true 5), [.t 6], none⟩,
  ⟨some 37, (.call Zer), [.t 36], none⟩,
  ⟨some 38, .nilc, [.t 35], none⟩,
  ⟨some 39, (.fad 3), [.t 38], none⟩,
  ⟨none, (.store 5), [.t 39, .t 37], none⟩]
def Zwt : List Z2a := [
  ⟨some 41, (.load true 6), [.t 8], none⟩,
  ⟨some 42, (.load true 5), [.t 7], none⟩,
  ⟨some 43, .mov, [.t 0], none⟩,
  ⟨some 44, .nilc, [.t 43], none⟩,
  ⟨some 45, (.fad 8), [.t 44], none⟩,
  ⟨some 46, (.load true 5), [.t 45], none⟩,
  ⟨some 47, (.call Zel), [.t 41, .t 42, .t 46], none⟩,
  ⟨some 40, .mov, [.t 47], none⟩,
  ⟨some 48, (.ext 0), [.t 40], none⟩,
  ⟨some 49, (.ext 1), [.t 40], none⟩,
  ⟨some 11, .mov, [.t 48], none⟩,
  ⟨some 12, .mov, [.t 49], none⟩]
def Zwu : List Z2a := [
  ⟨some 50, .mov, [.t 0], none⟩,
  ⟨some 51, .nilc, [.t 50], none⟩,
  ⟨some 52, (.fad 2), [.t 51], none⟩,
  ⟨some 53, (.load false 1), [.t 52], none⟩,
  ⟨some 54, .unot, [.t 53], none⟩,
  ⟨some 55, .mov, [.t 54], none⟩,
  ⟨some 56, .mov, [.t 11], some (55, false)⟩,
  ⟨some 57, (.bin .gtr), [.t 56, .c (.int .i64 0)], some (55, false)⟩,
  ⟨some 58, .pick, [.t 55, .c (.bool true), .t 57], none⟩]
def Zwv : List Z2a := [
  ⟨some 59, .mov, [.t 0], none⟩,
  ⟨some 60, (.load true 5), [.t 7], none⟩,
  ⟨some 61, (.call Zer), [.t 60], none⟩,
  ⟨some 62, .nilc, [.t 59], none⟩,
  ⟨some 63, (.fad 8), [.t 62], none⟩,
  ⟨none, (.store 5), [.t 63, .t 61], none⟩]
def Zww : List Z2a := [
  ⟨some 64, .mov, [.t 0], none⟩,
  ⟨some 65, .nilc, [.t 64], none⟩,
  ⟨some 66, (.fad 2), [.t 65], none⟩,
  ⟨none, (.store 1), [.t 66, .c (.bool true)], none⟩]
def Zwx : Z2y := ⟨67, (.seq (.region Zwo [0, 5, 6, 7, 32, 33, 56, 57]) (.seq (.region Zwp [0, 6, 7, 8, 32, 33, 56, 57]) (.seq (.seq (.region Zwq [0, 6, 7, 8, 9, 32, 33, 56, 57]) (.seq (.region Zwr [0, 6, 7, 8, 34, 56, 57]) (.cond (.t 34) (.region Zws [0, 7, 8, 56, 57]) .skip))) (.seq (.seq (.region Zwt [0, 7, 11, 56, 57]) (.seq (.region Zwu [0, 7, 58]) (.cond (.t 58) (.region Zwv [0]) .skip))) (.region Zww []))))), []⟩
def Zwy : List Z2a := [
  ⟨some 4, .mov, [.t 0], none⟩,
  ⟨some 5, .nilc, [.t 4], none⟩,
  ⟨some 6, (.fad 13), [.t 5], none⟩,
  ⟨some 7, (.load false 1), [.t 6], none⟩,
  ⟨some 8, .unot, [.t 7], none⟩]
def Zwz : List Z2a := [
  ⟨some 10, .mov, [.t 0], none⟩,
  ⟨some 11, .mov, [.t 0], none⟩,
  ⟨some 12, .mov, [.t 0], none⟩,
  ⟨some 13, .nilc, [.t 12], none⟩,
  ⟨some 14, (.fad 14), [.t 13], none⟩,
  ⟨some 15, (.load false 1), [.t 14], none⟩,
  ⟨some 16, .mov, [.t 1], none⟩,
  ⟨some 17, (.call Zfe), [.t 15, .t 16], none⟩,
  ⟨some 9, .mov, [.t 17], none⟩,
  ⟨some 18, (.ext 0), [.t 9], none⟩,
  ⟨some 19, (.ext 1), [.t 9], none⟩,
  ⟨some 20, .nilc, [.t 10], none⟩,
  ⟨some 21, (.fad 14), [.t 20], none⟩,
  ⟨none, (.store 1), [.t 21, .t 18], none⟩,
  ⟨some 22, .nilc, [.t 11], none⟩,
  ⟨some 23, (.fad 13), [.t 22], none⟩,
  ⟨none, (.store 1), [.t 23, .t 19], none⟩]
def Zx0 : Z2y := ⟨24, (.seq (.seq (.region Zwy [0, 1, 8]) (.cond (.t 8) .ret .skip)) (.region Zwz [])), []⟩
def Zx1 : List Z2a := [
  ⟨some 4, .mov, [.c (.int .i64 0)], none⟩,
  ⟨some 5, .mov, [.c (.bool false)], none⟩]
def Zx2 : List Z2a := [
  ⟨some 7, .mov, [.t 0], none⟩,
  ⟨some 8, .mov, [.t 1], none⟩,
  ⟨some 9, (.bin .add), [.t 7, .t 8], none⟩,
  ⟨some 6, .mov, [.t 9], none⟩]
def Zx3 : List Z2a := [
  ⟨some 10, .mov, [.t 6], none⟩,
  ⟨some 11, .mov, [.t 0], none⟩,
  ⟨some 12, (.bin .gtr), [.t 10, .t 11], none⟩,
  ⟨some 13, .mov, [.t 1], none⟩,
  ⟨some 14, (.bin .gtr), [.t 13, .c (.int .i64 0)], none⟩,
  ⟨some 15, (.binb .neq), [.t 12, .t 14], none⟩,
  ⟨some 16, .mov, [.t 15], none⟩,
  ⟨some 17, .mov, [.t 1], some (16, true)⟩,
  ⟨some 18, (.bin .neq), [.t 17, .c (.int .i64 0)], some (16, true)⟩,
  ⟨some 19, .pick, [.t 16, .t 18, .c (.bool false)], none⟩]
def Zx4 : List Z2a := [
  ⟨some 4, .mov, [.c (.int .i64 0)], none⟩,
  ⟨some 5, .mov, [.c (.bool false)], none⟩]
def Zx5 : List Z2a := [
  ⟨some 20, .mov, [.t 6], none⟩,
  ⟨some 4, .mov, [.t 20], none⟩,
  ⟨some 5, .mov, [.c (.bool true)], none⟩]
def Zx6 : Z2y := ⟨21, (.seq (.region Zx1 [0, 1, 17, 18]) (.seq (.region Zx2 [0, 1, 6, 17, 18]) (.seq (.seq (.region Zx3 [6, 19]) (.cond (.t 19) (.seq (.region Zx4 [4, 5]) .ret) .skip)) (.seq (.region Zx5 [4, 5]) .ret)))), [.t 4, .t 5]⟩
end Go.Abs
namespace Go.Abs
open Go Go.Proofs
theorem Zx7 : Z2z Try.prog [] Zdl = some Zuj.erase := by kernel_rfl
theorem Zx8 : Z2z Try.prog [] Zdm = some Zus.erase := by kernel_rfl
theorem Zx9 : Z2z Try.prog [] Zew = some Zuv.erase := by kernel_rfl
theorem Zxa : Z2z Try.prog [] Zfy = some Zv5.erase := by kernel_rfl
theorem Zxb : Z2z Try.prog [(1, 4), (1, 1)] Zct = some Zvx.erase := by kernel_rfl
theorem Zxc : Z2z Try.prog [] Zcy = some Zw0.erase := by kernel_rfl
theorem Zxd : Z2z Try.prog [] Zd4 = some Zw5.erase := by kernel_rfl
theorem Zxe : Z2z Try.prog [] Ze5 = some Zwk.erase := by kernel_rfl
theorem Zxf : Z2z Try.prog [] Ze6 = some Zwn.erase := by kernel_rfl
theorem Zxg : Z2z Try.prog [] Ze7 = some Zwx.erase := by kernel_rfl
theorem Zxh : Z2z Try.prog [] Ze8 = some Zx0.erase := by kernel_rfl
theorem Zxi : Z2z Try.prog [] Zfe = some Zx6.erase := by kernel_rfl
end Go.Abs
namespace Go.Abs
open Go Go.Proofs
set_option linter.unusedVariables false
set_option linter.unusedSimpArgs false
set_option maxHeartbeats 4000000
attribute [local irreducible] AWp aops KP
def Zxj (k : Int) : Bool := decide (k = 0) || decide (k = 1) || decide (k = 2) || decide (k = 3) || decide (k = 4) || decide (k = 7) || decide (k = 16) || decide (k = 17) || decide (k = 8) || decide (k = 14)
def Zxk (k : Int) : Bool := Zlt k && (decide (k ≠ 0) && decide (k ≠ 8))
def addF (a b : Int) : Int × Bool := if -9223372036854775808 ≤ a + b ∧ a + b ≤ 9223372036854775807 then (a + b, true) else (0, false)
theorem Zxl (k : Int) (σ : Zc) : Z1q Try.prog Ze5 [.int .i64 k] σ fun r σ' => r = .bool (Zxj k) ∧ σ' = σ := by
  refine Z8t rfl Zxe (Nat.le_of_ble_eq_true rfl) ?_
  by_cases h0 : k = 0
  · subst h0; (repeat (first | refine st_q rfl rfl rfl ?_ | refine Z8v rfl (st_q rfl rfl rfl ?_) | refine Z8w rfl ?_ | refine Z8x rfl ?_ | (refine Z8y ?_; (repeat (first | refine Z9v rfl ?_ | refine Z9w ?_)); refine Z9u ?_) | refine awp_seq ?_ | refine Zbm (fun _ _ => rfl) ?_ | refine Z8h ?_ | refine Zbn (fun _ _ => rfl) ?_ | refine Zbo (fun _ _ => rfl) ?_ | refine Z8f (t := true) rfl (fun _ => ?_) (fun e => by cases e) | refine Z8f (t := false) rfl (fun e => by cases e) (fun _ => ?_))); refine Z8d ?_; exact ares rfl (HSub.refl _) ⟨rfl, rfl⟩
  by_cases h1 : k = 1
  · subst h1; (repeat (first | refine st_q rfl rfl rfl ?_ | refine Z8v rfl (st_q rfl rfl rfl ?_) | refine Z8w rfl ?_ | refine Z8x rfl ?_ | (refine Z8y ?_; (repeat (first | refine Z9v rfl ?_ | refine Z9w ?_)); refine Z9u ?_) | refine awp_seq ?_ | refine Zbm (fun _ _ => rfl) ?_ | refine Z8h ?_ | refine Zbn (fun _ _ => rfl) ?_ | refine Zbo (fun _ _ => rfl) ?_ | refine Z8f (t := true) rfl (fun _ => ?_) (fun e => by cases e) | refine Z8f (t := false) rfl (fun e => by cases e) (fun _ => ?_))); refine Z8d ?_; exact ares rfl (HSub.refl _) ⟨rfl, rfl⟩
  by_cases h2 : k = 2
  · subst h2; (repeat (first | refine st_q rfl rfl rfl ?_ | refine Z8v rfl (st_q rfl rfl rfl ?_) | refine Z8w rfl ?_ | refine Z8x rfl ?_ | (refine Z8y ?_; (repeat (first | refine Z9v rfl ?_ | refine Z9w ?_)); refine Z9u ?_) | refine awp_seq ?_ | refine Zbm (fun _ _ => rfl) ?_ | refine Z8h ?_ | refine Zbn (fun _ _ => rfl) ?_ | refine Zbo (fun _ _ => rfl) ?_ | refine Z8f (t := true) rfl (fun _ => ?_) (fun e => by cases e) | refine Z8f (t := false) rfl (fun e => by cases e) (fun _ => ?_))); refine Z8d ?_; exact ares rfl (HSub.refl _) ⟨rfl, rfl⟩
  by_cases h3 : k = 3
  · subst h3; (repeat (first | refine st_q rfl rfl rfl ?_ | refine Z8v rfl (st_q rfl rfl rfl ?_) | refine Z8w rfl ?_ | refine Z8x rfl ?_ | (refine Z8y ?_; (repeat (first | refine Z9v rfl ?_ | refine Z9w ?_)); refine Z9u ?_) | refine awp_seq ?_ | refine Zbm (fun _ _ => rfl) ?_ | refine Z8h ?_ | refine Zbn (fun _ _ => rfl) ?_ | refine Zbo (fun _ _ => rfl) ?_ | refine Z8f (t := true) rfl (fun _ => ?_) (fun e => by cases e) | refine Z8f (t := false) rfl (fun e => by cases e) (fun _ => ?_))); refine Z8d ?_; exact ares rfl (HSub.refl _) ⟨rfl, rfl⟩
  by_cases h4 : k = 4
  · subst h4; (repeat (first | refine st_q rfl rfl rfl ?_ | refine Z8v rfl (st_q rfl rfl rfl ?_) | refine Z8w rfl ?_ | refine Z8x rfl ?_ | (refine Z8y ?_; (repeat (first | refine Z9v rfl ?_ | refine Z9w ?_)); refine Z9u ?_) | refine awp_seq ?_ | refine Zbm (fun _ _ => rfl) ?_ | refine Z8h ?_ | refine Zbn (fun _ _ => rfl) ?_ | refine Zbo (fun _ _ => rfl) ?_ | refine Z8f (t := true) rfl (fun _ => ?_) (fun e => by cases e) | refine Z8f (t := false) rfl (fun e => by cases e) (fun _ => ?_))); refine Z8d ?_; exact ares rfl (HSub.refl _) ⟨rfl, rfl⟩
  by_cases h7 : k = 7
  · subst h7; (repeat (first | refine st_q rfl rfl rfl ?_ | refine Z8v rfl (st_q rfl rfl rfl ?_) | refine Z8w rfl ?_ | refine Z8x rfl ?_ | (refine Z8y ?_; (repeat (first | refine Z9v rfl ?_ | refine Z9w ?_)); refine Z9u ?_) | refine awp_seq ?_ | refine Zbm (fun _ _ => rfl) ?_ | refine Z8h ?_ | refine Zbn (fun _ _ => rfl) ?_ | refine Zbo (fun _ _ => rfl) ?_ | refine Z8f (t := true) rfl (fun _ => ?_) (fun e => by cases e) | refine Z8f (t := false) rfl (fun e => by cases e) (fun _ => ?_))); refine Z8d ?_; exact ares rfl (HSub.refl _) ⟨rfl, rfl⟩
  by_cases h16 : k = 16
  · subst h16; (repeat (first | refine st_q rfl rfl rfl ?_ | refine Z8v rfl (st_q rfl rfl rfl ?_) | refine Z8w rfl ?_ | refine Z8x rfl ?_ | (refine Z8y ?_; (repeat (first | refine Z9v rfl ?_ | refine Z9w ?_)); refine Z9u ?_) | refine awp_seq ?_ | refine Zbm (fun _ _ => rfl) ?_ | refine Z8h ?_ | refine Zbn (fun _ _ => rfl) ?_ | refine Zbo (fun _ _ => rfl) ?_ | refine Z8f (t := true) rfl (fun _ => ?_) (fun e => by cases e) | refine Z8f (t := false) rfl (fun e => by cases e) (fun _ => ?_))); refine Z8d ?_; exact ares rfl (HSub.refl _) ⟨rfl, rfl⟩
  by_cases h17 : k = 17
  · subst h17; (repeat (first | refine st_q rfl rfl rfl ?_ | refine Z8v rfl (st_q rfl rfl rfl ?_) | refine Z8w rfl ?_ | refine Z8x rfl ?_ | (refine Z8y ?_; (repeat (first | refine Z9v rfl ?_ | refine Z9w ?_)); refine Z9u ?_) | refine awp_seq ?_ | refine Zbm (fun _ _ => rfl) ?_ | refine Z8h ?_ | refine Zbn (fun _ _ => rfl) ?_ | refine Zbo (fun _ _ => rfl) ?_ | refine Z8f (t := true) rfl (fun _ => ?_) (fun e => by cases e) | refine Z8f (t := false) rfl (fun e => by cases e) (fun _ => ?_))); refine Z8d ?_; exact ares rfl (HSub.refl _) ⟨rfl, rfl⟩
  by_cases h8 : k = 8
  · subst h8; (repeat (first | refine st_q rfl rfl rfl ?_ | refine Z8v rfl (st_q rfl rfl rfl ?_) | refine Z8w rfl ?_ | refine Z8x rfl ?_ | (refine Z8y ?_; (repeat (first | refine Z9v rfl ?_ | refine Z9w ?_)); refine Z9u ?_) | refine awp_seq ?_ | refine Zbm (fun _ _ => rfl) ?_ | refine Z8h ?_ | refine Zbn (fun _ _ => rfl) ?_ | refine Zbo (fun _ _ => rfl) ?_ | refine Z8f (t := true) rfl (fun _ => ?_) (fun e => by cases e) | refine Z8f (t := false) rfl (fun e => by cases e) (fun _ => ?_))); refine Z8d ?_; exact ares rfl (HSub.refl _) ⟨rfl, rfl⟩
  by_cases h14 : k = 14
  · subst h14; (repeat (first | refine st_q rfl rfl rfl ?_ | refine Z8v rfl (st_q rfl rfl rfl ?_) | refine Z8w rfl ?_ | refine Z8x rfl ?_ | (refine Z8y ?_; (repeat (first | refine Z9v rfl ?_ | refine Z9w ?_)); refine Z9u ?_) | refine awp_seq ?_ | refine Zbm (fun _ _ => rfl) ?_ | refine Z8h ?_ | refine Zbn (fun _ _ => rfl) ?_ | refine Zbo (fun _ _ => rfl) ?_ | refine Z8f (t := true) rfl (fun _ => ?_) (fun e => by cases e) | refine Z8f (t := false) rfl (fun e => by cases e) (fun _ => ?_))); refine Z8d ?_; exact ares rfl (HSub.refl _) ⟨rfl, rfl⟩
  (repeat (first | refine st_q rfl rfl rfl ?_ | refine Z8v rfl (st_q rfl rfl rfl ?_) | refine Z8w rfl ?_ | refine Z8x rfl ?_ | (refine Z8y ?_; (repeat (first | refine Z9v rfl ?_ | refine Z9w ?_)); refine Z9u ?_) | refine awp_seq ?_ | refine Zbm (fun _ _ => rfl) ?_ | refine Z8h ?_ | refine Zbn (fun _ _ => rfl) ?_ | refine Zbo (fun _ _ => rfl) ?_ | refine Z8f (t := true) rfl (fun _ => ?_) (fun e => by cases e) | refine Z8f (t := false) rfl (fun e => by cases e) (fun _ => ?_)))
  (rw [show decide (k = 0) = false from decide_eq_false (by omega)])
  (repeat (first | refine st_q rfl rfl rfl ?_ | refine Z8v rfl (st_q rfl rfl rfl ?_) | refine Z8w rfl ?_ | refine Z8x rfl ?_ | (refine Z8y ?_; (repeat (first | refine Z9v rfl ?_ | refine Z9w ?_)); refine Z9u ?_) | refine awp_seq ?_ | refine Zbm (fun _ _ => rfl) ?_ | refine Z8h ?_ | refine Zbn (fun _ _ => rfl) ?_ | refine Zbo (fun _ _ => rfl) ?_ | refine Z8f (t := true) rfl (fun _ => ?_) (fun e => by cases e) | refine Z8f (t := false) rfl (fun e => by cases e) (fun _ => ?_)))
  (rw [show decide (k = 1) = false from decide_eq_false (by omega)])
  (repeat (first | refine st_q rfl rfl rfl ?_ | refine Z8v rfl (st_q rfl rfl rfl ?_) | refine Z8w rfl ?_ | refine Z8x rfl ?_ | (refine Z8y ?_; (repeat (first | refine Z9v rfl ?_ | refine Z9w ?_)); refine Z9u ?_) | refine awp_seq ?_ | refine Zbm (fun _ _ => rfl) ?_ | refine Z8h ?_ | refine Zbn (fun _ _ => rfl) ?_ | refine Zbo (fun _ _ => rfl) ?_ | refine Z8f (t := true) rfl (fun _ => ?_) (fun e => by cases e) | refine Z8f (t := false) rfl (fun e => by cases e) (fun _ => ?_)))
  (rw [show decide (k = 2) = false from decide_eq_false (by omega)])
  (repeat (first | refine st_q rfl rfl rfl ?_ | refine Z8v rfl (st_q rfl rfl rfl ?_) | refine Z8w rfl ?_ | refine Z8x rfl ?_ | (refine Z8y ?_; (repeat (first | refine Z9v rfl ?_ | refine Z9w ?_)); refine Z9u ?_) | refine awp_seq ?_ | refine Zbm (fun _ _ => rfl) ?_ | refine Z8h ?_ | refine Zbn (fun _ _ => rfl) ?_ | refine Zbo (fun _ _ => rfl) ?_ | refine Z8f (t := true) rfl (fun _ => ?_) (fun e => by cases e) | refine Z8f (t := false) rfl (fun e => by cases e) (fun _ => ?_)))
  (rw [show decide (k = 3) = false from decide_eq_false (by omega)])
  (repeat (first | refine st_q rfl rfl rfl ?_ | refine Z8v rfl (st_q rfl rfl rfl ?_) | refine Z8w rfl ?_ | refine Z8x rfl ?_ | (refine Z8y ?_; (repeat (first | refine Z9v rfl ?_ | refine Z9w ?_)); refine Z9u ?_) | refine awp_seq ?_ | refine Zbm (fun _ _ => rfl) ?_ | refine Z8h ?_ | refine Zbn (fun _ _ => rfl) ?_ | refine Zbo (fun _ _ => rfl) ?_ | refine Z8f (t := true) rfl (fun _ => ?_) (fun e => by cases e) | refine Z8f (t := false) rfl (fun e => by cases e) (fun _ => ?_)))
  (rw [show decide (k = 4) = false from decide_eq_false (by omega)])
  (repeat (first | refine st_q rfl rfl rfl ?_ | refine Z8v rfl (st_q rfl rfl rfl ?_) | refine Z8w rfl ?_ | refine Z8x rfl ?_ | (refine Z8y ?_; (repeat (first | refine Z9v rfl ?_ | refine Z9w ?_)); refine Z9u ?_) | refine awp_seq ?_ | refine Zbm (fun _ _ => rfl) ?_ | refine Z8h ?_ | refine Zbn (fun _ _ => rfl) ?_ | refine Zbo (fun _ _ => rfl) ?_ | refine Z8f (t := true) rfl (fun _ => ?_) (fun e => by cases e) | refine Z8f (t := false) rfl (fun e => by cases e) (fun _ => ?_)))
  (rw [show decide (k = 7) = false from decide_eq_false (by omega)])
  (repeat (first | refine st_q rfl rfl rfl ?_ | refine Z8v rfl (st_q rfl rfl rfl ?_) | refine Z8w rfl ?_ | refine Z8x rfl ?_ | (refine Z8y ?_; (repeat (first | refine Z9v rfl ?_ | refine Z9w ?_)); refine Z9u ?_) | refine awp_seq ?_ | refine Zbm (fun _ _ => rfl) ?_ | refine Z8h ?_ | refine Zbn (fun _ _ => rfl) ?_ | refine Zbo (fun _ _ => rfl) ?_ | refine Z8f (t := true) rfl (fun _ => ?_) (fun e => by cases e) | refine Z8f (t := false) rfl (fun e => by cases e) (fun _ => ?_)))
  (rw [show decide (k = 16) = false from decide_eq_false (by omega)])
  (repeat (first | refine st_q rfl rfl rfl ?_ | refine Z8v rfl (st_q rfl rfl rfl ?_) | refine Z8w rfl ?_ | refine Z8x rfl ?_ | (refine Z8y ?_; (repeat (first | refine Z9v rfl ?_ | refine Z9w ?_)); refine Z9u ?_) | refine awp_seq ?_ | refine Zbm (fun _ _ => rfl) ?_ | refine Z8h ?_ | refine Zbn (fun _ _ => rfl) ?_ | refine Zbo (fun _ _ => rfl) ?_ | refine Z8f (t := true) rfl (fun _ => ?_) (fun e => by cases e) | refine Z8f (t := false) rfl (fun e => by cases e) (fun _ => ?_)))
  (rw [show decide (k = 17) = false from decide_eq_false (by omega)])
  (repeat (first | refine st_q rfl rfl rfl ?_ | refine Z8v rfl (st_q rfl rfl rfl ?_) | refine Z8w rfl ?_ | refine Z8x rfl ?_ | (refine Z8y ?_; (repeat (first | refine Z9v rfl ?_ | refine Z9w ?_)); refine Z9u ?_) | refine awp_seq ?_ | refine Zbm (fun _ _ => rfl) ?_ | refine Z8h ?_ | refine Zbn (fun _ _ => rfl) ?_ | refine Zbo (fun _ _ => rfl) ?_ | refine Z8f (t := true) rfl (fun _ => ?_) (fun e => by cases e) | refine Z8f (t := false) rfl (fun e => by cases e) (fun _ => ?_)))
  (rw [show decide (k = 8) = false from decide_eq_false (by omega)])
  (repeat (first | refine st_q rfl rfl rfl ?_ | refine Z8v rfl (st_q rfl rfl rfl ?_) | refine Z8w rfl ?_ | refine Z8x rfl ?_ | (refine Z8y ?_; (repeat (first | refine Z9v rfl ?_ | refine Z9w ?_)); refine Z9u ?_) | refine awp_seq ?_ | refine Zbm (fun _ _ => rfl) ?_ | refine Z8h ?_ | refine Zbn (fun _ _ => rfl) ?_ | refine Zbo (fun _ _ => rfl) ?_ | refine Z8f (t := true) rfl (fun _ => ?_) (fun e => by cases e) | refine Z8f (t := false) rfl (fun e => by cases e) (fun _ => ?_)))
  (rw [show decide (k = 14) = false from decide_eq_false (by omega)])
  (repeat (first | refine st_q rfl rfl rfl ?_ | refine Z8v rfl (st_q rfl rfl rfl ?_) | refine Z8w rfl ?_ | refine Z8x rfl ?_ | (refine Z8y ?_; (repeat (first | refine Z9v rfl ?_ | refine Z9w ?_)); refine Z9u ?_) | refine awp_seq ?_ | refine Zbm (fun _ _ => rfl) ?_ | refine Z8h ?_ | refine Zbn (fun _ _ => rfl) ?_ | refine Zbo (fun _ _ => rfl) ?_ | refine Z8f (t := true) rfl (fun _ => ?_) (fun e => by cases e) | refine Z8f (t := false) rfl (fun e => by cases e) (fun _ => ?_)))
  refine Z8d ?_
  exact ares rfl (HSub.refl _) ⟨by simp [Zxj, Z8m, h0, h1, h2, h3, h4, h7, h16, h17, h8, h14], rfl⟩
theorem Zxm (k : Int) (σ : Zc) : Z1q Try.prog Ze6 [.int .i64 k] σ fun r σ' => r = .bool (Zxk k) ∧ σ' = σ := by
  refine Z8t rfl Zxf (Nat.le_of_ble_eq_true rfl) ?_
  (repeat (first | refine st_q rfl rfl rfl ?_ | refine Z8v rfl (st_q rfl rfl rfl ?_) | refine Z8w rfl ?_ | refine Z8x rfl ?_ | (refine Z8y ?_; (repeat (first | refine Z9v rfl ?_ | refine Z9w ?_)); refine Z9u ?_) | refine awp_seq ?_ | refine Zbm (fun _ _ => rfl) ?_ | refine Z8h ?_ | refine Zbn (fun _ _ => rfl) ?_ | refine Zbo (fun _ _ => rfl) ?_ | refine Z8f (t := true) rfl (fun _ => ?_) (fun e => by cases e) | refine Z8f (t := false) rfl (fun e => by cases e) (fun _ => ?_)))
  refine Z9t rfl (Zmw k _) ?_
  cases hl : Zlt k with
  | false =>
    (repeat (first | refine st_q rfl rfl rfl ?_ | refine Z8v rfl (st_q rfl rfl rfl ?_) | refine Z8w rfl ?_ | refine Z8x rfl ?_ | (refine Z8y ?_; (repeat (first | refine Z9v rfl ?_ | refine Z9w ?_)); refine Z9u ?_) | refine awp_seq ?_ | refine Zbm (fun _ _ => rfl) ?_ | refine Z8h ?_ | refine Zbn (fun _ _ => rfl) ?_ | refine Zbo (fun _ _ => rfl) ?_ | refine Z8f (t := true) rfl (fun _ => ?_) (fun e => by cases e) | refine Z8f (t := false) rfl (fun e => by cases e) (fun _ => ?_)))
    refine Z8d ?_
    exact ares rfl (HSub.refl _) ⟨by simp [Zxk, Z8m, hl], rfl⟩
  | true =>
    (repeat (first | refine st_q rfl rfl rfl ?_ | refine Z8v rfl (st_q rfl rfl rfl ?_) | refine Z8w rfl ?_ | refine Z8x rfl ?_ | (refine Z8y ?_; (repeat (first | refine Z9v rfl ?_ | refine Z9w ?_)); refine Z9u ?_) | refine awp_seq ?_ | refine Zbm (fun _ _ => rfl) ?_ | refine Z8h ?_ | refine Zbn (fun _ _ => rfl) ?_ | refine Zbo (fun _ _ => rfl) ?_ | refine Z8f (t := true) rfl (fun _ => ?_) (fun e => by cases e) | refine Z8f (t := false) rfl (fun e => by cases e) (fun _ => ?_)))
    by_cases h0 : k = 0
    · (rw [show decide (k ≠ 0) = false from decide_eq_false (by omega)])
      (repeat (first | refine st_q rfl rfl rfl ?_ | refine Z8v rfl (st_q rfl rfl rfl ?_) | refine Z8w rfl ?_ | refine Z8x rfl ?_ | (refine Z8y ?_; (repeat (first | refine Z9v rfl ?_ | refine Z9w ?_)); refine Z9u ?_) | refine awp_seq ?_ | refine Zbm (fun _ _ => rfl) ?_ | refine Z8h ?_ | refine Zbn (fun _ _ => rfl) ?_ | refine Zbo (fun _ _ => rfl) ?_ | refine Z8f (t := true) rfl (fun _ => ?_) (fun e => by cases e) | refine Z8f (t := false) rfl (fun e => by cases e) (fun _ => ?_)))
      refine Z8d ?_
      exact ares rfl (HSub.refl _) ⟨by simp [Zxk, Z8m, h0], rfl⟩
    · (rw [show decide (k ≠ 0) = true from decide_eq_true (by omega)])
      (repeat (first | refine st_q rfl rfl rfl ?_ | refine Z8v rfl (st_q rfl rfl rfl ?_) | refine Z8w rfl ?_ | refine Z8x rfl ?_ | (refine Z8y ?_; (repeat (first | refine Z9v rfl ?_ | refine Z9w ?_)); refine Z9u ?_) | refine awp_seq ?_ | refine Zbm (fun _ _ => rfl) ?_ | refine Z8h ?_ | refine Zbn (fun _ _ => rfl) ?_ | refine Zbo (fun _ _ => rfl) ?_ | refine Z8f (t := true) rfl (fun _ => ?_) (fun e => by cases e) | refine Z8f (t := false) rfl (fun e => by cases e) (fun _ => ?_)))
      refine Z8d ?_
      exact ares rfl (HSub.refl _) ⟨by simp [Zxk, Z8m, hl, h0], rfl⟩
theorem Zxn (a b : Int) (ha : -9223372036854775808 ≤ a ∧ a ≤ 9223372036854775807) (hb : -9223372036854775808 ≤ b ∧ b ≤ 9223372036854775807) (σ : Zc) : Z1q Try.prog Zfe [.int .i64 a, .int .i64 b] σ fun r σ' => r = .tup [.int .i64 (addF a b).1, .bool (addF a b).2] ∧ σ' = σ := by
  refine Z8t rfl Zxi (Nat.le_of_ble_eq_true rfl) ?_
  have hw : IntKind.wrap .i64 (a + b) = if -9223372036854775808 ≤ a + b ∧ a + b ≤ 9223372036854775807 then a + b else if 0 ≤ a then a + b - 18446744073709551616 else a + b + 18446744073709551616 := by
    split
    · rename_i h; exact w64 _ h.1 h.2
    · simp [IntKind.wrap, IntKind.bits, IntKind.signed]; split <;> omega
  generalize hs : IntKind.wrap .i64 (a + b) = s at hw
  (repeat (first | refine st_q rfl rfl rfl ?_ | refine Z8v rfl (st_q rfl rfl rfl ?_) | refine Z8w rfl ?_ | refine Z8x rfl ?_ | (refine Z8y ?_; (repeat (first | refine Z9v rfl ?_ | refine Z9w ?_)); refine Z9u ?_) | refine awp_seq ?_ | refine Zbm (fun _ _ => rfl) ?_ | refine Z8h ?_ | refine Zbn (fun _ _ => rfl) ?_ | refine Zbo (fun _ _ => rfl) ?_ | refine Z8f (t := true) rfl (fun _ => ?_) (fun e => by cases e) | refine Z8f (t := false) rfl (fun e => by cases e) (fun _ => ?_)))
  rw [hs]
  (repeat (first | refine st_q rfl rfl rfl ?_ | refine Z8v rfl (st_q rfl rfl rfl ?_) | refine Z8w rfl ?_ | refine Z8x rfl ?_ | (refine Z8y ?_; (repeat (first | refine Z9v rfl ?_ | refine Z9w ?_)); refine Z9u ?_) | refine awp_seq ?_ | refine Zbm (fun _ _ => rfl) ?_ | refine Z8h ?_ | refine Zbn (fun _ _ => rfl) ?_ | refine Zbo (fun _ _ => rfl) ?_ | refine Z8f (t := true) rfl (fun _ => ?_) (fun e => by cases e) | refine Z8f (t := false) rfl (fun e => by cases e) (fun _ => ?_)))
  by_cases h : -9223372036854775808 ≤ a + b ∧ a + b ≤ 9223372036854775807
  · rw [if_pos h] at hw
    have hA : addF a b = (a + b, true) := if_pos h
    rw [hA]
    by_cases h1 : decide (a < s) = decide (0 < b)
    · rw [show (!(decide (a < s) == decide (0 < b))) = false by rw [h1]; simp]
      (repeat (first | refine st_q rfl rfl rfl ?_ | refine Z8v rfl (st_q rfl rfl rfl ?_) | refine Z8w rfl ?_ | refine Z8x rfl ?_ | (refine Z8y ?_; (repeat (first | refine Z9v rfl ?_ | refine Z9w ?_)); refine Z9u ?_) | refine awp_seq ?_ | refine Zbm (fun _ _ => rfl) ?_ | refine Z8h ?_ | refine Zbn (fun _ _ => rfl) ?_ | refine Zbo (fun _ _ => rfl) ?_ | refine Z8f (t := true) rfl (fun _ => ?_) (fun e => by cases e) | refine Z8f (t := false) rfl (fun e => by cases e) (fun _ => ?_)))
      refine Z8d ?_
      exact ares rfl (HSub.refl _) ⟨by rw [hw]; rfl, rfl⟩
    · have hb0 : b = 0 := by
        rcases Decidable.em (0 < b) with q | q <;> rcases Decidable.em (a < s) with q2 | q2 <;> simp [q, q2] at h1 <;> omega
      rw [show (!(decide (a < s) == decide (0 < b))) = true by simpa using h1]
      (repeat (first | refine st_q rfl rfl rfl ?_ | refine Z8v rfl (st_q rfl rfl rfl ?_) | refine Z8w rfl ?_ | refine Z8x rfl ?_ | (refine Z8y ?_; (repeat (first | refine Z9v rfl ?_ | refine Z9w ?_)); refine Z9u ?_) | refine awp_seq ?_ | refine Zbm (fun _ _ => rfl) ?_ | refine Z8h ?_ | refine Zbn (fun _ _ => rfl) ?_ | refine Zbo (fun _ _ => rfl) ?_ | refine Z8f (t := true) rfl (fun _ => ?_) (fun e => by cases e) | refine Z8f (t := false) rfl (fun e => by cases e) (fun _ => ?_)))
      (rw [show decide (b ≠ 0) = false from decide_eq_false (by omega)])
      (repeat (first | refine st_q rfl rfl rfl ?_ | refine Z8v rfl (st_q rfl rfl rfl ?_) | refine Z8w rfl ?_ | refine Z8x rfl ?_ | (refine Z8y ?_; (repeat (first | refine Z9v rfl ?_ | refine Z9w ?_)); refine Z9u ?_) | refine awp_seq ?_ | refine Zbm (fun _ _ => rfl) ?_ | refine Z8h ?_ | refine Zbn (fun _ _ => rfl) ?_ | refine Zbo (fun _ _ => rfl) ?_ | refine Z8f (t := true) rfl (fun _ => ?_) (fun e => by cases e) | refine Z8f (t := false) rfl (fun e => by cases e) (fun _ => ?_)))
      refine Z8d ?_
      exact ares rfl (HSub.refl _) ⟨by rw [hw]; rfl, rfl⟩
  · rw [if_neg h] at hw
    have hA : addF a b = (0, false) := if_neg h
    rw [hA]
    have h1 : decide (a < s) ≠ decide (0 < b) := by
      intro e
      rcases Decidable.em (0 < b) with q | q <;> rcases Decidable.em (a < s) with q2 | q2 <;> simp [q, q2] at e <;> (split at hw <;> omega)
    rw [show (!(decide (a < s) == decide (0 < b))) = true by simpa using h1]
    (repeat (first | refine st_q rfl rfl rfl ?_ | refine Z8v rfl (st_q rfl rfl rfl ?_) | refine Z8w rfl ?_ | refine Z8x rfl ?_ | (refine Z8y ?_; (repeat (first | refine Z9v rfl ?_ | refine Z9w ?_)); refine Z9u ?_) | refine awp_seq ?_ | refine Zbm (fun _ _ => rfl) ?_ | refine Z8h ?_ | refine Zbn (fun _ _ => rfl) ?_ | refine Zbo (fun _ _ => rfl) ?_ | refine Z8f (t := true) rfl (fun _ => ?_) (fun e => by cases e) | refine Z8f (t := false) rfl (fun e => by cases e) (fun _ => ?_)))
    have hb0 : b ≠ 0 := by omega
    (rw [show decide (b ≠ 0) = true from decide_eq_true (by omega)])
    (repeat (first | refine st_q rfl rfl rfl ?_ | refine Z8v rfl (st_q rfl rfl rfl ?_) | refine Z8w rfl ?_ | refine Z8x rfl ?_ | (refine Z8y ?_; (repeat (first | refine Z9v rfl ?_ | refine Z9w ?_)); refine Z9u ?_) | refine awp_seq ?_ | refine Zbm (fun _ _ => rfl) ?_ | refine Z8h ?_ | refine Zbn (fun _ _ => rfl) ?_ | refine Zbo (fun _ _ => rfl) ?_ | refine Z8f (t := true) rfl (fun _ => ?_) (fun e => by cases e) | refine Z8f (t := false) rfl (fun e => by cases e) (fun _ => ?_)))
    refine Z8d ?_
    exact ares rfl (HSub.refl _) ⟨rfl, rfl⟩
theorem Zxo (a b : Int) (ha : -9223372036854775808 ≤ a ∧ a ≤ 9223372036854775807) (hb : -9223372036854775808 ≤ b ∧ b ≤ 9223372036854775807) (σ : Zc) : Z1q Try.prog Zd4 [.int .i64 a, .int .i64 b] σ fun r σ' => r = .tup [.int .i64 (addF a b).1, .bool (addF a b).2] ∧ σ' = σ := by
  refine Z8t rfl Zxd (Nat.le_of_ble_eq_true rfl) ?_
  (repeat (first | refine st_q rfl rfl rfl ?_ | refine Z8v rfl (st_q rfl rfl rfl ?_) | refine Z8w rfl ?_ | refine Z8x rfl ?_ | (refine Z8y ?_; (repeat (first | refine Z9v rfl ?_ | refine Z9w ?_)); refine Z9u ?_) | refine awp_seq ?_ | refine Zbm (fun _ _ => rfl) ?_ | refine Z8h ?_ | refine Zbn (fun _ _ => rfl) ?_ | refine Zbo (fun _ _ => rfl) ?_ | refine Z8f (t := true) rfl (fun _ => ?_) (fun e => by cases e) | refine Z8f (t := false) rfl (fun e => by cases e) (fun _ => ?_)))
  by_cases h1 : 0 < b
  · (rw [show decide (0 < b) = true from decide_eq_true (by omega)])
    (repeat (first | refine st_q rfl rfl rfl ?_ | refine Z8v rfl (st_q rfl rfl rfl ?_) | refine Z8w rfl ?_ | refine Z8x rfl ?_ | (refine Z8y ?_; (repeat (first | refine Z9v rfl ?_ | refine Z9w ?_)); refine Z9u ?_) | refine awp_seq ?_ | refine Zbm (fun _ _ => rfl) ?_ | refine Z8h ?_ | refine Zbn (fun _ _ => rfl) ?_ | refine Zbo (fun _ _ => rfl) ?_ | refine Z8f (t := true) rfl (fun _ => ?_) (fun e => by cases e) | refine Z8f (t := false) rfl (fun e => by cases e) (fun _ => ?_)))
    rw [w64 (9223372036854775807 - b) (by omega) (by omega)]
    by_cases h2 : 9223372036854775807 - b < a
    · (rw [show decide (9223372036854775807 - b < a) = true from decide_eq_true (by omega)])
      (repeat (first | refine st_q rfl rfl rfl ?_ | refine Z8v rfl (st_q rfl rfl rfl ?_) | refine Z8w rfl ?_ | refine Z8x rfl ?_ | (refine Z8y ?_; (repeat (first | refine Z9v rfl ?_ | refine Z9w ?_)); refine Z9u ?_) | refine awp_seq ?_ | refine Zbm (fun _ _ => rfl) ?_ | refine Z8h ?_ | refine Zbn (fun _ _ => rfl) ?_ | refine Zbo (fun _ _ => rfl) ?_ | refine Z8f (t := true) rfl (fun _ => ?_) (fun e => by cases e) | refine Z8f (t := false) rfl (fun e => by cases e) (fun _ => ?_)))
      refine Z8d ?_
      exact ares rfl (HSub.refl _) ⟨by rw [addF, if_neg (by omega)]; rfl, rfl⟩
    · (rw [show decide (9223372036854775807 - b < a) = false from decide_eq_false (by omega)])
      (repeat (first | refine st_q rfl rfl rfl ?_ | refine Z8v rfl (st_q rfl rfl rfl ?_) | refine Z8w rfl ?_ | refine Z8x rfl ?_ | (refine Z8y ?_; (repeat (first | refine Z9v rfl ?_ | refine Z9w ?_)); refine Z9u ?_) | refine awp_seq ?_ | refine Zbm (fun _ _ => rfl) ?_ | refine Z8h ?_ | refine Zbn (fun _ _ => rfl) ?_ | refine Zbo (fun _ _ => rfl) ?_ | refine Z8f (t := true) rfl (fun _ => ?_) (fun e => by cases e) | refine Z8f (t := false) rfl (fun e => by cases e) (fun _ => ?_)))
      (rw [show decide (b < 0) = false from decide_eq_false (by omega)])
      (repeat (first | refine st_q rfl rfl rfl ?_ | refine Z8v rfl (st_q rfl rfl rfl ?_) | refine Z8w rfl ?_ | refine Z8x rfl ?_ | (refine Z8y ?_; (repeat (first | refine Z9v rfl ?_ | refine Z9w ?_)); refine Z9u ?_) | refine awp_seq ?_ | refine Zbm (fun _ _ => rfl) ?_ | refine Z8h ?_ | refine Zbn (fun _ _ => rfl) ?_ | refine Zbo (fun _ _ => rfl) ?_ | refine Z8f (t := true) rfl (fun _ => ?_) (fun e => by cases e) | refine Z8f (t := false) rfl (fun e => by cases e) (fun _ => ?_)))
      refine Z8d ?_
      exact ares rfl (HSub.refl _) ⟨by rw [addF, if_pos (by omega), w64 _ (by omega) (by omega)]; rfl, rfl⟩
  · (rw [show decide (0 < b) = false from decide_eq_false (by omega)])
    (repeat (first | refine st_q rfl rfl rfl ?_ | refine Z8v rfl (st_q rfl rfl rfl ?_) | refine Z8w rfl ?_ | refine Z8x rfl ?_ | (refine Z8y ?_; (repeat (first | refine Z9v rfl ?_ | refine Z9w ?_)); refine Z9u ?_) | refine awp_seq ?_ | refine Zbm (fun _ _ => rfl) ?_ | refine Z8h ?_ | refine Zbn (fun _ _ => rfl) ?_ | refine Zbo (fun _ _ => rfl) ?_ | refine Z8f (t := true) rfl (fun _ => ?_) (fun e => by cases e) | refine Z8f (t := false) rfl (fun e => by cases e) (fun _ => ?_)))
    by_cases h2 : b < 0
    · (rw [show decide (b < 0) = true from decide_eq_true (by omega)])
      (repeat (first | refine st_q rfl rfl rfl ?_ | refine Z8v rfl (st_q rfl rfl rfl ?_) | refine Z8w rfl ?_ | refine Z8x rfl ?_ | (refine Z8y ?_; (repeat (first | refine Z9v rfl ?_ | refine Z9w ?_)); refine Z9u ?_) | refine awp_seq ?_ | refine Zbm (fun _ _ => rfl) ?_ | refine Z8h ?_ | refine Zbn (fun _ _ => rfl) ?_ | refine Zbo (fun _ _ => rfl) ?_ | refine Z8f (t := true) rfl (fun _ => ?_) (fun e => by cases e) | refine Z8f (t := false) rfl (fun e => by cases e) (fun _ => ?_)))
      rw [w64 (-9223372036854775808 - b) (by omega) (by omega)]
      by_cases h3 : a < -9223372036854775808 - b
      · (rw [show decide (a < -9223372036854775808 - b) = true from decide_eq_true (by omega)])
        (repeat (first | refine st_q rfl rfl rfl ?_ | refine Z8v rfl (st_q rfl rfl rfl ?_) | refine Z8w rfl ?_ | refine Z8x rfl ?_ | (refine Z8y ?_; (repeat (first | refine Z9v rfl ?_ | refine Z9w ?_)); refine Z9u ?_) | refine awp_seq ?_ | refine Zbm (fun _ _ => rfl) ?_ | refine Z8h ?_ | refine Zbn (fun _ _ => rfl) ?_ | refine Zbo (fun _ _ => rfl) ?_ | refine Z8f (t := true) rfl (fun _ => ?_) (fun e => by cases e) | refine Z8f (t := false) rfl (fun e => by cases e) (fun _ => ?_)))
        refine Z8d ?_
        exact ares rfl (HSub.refl _) ⟨by rw [addF, if_neg (by omega)]; rfl, rfl⟩
      · (rw [show decide (a < -9223372036854775808 - b) = false from decide_eq_false (by omega)])
        (repeat (first | refine st_q rfl rfl rfl ?_ | refine Z8v rfl (st_q rfl rfl rfl ?_) | refine Z8w rfl ?_ | refine Z8x rfl ?_ | (refine Z8y ?_; (repeat (first | refine Z9v rfl ?_ | refine Z9w ?_)); refine Z9u ?_) | refine awp_seq ?_ | refine Zbm (fun _ _ => rfl) ?_ | refine Z8h ?_ | refine Zbn (fun _ _ => rfl) ?_ | refine Zbo (fun _ _ => rfl) ?_ | refine Z8f (t := true) rfl (fun _ => ?_) (fun e => by cases e) | refine Z8f (t := false) rfl (fun e => by cases e) (fun _ => ?_)))
        refine Z8d ?_
        exact ares rfl (HSub.refl _) ⟨by rw [addF, if_pos (by omega), w64 _ (by omega) (by omega)]; rfl, rfl⟩
    · (rw [show decide (b < 0) = false from decide_eq_false (by omega)])
      (repeat (first | refine st_q rfl rfl rfl ?_ | refine Z8v rfl (st_q rfl rfl rfl ?_) | refine Z8w rfl ?_ | refine Z8x rfl ?_ | (refine Z8y ?_; (repeat (first | refine Z9v rfl ?_ | refine Z9w ?_)); refine Z9u ?_) | refine awp_seq ?_ | refine Zbm (fun _ _ => rfl) ?_ | refine Z8h ?_ | refine Zbn (fun _ _ => rfl) ?_ | refine Zbo (fun _ _ => rfl) ?_ | refine Z8f (t := true) rfl (fun _ => ?_) (fun e => by cases e) | refine Z8f (t := false) rfl (fun e => by cases e) (fun _ => ?_)))
      refine Z8d ?_
      exact ares rfl (HSub.refl _) ⟨by rw [addF, if_pos (by omega), w64 _ (by omega) (by omega)]; rfl, rfl⟩
end Go.Abs
namespace Go.Abs
open Go Go.Proofs
set_option linter.unusedVariables false
set_option linter.unusedSimpArgs false
set_option maxHeartbeats 4000000
attribute [local irreducible] AWp aops KP
structure Stt where
  count : Int
  null : Bool
  has : Bool
  min : Vl
  max : Vl
  sums : Bool
  sum : Int
def vl0 : Vl := .mk false 0 0 [] []
def Zxp (s : Stt) : List Z0 := [.int .i64 s.count, .bool s.null, .bool s.has,
  .bool s.min.null, .int .i64 s.min.i, .int .i64 s.min.n, .slc 1 (bytes s.min.b) false, .slc 5 (Zm5 s.min.kids) false,
  .bool s.max.null, .int .i64 s.max.i, .int .i64 s.max.n, .slc 1 (bytes s.max.b) false, .slc 5 (Zm5 s.max.kids) false,
  .bool s.sums, .int .i64 s.sum]
def encS (s : Stt) : Z0 := .agg (Zxp s)
def Zxq (s : Stt) (v : Int) : Stt := if s.sums = true then { s with sum := (addF s.sum v).1, sums := (addF s.sum v).2 } else s
def Zxr (k : Int) (s : Stt) (lo hi : Vl) : Stt :=
  { s with min := if s.has = false ∨ (cmpV k lo s.min).1 < 0 then lo else s.min, max := if s.has = false ∨ 0 < (cmpV k hi s.max).1 then hi else s.max, has := true }
theorem Zxs (s : Stt) (v : Int) (hs : -9223372036854775808 ≤ s.sum ∧ s.sum ≤ 9223372036854775807) (hv : -9223372036854775808 ≤ v ∧ v ≤ 9223372036854775807) (b : Nat) (σ : Zc) :
    Z1q Try.prog Ze8 [.ptr b 0 0, .int .i64 v] ((b, .cells 15 [encS s]) :: σ) fun r σ' => r = .tup [] ∧ σ' = (b, .cells 15 [encS (Zxq s v)]) :: σ := by
  refine Z8t rfl Zxh (Nat.le_of_ble_eq_true rfl) ?_
  (repeat (first | refine st_q rfl rfl rfl ?_ | refine Z8v rfl (st_q rfl rfl rfl ?_) | refine Z8w rfl ?_ | refine Z8x rfl ?_ | (refine Z8y ?_; (repeat (first | refine Z9v rfl ?_ | refine Z9w ?_)); refine Z9u ?_) | refine awp_seq ?_ | refine Zbm (fun _ _ => rfl) ?_ | refine Z8h ?_ | refine Zbn (fun _ _ => rfl) ?_ | refine Zbo (fun _ _ => rfl) ?_ | refine Z8f (t := true) rfl (fun _ => ?_) (fun e => by cases e) | refine Z8f (t := false) rfl (fun e => by cases e) (fun _ => ?_)))
  refine Z92 rfl Z8z rfl rfl ?_
  cases hS : s.sums with
  | false =>
    (repeat (first | refine st_q rfl rfl rfl ?_ | refine Z8v rfl (st_q rfl rfl rfl ?_) | refine Z8w rfl ?_ | refine Z8x rfl ?_ | (refine Z8y ?_; (repeat (first | refine Z9v rfl ?_ | refine Z9w ?_)); refine Z9u ?_) | refine awp_seq ?_ | refine Zbm (fun _ _ => rfl) ?_ | refine Z8h ?_ | refine Zbn (fun _ _ => rfl) ?_ | refine Zbo (fun _ _ => rfl) ?_ | refine Z8f (t := true) rfl (fun _ => ?_) (fun e => by cases e) | refine Z8f (t := false) rfl (fun e => by cases e) (fun _ => ?_)))
    refine Z8d ?_
    exact ares rfl (HSub.refl _) ⟨rfl, by rw [Zxq, if_neg (by simp [hS])]⟩
  | true =>
    (repeat (first | refine st_q rfl rfl rfl ?_ | refine Z8v rfl (st_q rfl rfl rfl ?_) | refine Z8w rfl ?_ | refine Z8x rfl ?_ | (refine Z8y ?_; (repeat (first | refine Z9v rfl ?_ | refine Z9w ?_)); refine Z9u ?_) | refine awp_seq ?_ | refine Zbm (fun _ _ => rfl) ?_ | refine Z8h ?_ | refine Zbn (fun _ _ => rfl) ?_ | refine Zbo (fun _ _ => rfl) ?_ | refine Z8f (t := true) rfl (fun _ => ?_) (fun e => by cases e) | refine Z8f (t := false) rfl (fun e => by cases e) (fun _ => ?_)))
    refine awp_region ?_
    (repeat (refine st_q rfl rfl rfl ?_))
    refine Z92 rfl Z8z rfl rfl ?_
    (repeat (refine st_q rfl rfl rfl ?_))
    refine Z9t rfl (Zxn s.sum v hs hv _) ?_
    (repeat (refine st_q rfl rfl rfl ?_))
    refine Z9a rfl Z8z rfl (by decide) (Z0.fit_iff.1 rfl) (fun h => by cases h) Z9b ?_
    (repeat (refine st_q rfl rfl rfl ?_))
    refine Z9a rfl Z8z rfl (by decide) (Z0.fit_iff.1 rfl) (fun h => by cases h) Z9b ?_
    refine Z8y ?_
    refine ⟨[], rfl, .tup [], _, Z8n.refl _ _, rfl, ?_⟩
    rw [Zxq, if_pos hS]
    rfl
theorem Zxt (s : Stt) (k : Int) (nd : List Z0) (hnd : nd.length = 8) (hk : nd[0]? = some (.int .i64 k)) (h1 : ∀ c ∈ nd, c.one = true) (lo hi : Vl) (hlo : lo.Cl) (hhi : hi.Cl) (b : Nat) (σ : Zc) :
    Z1q Try.prog Ze7 [.ptr b 0 0, .agg nd, encV lo, encV hi] ((b, .cells 15 [encS s]) :: σ) fun r σ' => r = .tup [] ∧ σ' = (b, .cells 15 [encS (Zxr k s lo hi)]) :: σ := by
  match nd, hnd with
  | [n0, n1, n2, n3, n4, n5, n6, n7], _ =>
  simp only [List.getElem?_cons_zero, Option.some.injEq] at hk
  subst hk
  have hcl := Zug lo hlo
  have hch := Zug hi hhi
  have hcm1 := Zu9 [.int .i64 k, .slc 0 [] true, .slc 0 [] true, .int .i64 0, .int .i64 0, .int .i64 0] k rfl rfl (by simp [Z0.one]) lo s.min
  have hcm2 := Zu9 [.int .i64 k, .slc 0 [] true, .slc 0 [] true, .int .i64 0, .int .i64 0, .int .i64 0] k rfl rfl (by simp [Z0.one]) hi s.max
  simp only [Zm7] at *
  refine Z8t rfl Zxg (Nat.le_of_ble_eq_true rfl) ?_
  refine Z9z ?_
  refine Z9j rfl ⟨rfl, h1⟩ fun b1 hb1 => ?_
  refine Z9j rfl (Z0.fit_iff.1 rfl) fun b2 hb2 => ?_
  refine Z9j rfl (Z0.fit_iff.1 rfl) fun b3 hb3 => ?_
  (repeat (refine st_q rfl rfl rfl ?_))
  (refine Z8y ?_; (repeat (first | refine Z9v rfl ?_ | refine Z9w ?_)); refine Z9u ?_)
  refine Zb3 (d := 7) (cs := Zm6 hi) rfl ?_
  refine Zb3 (d := 6) (cs := Zm6 lo) rfl ?_
  refine Zb3 (d := 5) (cs := [.int .i64 k, n1, n2, n3, n4, n5, n6, n7]) rfl ?_
  refine Z9z ?_
  (repeat (refine st_q rfl rfl rfl ?_))
  refine Z9k (by simp [Z0.cells, Z0.one]) fun b4 hb4 => ?_
  refine Z9a rfl Z8z rfl (by decide) (Z0.fit_iff.1 rfl) (fun h => by cases h) Z9b ?_
  (refine Z8y ?_; (repeat (first | refine Z9v rfl ?_ | refine Z9w ?_)); refine Z9u ?_)
  refine Zb3 (d := 8) (cs := [.int .i64 k, .slc 0 [] true, .slc 0 [] true, .int .i64 0, .int .i64 0, .int .i64 0]) rfl ?_
  have part2 : ∀ s1 : Stt, s1.has = s.has → s1.max = s.max → Zxr k s lo hi = { s1 with max := if s.has = false ∨ 0 < (cmpV k hi s.max).1 then hi else s.max, has := true } →
      AWp Try.prog Zwx.n (Zwx.code.snd 3) (ARet Zwx.res fun r σ' => r = .tup [] ∧ σ' = (b, .cells 15 [encS (Zxr k s lo hi)]) :: σ)
        (fset 0 (some (.ptr b 0 0)) (fset 7 (some (.iptr (Zm6 hi))) (fset 8 (some (.iptr [.int .i64 k, .slc 0 [] true, .slc 0 [] true, .int .i64 0, .int .i64 0, .int .i64 0])) Z27))) ((b, .cells 15 [encS s1]) :: σ) := by
    intro s1 e1 e2 e3
    rw [← e2] at hcm2
    have last : ∀ (s2 : Stt), Zxr k s lo hi = { s2 with has := true } → AWp Try.prog Zwx.n (.region Zww []) (ARet Zwx.res fun r σ' => r = .tup [] ∧ σ' = (b, .cells 15 [encS (Zxr k s lo hi)]) :: σ)
        (fset 0 (some (.ptr b 0 0)) Z27) ((b, .cells 15 [encS s2]) :: σ) := by
      intro s2 e4
      refine awp_region ?_
      (repeat (refine st_q rfl rfl rfl ?_))
      refine Z9a rfl Z8z rfl (by decide) (Z0.fit_iff.1 rfl) (fun h => by cases h) Z9b ?_
      refine Z8y ?_
      refine ⟨[], rfl, .tup [], _, Z8n.refl _ _, rfl, ?_⟩
      rw [e4]
      rfl
    refine awp_seq ?_
    refine awp_seq ?_
    refine Zbm (fun _ _ => rfl) ?_
    (repeat (refine st_q rfl rfl rfl ?_))
    refine Z92 rfl Z8z rfl rfl ?_
    refine Z9t rfl (hcm2 _) ?_
    (repeat (refine st_q rfl rfl rfl ?_))
    (refine Z8y ?_; (repeat (first | refine Z9v rfl ?_ | refine Z9w ?_)); refine Z9u ?_)
    generalize hc : cmpV k hi s1.max = cr
    obtain ⟨c, ok⟩ := cr
    rw [e2] at hc
    rw [hc] at e3
    refine awp_seq ?_
    refine Zbm (fun _ _ => rfl) ?_
    (repeat (refine st_q rfl rfl rfl ?_))
    refine Z92 rfl Z8z rfl rfl ?_
    have setmax : (s.has = false ∨ 0 < c) → AWp Try.prog Zwx.n (.region Zwv [0]) (Z8e Try.prog Zwx.n (.region Zww []) (ARet Zwx.res fun r σ' => r = .tup [] ∧ σ' = (b, .cells 15 [encS (Zxr k s lo hi)]) :: σ))
        (fset 0 (some (.ptr b 0 0)) (fset 7 (some (.iptr (Zm6 hi))) Z27)) ((b, .cells 15 [encS s1]) :: σ) := by
      intro hcond
      refine Zbm (fun _ _ => rfl) ?_
      (repeat (refine st_q rfl rfl rfl ?_))
      refine Z9t rfl (hch _) ?_
      (repeat (refine st_q rfl rfl rfl ?_))
      refine Z9a rfl Z8z rfl (by decide) ⟨rfl, by simp [Zm6, Z0.cells, Z0.one]⟩ (fun h => by cases h) Z9b ?_
      (refine Z8y ?_; (repeat (first | refine Z9v rfl ?_ | refine Z9w ?_)); refine Z9u ?_)
      rw [if_pos hcond] at e3
      exact last { s1 with max := hi } e3
    have keep : ¬ (s.has = false ∨ 0 < c) → AWp Try.prog Zwx.n .skip (Z8e Try.prog Zwx.n (.region Zww []) (ARet Zwx.res fun r σ' => r = .tup [] ∧ σ' = (b, .cells 15 [encS (Zxr k s lo hi)]) :: σ))
        (fset 0 (some (.ptr b 0 0)) Z27) ((b, .cells 15 [encS s1]) :: σ) := by
      intro hcond
      refine Zbn (fun _ _ => rfl) ?_
      rw [if_neg hcond] at e3
      exact last s1 (by rw [e3, ← e2])
    cases hh : s1.has with
    | false =>
      (repeat (first | refine st_q rfl rfl rfl ?_ | refine Z8v rfl (st_q rfl rfl rfl ?_) | refine Z8w rfl ?_ | refine Z8x rfl ?_))
      (refine Z8y ?_; (repeat (first | refine Z9v rfl ?_ | refine Z9w ?_)); refine Z9u ?_)
      refine Z8f (t := true) rfl (fun _ => ?_) (fun e => by cases e)
      (refine Z9y (keep := [0, 7]) ?_; ((repeat (first | refine Z9v rfl ?_ | refine Z9w ?_)); refine Z9u ?_))
      exact setmax (.inl (by rw [← e1]; exact hh))
    | true =>
      (repeat (first | refine st_q rfl rfl rfl ?_ | refine Z8v rfl (st_q rfl rfl rfl ?_) | refine Z8w rfl ?_ | refine Z8x rfl ?_))
      (refine Z8y ?_; (repeat (first | refine Z9v rfl ?_ | refine Z9w ?_)); refine Z9u ?_)
      refine Za3 (p := 0 < c) rfl (fun h => ?_) (fun h => ?_)
      · (refine Z9y (keep := [0, 7]) ?_; ((repeat (first | refine Z9v rfl ?_ | refine Z9w ?_)); refine Z9u ?_))
        exact setmax (.inr h)
      · (refine Z9y (keep := [0]) ?_; ((repeat (first | refine Z9v rfl ?_ | refine Z9w ?_)); refine Z9u ?_))
        exact keep (by rw [← e1, hh]; simp; omega)
  refine awp_seq ?_
  refine awp_seq ?_
  refine Zbm (fun _ _ => rfl) ?_
  (repeat (refine st_q rfl rfl rfl ?_))
  refine Z92 rfl Z8z rfl rfl ?_
  refine Z9t rfl (hcm1 _) ?_
  (repeat (refine st_q rfl rfl rfl ?_))
  (refine Z8y ?_; (repeat (first | refine Z9v rfl ?_ | refine Z9w ?_)); refine Z9u ?_)
  generalize hc : cmpV k lo s.min = cr
  obtain ⟨c, ok⟩ := cr
  refine awp_seq ?_
  refine Zbm (fun _ _ => rfl) ?_
  (repeat (refine st_q rfl rfl rfl ?_))
  refine Z92 rfl Z8z rfl rfl ?_
  have setmin : (s.has = false ∨ c < 0) → AWp Try.prog Zwx.n (.region Zws [0, 7, 8, 56, 57]) (Z8e Try.prog Zwx.n (Zwx.code.snd 3) (ARet Zwx.res fun r σ' => r = .tup [] ∧ σ' = (b, .cells 15 [encS (Zxr k s lo hi)]) :: σ))
      (fset 0 (some (.ptr b 0 0)) (fset 6 (some (.iptr (Zm6 lo))) (fset 7 (some (.iptr (Zm6 hi))) (fset 8 (some (.iptr [.int .i64 k, .slc 0 [] true, .slc 0 [] true, .int .i64 0, .int .i64 0, .int .i64 0])) Z27)))) ((b, .cells 15 [encS s]) :: σ) := by
    intro hcond
    refine Zbm (fun _ _ => rfl) ?_
    (repeat (refine st_q rfl rfl rfl ?_))
    refine Z9t rfl (hcl _) ?_
    (repeat (refine st_q rfl rfl rfl ?_))
    refine Z9a rfl Z8z rfl (by decide) ⟨rfl, by simp [Zm6, Z0.cells, Z0.one]⟩ (fun h => by cases h) Z9b ?_
    (refine Z8y ?_; (repeat (first | refine Z9v rfl ?_ | refine Z9w ?_)); refine Z9u ?_)
    exact part2 { s with min := lo } rfl rfl (by simp only [Zxr, hc]; rw [if_pos hcond])
  have keep : ¬ (s.has = false ∨ c < 0) → AWp Try.prog Zwx.n .skip (Z8e Try.prog Zwx.n (Zwx.code.snd 3) (ARet Zwx.res fun r σ' => r = .tup [] ∧ σ' = (b, .cells 15 [encS (Zxr k s lo hi)]) :: σ))
      (fset 0 (some (.ptr b 0 0)) (fset 7 (some (.iptr (Zm6 hi))) (fset 8 (some (.iptr [.int .i64 k, .slc 0 [] true, .slc 0 [] true, .int .i64 0, .int .i64 0, .int .i64 0])) Z27))) ((b, .cells 15 [encS s]) :: σ) := by
    intro hcond
    refine Zbn (fun _ _ => rfl) ?_
    exact part2 s rfl rfl (by simp only [Zxr, hc]; rw [if_neg hcond])
  cases hh : s.has with
  | false =>
    (repeat (first | refine st_q rfl rfl rfl ?_ | refine Z8v rfl (st_q rfl rfl rfl ?_) | refine Z8w rfl ?_ | refine Z8x rfl ?_))
    (refine Z8y ?_; (repeat (first | refine Z9v rfl ?_ | refine Z9w ?_)); refine Z9u ?_)
    refine Z8f (t := true) rfl (fun _ => ?_) (fun e => by cases e)
    (refine Z9y (keep := [0, 6, 7, 8]) ?_; ((repeat (first | refine Z9v rfl ?_ | refine Z9w ?_)); refine Z9u ?_))
    exact setmin (.inl hh)
  | true =>
    (repeat (first | refine st_q rfl rfl rfl ?_ | refine Z8v rfl (st_q rfl rfl rfl ?_) | refine Z8w rfl ?_ | refine Z8x rfl ?_))
    (refine Z8y ?_; (repeat (first | refine Z9v rfl ?_ | refine Z9w ?_)); refine Z9u ?_)
    refine Za3 (p := c < 0) rfl (fun h => ?_) (fun h => ?_)
    · (refine Z9y (keep := [0, 6, 7, 8]) ?_; ((repeat (first | refine Z9v rfl ?_ | refine Z9w ?_)); refine Z9u ?_))
      exact setmin (.inr h)
    · (refine Z9y (keep := [0, 7, 8]) ?_; ((repeat (first | refine Z9v rfl ?_ | refine Z9w ?_)); refine Z9u ?_))
      exact keep (by rw [hh]; simp; omega)
end Go.Abs
namespace Go.Abs
open Go Go.Proofs
set_option linter.unusedVariables false
set_option linter.unusedSimpArgs false
set_option maxHeartbeats 4000000
attribute [local irreducible] AWp aops KP
structure Col where
  here : List Bool
  ints : List Int
  ns : List Int
  texts : List (List UInt8)
  lens : List Int
def Zxu (c : Col) : List Z0 := [.slc 1 (c.here.map .bool) false, .slc 1 (c.ints.map (.int .i64)) false, .slc 1 (c.ns.map (.int .i64)) false,
  .slc 1 (c.texts.map fun b => .slc 1 (bytes b) false) false, .slc 1 (c.lens.map (.int .i64)) false]
def encC (c : Col) : Z0 := .agg (Zxu c)
def hasF (c : Col) : Bool := c.here.any (!·)
def idxB (v : Bool) : Nat → List Bool → Int
  | _, [] => -1
  | i, b :: bs => if v = b then i else idxB v (i + 1) bs
theorem Zxv (v : Bool) : ∀ (bs : List Bool) (i : Nat), decide (0 ≤ idxB v i bs) = bs.any (· == v)
  | [], i => by simp [idxB]
  | b :: bs, i => by
    rw [idxB, List.any_cons]
    by_cases h : v = b
    · rw [if_pos h]; simp [h]
    · rw [if_neg h, Zxv v bs]
      have : (b == v) = false := by cases v <;> cases b <;> simp_all
      rw [this]; simp
theorem Zxw {α : Type} {f : α → Z0} {l : List α} {j : Nat} (h : j < l.length) : (l.map f)[((j : Nat) : Int).toNat]? = some (f l[j]) := by
  rw [Int.toNat_natCast, List.getElem?_map, List.getElem?_eq_getElem h]; rfl
theorem Zxx (bs : List Bool) (v : Bool) (hl : bs.length ≤ 140737488355328) (σ : Zc) : Z1q Try.prog Zfy [.slc 1 (bs.map .bool) false, .bool v] σ fun r σ' => r = .int .i64 (idxB v 0 bs) ∧ σ' = σ := by
  refine Z8t rfl Zxa (Nat.le_of_ble_eq_true rfl) ?_
  (repeat (first | refine st_q rfl rfl rfl ?_ | refine Z8v rfl (st_q rfl rfl rfl ?_) | refine Z8w rfl ?_ | refine Z8x rfl ?_ | (refine Z8y ?_; (repeat (first | refine Z9v rfl ?_ | refine Z9w ?_)); refine Z9u ?_) | refine awp_seq ?_ | refine Zbm (fun _ _ => rfl) ?_ | refine Z8h ?_ | refine Zbn (fun _ _ => rfl) ?_ | refine Zbo (fun _ _ => rfl) ?_ | refine Z8f (t := true) rfl (fun _ => ?_) (fun e => by cases e) | refine Z8f (t := false) rfl (fun e => by cases e) (fun _ => ?_)))
  rw [show ((bs.map Z0.bool).length : Int) = (bs.length : Int) by simp]
  generalize hX : idxB v 0 bs = X
  refine Zaa (fun m F σ' => ∃ (j : Nat), F = fset 0 (some (.slc 1 (bs.map .bool) false)) (fset 1 (some (.bool v)) (fset 7 (some (.int .i64 (bs.length : Int))) (fset 8 (some (.int .i64 (j : Int))) Z27))) ∧
    σ = σ' ∧ j ≤ bs.length ∧ X = idxB v j (bs.drop j) ∧ m = bs.length - j) (n := bs.length) ⟨0, rfl, rfl, by omega, hX.symm, rfl⟩ ?_
  rintro m F σ' ⟨j, rfl, rfl, hj, hXj, rfl⟩
  (repeat (first | refine st_q rfl rfl rfl ?_ | refine Z8v rfl (st_q rfl rfl rfl ?_) | refine Z8w rfl ?_ | refine Z8x rfl ?_ | (refine Z8y ?_; (repeat (first | refine Z9v rfl ?_ | refine Z9w ?_)); refine Z9u ?_) | refine awp_seq ?_ | refine Zbm (fun _ _ => rfl) ?_ | refine Z8h ?_ | refine Zbn (fun _ _ => rfl) ?_ | refine Zbo (fun _ _ => rfl) ?_ | refine Z8f (t := true) rfl (fun _ => ?_) (fun e => by cases e) | refine Z8f (t := false) rfl (fun e => by cases e) (fun _ => ?_)))
  refine Za3 (p := (j : Int) < (bs.length : Int)) rfl (fun h3 => ?_) (fun h3 => ?_)
  · have hjl : j < bs.length := by omega
    rw [List.drop_eq_getElem_cons hjl, idxB] at hXj
    (repeat (first | refine st_q rfl rfl rfl ?_ | refine Z8v rfl (st_q rfl rfl rfl ?_) | refine Z8w rfl ?_ | refine Z8x rfl ?_ | (refine Z8y ?_; (repeat (first | refine Z9v rfl ?_ | refine Z9w ?_)); refine Z9u ?_) | refine awp_seq ?_ | refine Zbm (fun _ _ => rfl) ?_ | refine Z8h ?_ | refine Zbn (fun _ _ => rfl) ?_ | refine Zbo (fun _ _ => rfl) ?_ | refine Z8f (t := true) rfl (fun _ => ?_) (fun e => by cases e) | refine Z8f (t := false) rfl (fun e => by cases e) (fun _ => ?_)))
    refine Z93 rfl (by omega) (Zxw hjl) ?_
    (repeat (first | refine st_q rfl rfl rfl ?_ | refine Z8v rfl (st_q rfl rfl rfl ?_) | refine Z8w rfl ?_ | refine Z8x rfl ?_ | (refine Z8y ?_; (repeat (first | refine Z9v rfl ?_ | refine Z9w ?_)); refine Z9u ?_) | refine awp_seq ?_ | refine Zbm (fun _ _ => rfl) ?_ | refine Z8h ?_ | refine Zbn (fun _ _ => rfl) ?_ | refine Zbo (fun _ _ => rfl) ?_ | refine Z8f (t := true) rfl (fun _ => ?_) (fun e => by cases e) | refine Z8f (t := false) rfl (fun e => by cases e) (fun _ => ?_)))
    cases he : (v == bs[j]) with
    | true =>
      rw [if_pos (by simpa using he)] at hXj
      (repeat (first | refine st_q rfl rfl rfl ?_ | refine Z8v rfl (st_q rfl rfl rfl ?_) | refine Z8w rfl ?_ | refine Z8x rfl ?_ | (refine Z8y ?_; (repeat (first | refine Z9v rfl ?_ | refine Z9w ?_)); refine Z9u ?_) | refine awp_seq ?_ | refine Zbm (fun _ _ => rfl) ?_ | refine Z8h ?_ | refine Zbn (fun _ _ => rfl) ?_ | refine Zbo (fun _ _ => rfl) ?_ | refine Z8f (t := true) rfl (fun _ => ?_) (fun e => by cases e) | refine Z8f (t := false) rfl (fun e => by cases e) (fun _ => ?_)))
      refine Z8d ?_
      exact ares rfl (HSub.refl _) ⟨by rw [hXj]; rfl, rfl⟩
    | false =>
      rw [if_neg (by simpa using he)] at hXj
      (repeat (first | refine st_q rfl rfl rfl ?_ | refine Z8v rfl (st_q rfl rfl rfl ?_) | refine Z8w rfl ?_ | refine Z8x rfl ?_ | (refine Z8y ?_; (repeat (first | refine Z9v rfl ?_ | refine Z9w ?_)); refine Z9u ?_) | refine awp_seq ?_ | refine Zbm (fun _ _ => rfl) ?_ | refine Z8h ?_ | refine Zbn (fun _ _ => rfl) ?_ | refine Zbo (fun _ _ => rfl) ?_ | refine Z8f (t := true) rfl (fun _ => ?_) (fun e => by cases e) | refine Z8f (t := false) rfl (fun e => by cases e) (fun _ => ?_)))
      refine Zbp ?_
      (repeat (refine st_q rfl rfl rfl ?_))
      rw [show IntKind.wrap .i64 ((j : Int) + 1) = ((j + 1 : Nat) : Int) by rw [w64 _ (by omega) (by omega)]; omega]
      (refine Z8y ?_; (repeat (first | refine Z9v rfl ?_ | refine Z9w ?_)); refine Z9u ?_)
      exact ⟨_, bs.length - (j + 1), HSub.refl _, ⟨j + 1, rfl, rfl, by omega, hXj, rfl⟩, by omega⟩
  · (repeat (first | refine st_q rfl rfl rfl ?_ | refine Z8v rfl (st_q rfl rfl rfl ?_) | refine Z8w rfl ?_ | refine Z8x rfl ?_ | (refine Z8y ?_; (repeat (first | refine Z9v rfl ?_ | refine Z9w ?_)); refine Z9u ?_) | refine awp_seq ?_ | refine Zbm (fun _ _ => rfl) ?_ | refine Z8h ?_ | refine Zbn (fun _ _ => rfl) ?_ | refine Zbo (fun _ _ => rfl) ?_ | refine Z8f (t := true) rfl (fun _ => ?_) (fun e => by cases e) | refine Z8f (t := false) rfl (fun e => by cases e) (fun _ => ?_)))
    rw [List.drop_of_length_le (by omega), idxB] at hXj
    refine Z8d ?_
    exact ares rfl (HSub.refl _) ⟨by rw [hXj]; rfl, rfl⟩
theorem Zxy (bs : List Bool) (v : Bool) (hl : bs.length ≤ 140737488355328) (σ : Zc) : Z1q Try.prog Zew [.slc 1 (bs.map .bool) false, .bool v] σ fun r σ' => r = .bool (bs.any (· == v)) ∧ σ' = σ := by
  refine Z8t rfl Zx9 (Nat.le_of_ble_eq_true rfl) ?_
  (repeat (first | refine st_q rfl rfl rfl ?_ | refine Z8v rfl (st_q rfl rfl rfl ?_) | refine Z8w rfl ?_ | refine Z8x rfl ?_ | (refine Z8y ?_; (repeat (first | refine Z9v rfl ?_ | refine Z9w ?_)); refine Z9u ?_) | refine awp_seq ?_ | refine Zbm (fun _ _ => rfl) ?_ | refine Z8h ?_ | refine Zbn (fun _ _ => rfl) ?_ | refine Zbo (fun _ _ => rfl) ?_ | refine Z8f (t := true) rfl (fun _ => ?_) (fun e => by cases e) | refine Z8f (t := false) rfl (fun e => by cases e) (fun _ => ?_)))
  refine Z9t rfl (Zxx bs v hl _) ?_
  (repeat (first | refine st_q rfl rfl rfl ?_ | refine Z8v rfl (st_q rfl rfl rfl ?_) | refine Z8w rfl ?_ | refine Z8x rfl ?_ | (refine Z8y ?_; (repeat (first | refine Z9v rfl ?_ | refine Z9w ?_)); refine Z9u ?_) | refine awp_seq ?_ | refine Zbm (fun _ _ => rfl) ?_ | refine Z8h ?_ | refine Zbn (fun _ _ => rfl) ?_ | refine Zbo (fun _ _ => rfl) ?_ | refine Z8f (t := true) rfl (fun _ => ?_) (fun e => by cases e) | refine Z8f (t := false) rfl (fun e => by cases e) (fun _ => ?_)))
  refine Z8d ?_
  exact ares rfl (HSub.refl _) ⟨by rw [← Zxv v bs 0]; rfl, rfl⟩
theorem Zxz (c : Col) (hl : c.here.length ≤ 140737488355328) (σ : Zc) : Z1q Try.prog Zdl [encC c] σ fun r σ' => r = .bool (hasF c) ∧ σ' = σ := by
  refine Z8t rfl Zx7 (Nat.le_of_ble_eq_true rfl) ?_
  refine Z9z ?_
  refine Z9j rfl (Z0.fit_iff.1 rfl) fun b hb => ?_
  (repeat (refine st_q rfl rfl rfl ?_))
  (refine Z8y ?_; (repeat (first | refine Z9v rfl ?_ | refine Z9w ?_)); refine Z9u ?_)
  refine Zb3 (d := 1) (cs := Zxu c) rfl ?_
  (repeat (first | refine st_q rfl rfl rfl ?_ | refine Z8v rfl (st_q rfl rfl rfl ?_) | refine Z8w rfl ?_ | refine Z8x rfl ?_ | (refine Z8y ?_; (repeat (first | refine Z9v rfl ?_ | refine Z9w ?_)); refine Z9u ?_) | refine awp_seq ?_ | refine Zbm (fun _ _ => rfl) ?_ | refine Z8h ?_ | refine Zbn (fun _ _ => rfl) ?_ | refine Zbo (fun _ _ => rfl) ?_ | refine Z8f (t := true) rfl (fun _ => ?_) (fun e => by cases e) | refine Z8f (t := false) rfl (fun e => by cases e) (fun _ => ?_)))
  refine Z9t rfl (Zxy c.here false hl _) ?_
  (repeat (first | refine st_q rfl rfl rfl ?_ | refine Z8v rfl (st_q rfl rfl rfl ?_) | refine Z8w rfl ?_ | refine Z8x rfl ?_ | (refine Z8y ?_; (repeat (first | refine Z9v rfl ?_ | refine Z9w ?_)); refine Z9u ?_) | refine awp_seq ?_ | refine Zbm (fun _ _ => rfl) ?_ | refine Z8h ?_ | refine Zbn (fun _ _ => rfl) ?_ | refine Zbo (fun _ _ => rfl) ?_ | refine Z8f (t := true) rfl (fun _ => ?_) (fun e => by cases e) | refine Z8f (t := false) rfl (fun e => by cases e) (fun _ => ?_)))
  refine Z8d ?_
  exact ares rfl (HSub.refl _) ⟨by simp [Z8m, hasF], rfl⟩
theorem Zy0 (c : Col) (hl : c.here.length ≤ 140737488355328) (σ : Zc) : Z1q Try.prog Zdm [encC c] σ fun r σ' => r = .bool (hasF c) ∧ σ' = σ := by
  refine Z8t rfl Zx8 (Nat.le_of_ble_eq_true rfl) ?_
  refine Z9z ?_
  refine Z9j rfl (Z0.fit_iff.1 rfl) fun b hb => ?_
  (repeat (refine st_q rfl rfl rfl ?_))
  (refine Z8y ?_; (repeat (first | refine Z9v rfl ?_ | refine Z9w ?_)); refine Z9u ?_)
  refine Zb3 (d := 1) (cs := Zxu c) rfl ?_
  (repeat (first | refine st_q rfl rfl rfl ?_ | refine Z8v rfl (st_q rfl rfl rfl ?_) | refine Z8w rfl ?_ | refine Z8x rfl ?_ | (refine Z8y ?_; (repeat (first | refine Z9v rfl ?_ | refine Z9w ?_)); refine Z9u ?_) | refine awp_seq ?_ | refine Zbm (fun _ _ => rfl) ?_ | refine Z8h ?_ | refine Zbn (fun _ _ => rfl) ?_ | refine Zbo (fun _ _ => rfl) ?_ | refine Z8f (t := true) rfl (fun _ => ?_) (fun e => by cases e) | refine Z8f (t := false) rfl (fun e => by cases e) (fun _ => ?_)))
  generalize hX : hasF c = X
  have hX' : X = c.here.any (!·) := hX.symm
  refine Zaa (fun m F σ' => ∃ (j : Nat), F = fset 1 (some (.iptr (Zxu c))) (fset 3 (some (.int .i64 (j : Int))) Z27) ∧
    σ = σ' ∧ j ≤ c.here.length ∧ X = (c.here.drop j).any (!·) ∧ m = c.here.length - j) (n := c.here.length) ⟨0, rfl, rfl, by omega, hX', rfl⟩ ?_
  rintro m F σ' ⟨j, rfl, rfl, hj, hXj, rfl⟩
  (repeat (first | refine st_q rfl rfl rfl ?_ | refine Z8v rfl (st_q rfl rfl rfl ?_) | refine Z8w rfl ?_ | refine Z8x rfl ?_ | (refine Z8y ?_; (repeat (first | refine Z9v rfl ?_ | refine Z9w ?_)); refine Z9u ?_) | refine awp_seq ?_ | refine Zbm (fun _ _ => rfl) ?_ | refine Z8h ?_ | refine Zbn (fun _ _ => rfl) ?_ | refine Zbo (fun _ _ => rfl) ?_ | refine Z8f (t := true) rfl (fun _ => ?_) (fun e => by cases e) | refine Z8f (t := false) rfl (fun e => by cases e) (fun _ => ?_)))
  rw [show ((c.here.map Z0.bool).length : Int) = (c.here.length : Int) by simp]
  refine Za3 (p := (j : Int) < (c.here.length : Int)) rfl (fun h3 => ?_) (fun h3 => ?_)
  · have hjl : j < c.here.length := by omega
    rw [List.drop_eq_getElem_cons hjl, List.any_cons] at hXj
    (repeat (first | refine st_q rfl rfl rfl ?_ | refine Z8v rfl (st_q rfl rfl rfl ?_) | refine Z8w rfl ?_ | refine Z8x rfl ?_ | (refine Z8y ?_; (repeat (first | refine Z9v rfl ?_ | refine Z9w ?_)); refine Z9u ?_) | refine awp_seq ?_ | refine Zbm (fun _ _ => rfl) ?_ | refine Z8h ?_ | refine Zbn (fun _ _ => rfl) ?_ | refine Zbo (fun _ _ => rfl) ?_ | refine Z8f (t := true) rfl (fun _ => ?_) (fun e => by cases e) | refine Z8f (t := false) rfl (fun e => by cases e) (fun _ => ?_)))
    refine Z93 rfl (by omega) (Zxw hjl) ?_
    (repeat (first | refine st_q rfl rfl rfl ?_ | refine Z8v rfl (st_q rfl rfl rfl ?_) | refine Z8w rfl ?_ | refine Z8x rfl ?_ | (refine Z8y ?_; (repeat (first | refine Z9v rfl ?_ | refine Z9w ?_)); refine Z9u ?_) | refine awp_seq ?_ | refine Zbm (fun _ _ => rfl) ?_ | refine Z8h ?_ | refine Zbn (fun _ _ => rfl) ?_ | refine Zbo (fun _ _ => rfl) ?_ | refine Z8f (t := true) rfl (fun _ => ?_) (fun e => by cases e) | refine Z8f (t := false) rfl (fun e => by cases e) (fun _ => ?_)))
    cases he : c.here[j] with
    | false =>
      rw [he] at hXj
      (repeat (first | refine st_q rfl rfl rfl ?_ | refine Z8v rfl (st_q rfl rfl rfl ?_) | refine Z8w rfl ?_ | refine Z8x rfl ?_ | (refine Z8y ?_; (repeat (first | refine Z9v rfl ?_ | refine Z9w ?_)); refine Z9u ?_) | refine awp_seq ?_ | refine Zbm (fun _ _ => rfl) ?_ | refine Z8h ?_ | refine Zbn (fun _ _ => rfl) ?_ | refine Zbo (fun _ _ => rfl) ?_ | refine Z8f (t := true) rfl (fun _ => ?_) (fun e => by cases e) | refine Z8f (t := false) rfl (fun e => by cases e) (fun _ => ?_)))
      refine Z8d ?_
      exact ares rfl (HSub.refl _) ⟨by rw [hXj]; rfl, rfl⟩
    | true =>
      rw [he] at hXj
      (repeat (first | refine st_q rfl rfl rfl ?_ | refine Z8v rfl (st_q rfl rfl rfl ?_) | refine Z8w rfl ?_ | refine Z8x rfl ?_ | (refine Z8y ?_; (repeat (first | refine Z9v rfl ?_ | refine Z9w ?_)); refine Z9u ?_) | refine awp_seq ?_ | refine Zbm (fun _ _ => rfl) ?_ | refine Z8h ?_ | refine Zbn (fun _ _ => rfl) ?_ | refine Zbo (fun _ _ => rfl) ?_ | refine Z8f (t := true) rfl (fun _ => ?_) (fun e => by cases e) | refine Z8f (t := false) rfl (fun e => by cases e) (fun _ => ?_)))
      refine Zbp ?_
      (repeat (refine st_q rfl rfl rfl ?_))
      rw [show IntKind.wrap .i64 ((j : Int) + 1) = ((j + 1 : Nat) : Int) by rw [w64 _ (by omega) (by omega)]; omega]
      (refine Z8y ?_; (repeat (first | refine Z9v rfl ?_ | refine Z9w ?_)); refine Z9u ?_)
      exact ⟨_, c.here.length - (j + 1), HSub.refl _, ⟨j + 1, rfl, rfl, by omega, hXj, rfl⟩, by omega⟩
  · (repeat (first | refine st_q rfl rfl rfl ?_ | refine Z8v rfl (st_q rfl rfl rfl ?_) | refine Z8w rfl ?_ | refine Z8x rfl ?_ | (refine Z8y ?_; (repeat (first | refine Z9v rfl ?_ | refine Z9w ?_)); refine Z9u ?_) | refine awp_seq ?_ | refine Zbm (fun _ _ => rfl) ?_ | refine Z8h ?_ | refine Zbn (fun _ _ => rfl) ?_ | refine Zbo (fun _ _ => rfl) ?_ | refine Z8f (t := true) rfl (fun _ => ?_) (fun e => by cases e) | refine Z8f (t := false) rfl (fun e => by cases e) (fun _ => ?_)))
    rw [List.drop_of_length_le (by omega)] at hXj
    refine Z8d ?_
    exact ares rfl (HSub.refl _) ⟨by rw [hXj]; rfl, rfl⟩
end Go.Abs
namespace Go.Abs
open Go Go.Proofs
set_option linter.unusedVariables false
set_option linter.unusedSimpArgs false
set_option maxHeartbeats 4000000
attribute [local irreducible] AWp aops KP
structure Col.Fit (c : Col) : Prop where
  here : c.here.length ≤ 140737488355328
  ints : c.ints.length ≤ 140737488355328
  ns : c.ns.length ≤ 140737488355328
  texts : c.texts.length ≤ 140737488355328
  lens : c.lens.length ≤ 140737488355328
  int : ∀ i ∈ c.ints, -9223372036854775808 ≤ i ∧ i ≤ 9223372036854775807
  text : ∀ t ∈ c.texts, t.length ≤ 140737488355328
def getV (c : Col) (i : Nat) : Vl := .mk false (if i < c.texts.length then 0 else c.ints.getD i 0) (c.ns.getD i 0) (c.texts.getD i []) []
def getA (c : Col) (i : Nat) : Int := if i < c.texts.length then ((c.texts.getD i []).length : Int) else c.ints.getD i 0
def Zy1 (k : Int) (v : Vl) (add : Int) (s : Stt) : Stt := Zxq (if Zxk k = true then Zxr k s v v else s) add
def Zy2 (k : Int) (c : Col) : Nat → Nat → Stt → Stt
  | 0, _, s => s
  | m + 1, i, s => Zy2 k c m (i + 1) (Zy1 k (getV c i) (getA c i) s)
def of0 (k : Int) (c : Col) (n : Nat) : Stt := ⟨n, hasF c, false, vl0, vl0, Zxj k, 0⟩
def ofF (k : Int) (c : Col) : Stt := Zy2 k c (max c.ints.length c.texts.length) 0 (of0 k c (c.here.count true))
theorem Zy3 (k : Int) (v : Vl) (add : Int) (s : Stt) (h : -9223372036854775808 ≤ s.sum ∧ s.sum ≤ 9223372036854775807) : -9223372036854775808 ≤ (Zy1 k v add s).sum ∧ (Zy1 k v add s).sum ≤ 9223372036854775807 := by
  have h' : ∀ t : Stt, t.sum = s.sum → -9223372036854775808 ≤ (Zxq t add).sum ∧ (Zxq t add).sum ≤ 9223372036854775807 := by
    intro t e
    unfold Zxq addF
    split
    · simp only
      split
      · assumption
      · simp
    · rw [e]; exact h
  unfold Zy1
  refine h' _ ?_
  split <;> rfl
theorem Zbx.content {b sz : Nat} {xs ys : List Z0} {σ : Zc} (hl : ys.length = xs.length) (he : ∀ y ∈ ys, y.elem sz) (hv : VRle (flat xs) (flat ys)) : Zbx ((b, .cells sz xs) :: σ) ((b, .cells sz ys) :: σ) :=
  fun K w r => ⟨K, Kr.le.refl K, r.content hl he (hv K)⟩
theorem VRle.nilF (z z' : Nat) : VRle [.slc z [] true] [.slc z' [] false] := (VRle.nil_slc z z' true).trans VRle.full
theorem Zy4 {F : Z26} {σ : Zc} {b s i sz : Nat} {cs xs : List Z0} (hF : F i = some (.ptr b 0 0)) (hg : Zd σ b = some (.cells s (.agg cs :: xs))) (hl : cs.length = sz) : Z8l F σ [.cell i true sz] = some [.agg cs] := by
  subst hl
  simp [Z8l, Z8k, hF, Z1l, hg, Z19, Z0.cells]
theorem Zy5 {c : Z2b} {R R' : Z87} (hR : ∀ F σ, R .normal F σ = AWp Try.prog Zvx.n c R' F σ) (s : Stt) (k : Int) (nd : List Z0) (hnd : nd.length = 8) (hk : nd[0]? = some (.int .i64 k)) (h1 : ∀ c ∈ nd, c.one = true)
    (v : Vl) (hv : v.Cl) (add : Int) (hs : -9223372036854775808 ≤ s.sum ∧ s.sum ≤ 9223372036854775807) (ha : -9223372036854775808 ≤ add ∧ add ≤ 9223372036854775807) (b4 b5 : Nat) (z : Zb) (C M I : Z0) (σ : Zc)
    (h : AWp Try.prog Zvx.n c R' (fset 2 (some (.iptr nd)) (fset 3 (some C) (fset 4 (some (.ptr b4 0 0)) (fset 5 (some (.ptr b5 0 0)) (fset 36 (some M) (fset 37 (some I) Z27)))))) ((b5, .cells 15 [encS (Zy1 k v add s)]) :: (b4, z) :: σ)) :
    AWp Try.prog Zvx.n (((Zvv.snd 2).fst.body).snd 5) R (fset 2 (some (.iptr nd)) (fset 3 (some C) (fset 4 (some (.ptr b4 0 0)) (fset 5 (some (.ptr b5 0 0)) (fset 9 (some (.iptr (Zm6 v))) (fset 10 (some (.int .i64 add)) (fset 36 (some M) (fset 37 (some I) Z27)))))))) ((b5, .cells 15 [encS s]) :: (b4, z) :: σ) := by
  match nd, hnd with
  | [n0, n1, n2, n3, n4, n5, n6, n7], _ =>
  simp only [List.getElem?_cons_zero, Option.some.injEq] at hk
  subst hk
  have hsp := Zxt s k [.int .i64 k, n1, n2, n3, n4, n5, n6, n7] rfl rfl h1 v v hv hv b5 ((b4, z) :: σ)
  simp only [Zm7] at hsp
  have last : ∀ s1 : Stt, s1.sum = s.sum → Zy1 k v add s = Zxq s1 add → AWp Try.prog Zvx.n ((((Zvv.snd 2).fst.body).snd 6)) R (fset 2 (some (.iptr [.int .i64 k, n1, n2, n3, n4, n5, n6, n7])) (fset 3 (some C) (fset 4 (some (.ptr b4 0 0)) (fset 5 (some (.ptr b5 0 0)) (fset 10 (some (.int .i64 add)) (fset 36 (some M) (fset 37 (some I) Z27))))))) ((b5, .cells 15 [encS s1]) :: (b4, z) :: σ) := by
    intro s1 e1 e2
    refine Zbm hR ?_
    (repeat (refine st_q rfl rfl rfl ?_))
    refine Z9t rfl (Zxs s1 add (by rw [e1]; exact hs) ha _ _) ?_
    (refine Z8y ?_; (repeat (first | refine Z9v rfl ?_ | refine Z9w ?_)); refine Z9u ?_)
    rw [← e2]
    exact h
  refine awp_seq ?_
  refine awp_seq ?_
  refine Zbm (fun _ _ => rfl) ?_
  (repeat (refine st_q rfl rfl rfl ?_))
  refine Z9t rfl (Zxm k _) ?_
  (refine Z8y ?_; (repeat (first | refine Z9v rfl ?_ | refine Z9w ?_)); refine Z9u ?_)
  cases hr : Zxk k with
  | true =>
    (repeat (first | refine st_q rfl rfl rfl ?_ | refine Z8v rfl (st_q rfl rfl rfl ?_) | refine Z8w rfl ?_ | refine Z8x rfl ?_ | (refine Z8y ?_; (repeat (first | refine Z9v rfl ?_ | refine Z9w ?_)); refine Z9u ?_) | refine awp_seq ?_ | refine Zbm (fun _ _ => rfl) ?_ | refine Z8h ?_ | refine Zbn (fun _ _ => rfl) ?_ | refine Zbo (fun _ _ => rfl) ?_ | refine Z8f (t := true) rfl (fun _ => ?_) (fun e => by cases e) | refine Z8f (t := false) rfl (fun e => by cases e) (fun _ => ?_)))
    refine Z9t rfl hsp ?_
    (refine Z8y ?_; (repeat (first | refine Z9v rfl ?_ | refine Z9w ?_)); refine Z9u ?_)
    exact last _ rfl (by rw [Zy1, if_pos hr])
  | false =>
    (repeat (first | refine st_q rfl rfl rfl ?_ | refine Z8v rfl (st_q rfl rfl rfl ?_) | refine Z8w rfl ?_ | refine Z8x rfl ?_ | (refine Z8y ?_; (repeat (first | refine Z9v rfl ?_ | refine Z9w ?_)); refine Z9u ?_) | refine awp_seq ?_ | refine Zbm (fun _ _ => rfl) ?_ | refine Z8h ?_ | refine Zbn (fun _ _ => rfl) ?_ | refine Zbo (fun _ _ => rfl) ?_ | refine Z8f (t := true) rfl (fun _ => ?_) (fun e => by cases e) | refine Z8f (t := false) rfl (fun e => by cases e) (fun _ => ?_)))
    refine Z9y (keep := [2, 3, 4, 5, 10, 36, 37]) ?_
    ((repeat (first | refine Z9v rfl ?_ | refine Z9w ?_)); refine Z9u ?_)
    exact last s rfl (by rw [Zy1, if_neg (by simp [hr])])
theorem Zy6 {c : Z2b} {R R' : Z87} (hR : ∀ F σ, R .normal F σ = AWp Try.prog Zvx.n c R' F σ) (s : Stt) (k : Int) (nd : List Z0) (hnd : nd.length = 8) (hk : nd[0]? = some (.int .i64 k)) (h1 : ∀ c ∈ nd, c.one = true)
    (C : Col) (hC : C.Fit) (i : Nat) (hi : i < max C.ints.length C.texts.length) (hs : -9223372036854775808 ≤ s.sum ∧ s.sum ≤ 9223372036854775807) (b4 b5 : Nat) (z : Zb) (M : Z0) (σ : Zc)
    (h : AWp Try.prog Zvx.n c R' (fset 2 (some (.iptr nd)) (fset 3 (some (.iptr (Zxu C))) (fset 4 (some (.ptr b4 0 0)) (fset 5 (some (.ptr b5 0 0)) (fset 36 (some M) (fset 37 (some (.int .i64 (i : Int))) Z27)))))) ((b5, .cells 15 [encS (Zy1 k (getV C i) (getA C i) s)]) :: (b4, z) :: σ)) :
    AWp Try.prog Zvx.n ((Zvv.snd 2).fst.body) R (fset 2 (some (.iptr nd)) (fset 3 (some (.iptr (Zxu C))) (fset 4 (some (.ptr b4 0 0)) (fset 5 (some (.ptr b5 0 0)) (fset 36 (some M) (fset 37 (some (.int .i64 (i : Int))) Z27)))))) ((b5, .cells 15 [encS s]) :: (b4, z) :: σ) := by
  obtain ⟨hhere, hints, hns, htexts, hlens, hint, htext⟩ := hC
  have hmem : ∀ t, t ∈ C.texts → t.length ≤ 140737488355328 := htext
  have hgetA : -9223372036854775808 ≤ getA C i ∧ getA C i ≤ 9223372036854775807 := by
    unfold getA
    split
    · rename_i h2
      have := htext _ (List.getElem_mem h2)
      rw [List.getD_eq_getElem?_getD, List.getElem?_eq_getElem h2, Option.getD_some]
      omega
    · have h2 : i < C.ints.length := by omega
      rw [List.getD_eq_getElem?_getD, List.getElem?_eq_getElem h2, Option.getD_some]
      exact hint _ (List.getElem_mem h2)
  have hcl : (getV C i).Cl := by
    refine ⟨?_, by simp [getV, Vl.kids], by simp [getV, Vl.kids]⟩
    simp only [getV, Vl.b]
    by_cases h2 : i < C.texts.length
    · rw [List.getD_eq_getElem?_getD, List.getElem?_eq_getElem h2, Option.getD_some]
      exact htext _ (List.getElem_mem h2)
    · rw [List.getD_eq_getElem?_getD, List.getElem?_eq_none (by omega)]
      simp
  refine Z9z ?_
  (repeat (refine st_q rfl rfl rfl ?_))
  (refine Z8y ?_; (repeat (first | refine Z9v rfl ?_ | refine Z9w ?_)); refine Z9u ?_)
  refine Z9z ?_
  refine Z9k (by simp [Z0.cells, Z0.one]) fun b9 hb9 => ?_
  (refine Z8y ?_; (repeat (first | refine Z9v rfl ?_ | refine Z9w ?_)); refine Z9u ?_)
  refine Zby (Zbx.content (ys := [.agg [.bool false, .int .i64 0, .int .i64 0, .slc 1 (bytes []) false, .slc 5 (Zm5 []) false]]) rfl (by intro y hy; simp at hy; subst hy; exact Z0.fit_iff.1 rfl) (VRle.same (VRle.same (VRle.same (VRle.cons (VRle.nilF _ _) (VRle.cons (VRle.nilF _ _) (VRle.refl _))))))) ?_
  have mid : ∀ (b : List UInt8) (x : Int), getV C i = .mk false x (C.ns.getD i 0) b [] → AWp Try.prog Zvx.n (((Zvv.snd 2).fst.body).snd 4) R (fset 2 (some (.iptr nd)) (fset 3 (some (.iptr (Zxu C))) (fset 4 (some (.ptr b4 0 0)) (fset 5 (some (.ptr b5 0 0)) (fset 8 (some (.int .i64 (i : Int))) (fset 9 (some (.ptr b9 0 0)) (fset 10 (some (.int .i64 (getA C i))) (fset 36 (some M) (fset 37 (some (.int .i64 (i : Int))) Z27)))))))))
      ((b9, .cells 5 [.agg [.bool false, .int .i64 x, .int .i64 0, .slc 1 (bytes b) false, .slc 5 (Zm5 []) false]]) :: (b5, .cells 15 [encS s]) :: (b4, z) :: σ) := by
    intro b x hg
    refine awp_seq ?_
    refine awp_seq ?_
    refine Zbm (fun _ _ => rfl) ?_
    (repeat (refine st_q rfl rfl rfl ?_))
    (refine Z8y ?_; (repeat (first | refine Z9v rfl ?_ | refine Z9w ?_)); refine Z9u ?_)
    rw [show ((C.ns.map (Z0.int .i64)).length : Int) = (C.ns.length : Int) by simp]
    have fin : ∀ y : Int, y = C.ns.getD i 0 → AWp Try.prog Zvx.n (((Zvv.snd 2).fst.body).snd 5) R (fset 2 (some (.iptr nd)) (fset 3 (some (.iptr (Zxu C))) (fset 4 (some (.ptr b4 0 0)) (fset 5 (some (.ptr b5 0 0)) (fset 9 (some (.ptr b9 0 0)) (fset 10 (some (.int .i64 (getA C i))) (fset 36 (some M) (fset 37 (some (.int .i64 (i : Int))) Z27))))))))
        ((b9, .cells 5 [.agg [.bool false, .int .i64 x, .int .i64 y, .slc 1 (bytes b) false, .slc 5 (Zm5 []) false]]) :: (b5, .cells 15 [encS s]) :: (b4, z) :: σ) := by
      intro y hy
      have e : [Z0.bool false, .int .i64 x, .int .i64 y, .slc 1 (bytes b) false, .slc 5 (Zm5 []) false] = Zm6 (getV C i) := by rw [hg, hy]; rfl
      rw [e]
      refine Zb3 (d := 9) (cs := Zm6 (getV C i)) rfl ?_
      (refine Z9y (keep := [2, 3, 4, 5, 9, 10, 36, 37]) ?_; ((repeat (first | refine Z9v rfl ?_ | refine Z9w ?_)); refine Z9u ?_))
      exact Zy5 hR s k nd hnd hk h1 _ hcl _ hs hgetA b4 b5 z _ M _ σ h
    refine Za3 (p := (i : Int) < (C.ns.length : Int)) rfl (fun h3 => ?_) (fun h3 => ?_)
    · have hjl : i < C.ns.length := by omega
      refine Zbm (fun _ _ => rfl) ?_
      (repeat (refine st_q rfl rfl rfl ?_))
      refine Z93 rfl (by omega) (Zxw hjl) ?_
      (repeat (refine st_q rfl rfl rfl ?_))
      refine Z9a rfl Z8z rfl (by decide) (Z0.fit_iff.1 rfl) (fun h => by cases h) Z9b ?_
      (refine Z8y ?_; (repeat (first | refine Z9v rfl ?_ | refine Z9w ?_)); refine Z9u ?_)
      exact fin _ (by rw [List.getD_eq_getElem?_getD, List.getElem?_eq_getElem hjl, Option.getD_some])
    · refine Zbn (fun _ _ => rfl) ?_
      (refine Z9y (keep := [2, 3, 4, 5, 9, 10, 36, 37]) ?_; ((repeat (first | refine Z9v rfl ?_ | refine Z9w ?_)); refine Z9u ?_))
      exact fin 0 (by rw [List.getD_eq_getElem?_getD, List.getElem?_eq_none (by omega), Option.getD_none])
  refine Z9z ?_
  (repeat (refine st_q rfl rfl rfl ?_))
  (refine Z8y ?_; (repeat (first | refine Z9v rfl ?_ | refine Z9w ?_)); refine Z9u ?_)
  refine awp_seq ?_
  refine awp_seq ?_
  refine Zbm (fun _ _ => rfl) ?_
  (repeat (refine st_q rfl rfl rfl ?_))
  (refine Z8y ?_; (repeat (first | refine Z9v rfl ?_ | refine Z9w ?_)); refine Z9u ?_)
  rw [show ((C.texts.map fun b => Z0.slc 1 (bytes b) false).length : Int) = (C.texts.length : Int) by simp]
  refine Za3 (p := (i : Int) < (C.texts.length : Int)) rfl (fun h3 => ?_) (fun h3 => ?_)
  · have hjl : i < C.texts.length := by omega
    have e1 : C.texts.getD i [] = C.texts[i] := by rw [List.getD_eq_getElem?_getD, List.getElem?_eq_getElem hjl, Option.getD_some]
    have e2 : getA C i = (C.texts[i].length : Int) := by rw [getA, if_pos hjl, e1]
    have e3 : getV C i = .mk false 0 (C.ns.getD i 0) C.texts[i] [] := by rw [getV, if_pos hjl, e1]
    (repeat (first | refine st_q rfl rfl rfl ?_ | refine Z8v rfl (st_q rfl rfl rfl ?_) | refine Z8w rfl ?_ | refine Z8x rfl ?_ | (refine Z8y ?_; (repeat (first | refine Z9v rfl ?_ | refine Z9w ?_)); refine Z9u ?_) | refine awp_seq ?_ | refine Zbm (fun _ _ => rfl) ?_ | refine Z8h ?_ | refine Zbn (fun _ _ => rfl) ?_ | refine Zbo (fun _ _ => rfl) ?_ | refine Z8f (t := true) rfl (fun _ => ?_) (fun e => by cases e) | refine Z8f (t := false) rfl (fun e => by cases e) (fun _ => ?_)))
    refine Z93 rfl (by omega) (Zxw (f := fun b => Z0.slc 1 (bytes b) false) hjl) ?_
    (repeat (refine st_q rfl rfl rfl ?_))
    refine Z9a rfl Z8z rfl (by decide) (Z0.fit_iff.1 rfl) (fun h => by cases h) Z9b ?_
    (refine Z8y ?_; (repeat (first | refine Z9v rfl ?_ | refine Z9w ?_)); refine Z9u ?_)
    refine Zbm (fun _ _ => rfl) ?_
    (repeat (refine st_q rfl rfl rfl ?_))
    refine Z92 rfl Z8z rfl rfl ?_
    (repeat (refine st_q rfl rfl rfl ?_))
    (refine Z8y ?_; (repeat (first | refine Z9v rfl ?_ | refine Z9w ?_)); refine Z9u ?_)
    rw [show ((bytes C.texts[i]).length : Int) = getA C i by rw [e2]; simp [bytes]]
    exact mid C.texts[i] 0 e3
  · have hjl : i < C.ints.length := by omega
    have e1 : C.ints.getD i 0 = C.ints[i] := by rw [List.getD_eq_getElem?_getD, List.getElem?_eq_getElem hjl, Option.getD_some]
    have e2 : getA C i = C.ints[i] := by rw [getA, if_neg (by omega), e1]
    have e4 : C.texts.getD i [] = [] := by rw [List.getD_eq_getElem?_getD, List.getElem?_eq_none (by omega), Option.getD_none]
    have e3 : getV C i = .mk false C.ints[i] (C.ns.getD i 0) [] [] := by rw [getV, if_neg (by omega), e1, e4]
    (repeat (first | refine st_q rfl rfl rfl ?_ | refine Z8v rfl (st_q rfl rfl rfl ?_) | refine Z8w rfl ?_ | refine Z8x rfl ?_ | (refine Z8y ?_; (repeat (first | refine Z9v rfl ?_ | refine Z9w ?_)); refine Z9u ?_) | refine awp_seq ?_ | refine Zbm (fun _ _ => rfl) ?_ | refine Z8h ?_ | refine Zbn (fun _ _ => rfl) ?_ | refine Zbo (fun _ _ => rfl) ?_ | refine Z8f (t := true) rfl (fun _ => ?_) (fun e => by cases e) | refine Z8f (t := false) rfl (fun e => by cases e) (fun _ => ?_)))
    refine Z93 rfl (by omega) (Zxw (f := Z0.int .i64) hjl) ?_
    (repeat (refine st_q rfl rfl rfl ?_))
    refine Z9a rfl Z8z rfl (by decide) (Z0.fit_iff.1 rfl) (fun h => by cases h) Z9b ?_
    (refine Z8y ?_; (repeat (first | refine Z9v rfl ?_ | refine Z9w ?_)); refine Z9u ?_)
    refine Zbm (fun _ _ => rfl) ?_
    (repeat (refine st_q rfl rfl rfl ?_))
    refine Z92 rfl Z8z rfl rfl ?_
    (repeat (refine st_q rfl rfl rfl ?_))
    (refine Z8y ?_; (repeat (first | refine Z9v rfl ?_ | refine Z9w ?_)); refine Z9u ?_)
    rw [← e2] at e3
    have m := mid [] _ e3
    rw [e2] at m
    exact m
theorem c_Of (k : Int) (nd : List Z0) (hnd : nd.length = 8) (hk : nd[0]? = some (.int .i64 k)) (h1 : ∀ c ∈ nd, c.one = true) (C : Col) (hC : C.Fit) (σ : Zc) :
    Z1q Try.prog Zct [.agg nd, encC C] σ fun r σ' => r = encS (ofF k C) ∧ σ' = σ := by
  have hC' := hC
  obtain ⟨hhere, hints, hns, htexts, hlens, hint, htext⟩ := hC'
  have hnd' := hnd
  have hk' := hk
  have h1' := h1
  match nd, hnd with
  | [n0, n1, n2, n3, n4, n5, n6, n7], _ =>
  simp only [List.getElem?_cons_zero, Option.some.injEq] at hk
  subst hk
  refine Z8t rfl Zxb (Nat.le_of_ble_eq_true rfl) ?_
  refine Z9z ?_
  refine Z9j rfl ⟨rfl, h1⟩ fun b2 hb2 => ?_
  refine Z9j rfl (Z0.fit_iff.1 rfl) fun b3 hb3 => ?_
  refine Z9k (by simp [Z0.cells, Z0.one]) fun b4 hb4 => ?_
  (refine Z8y ?_; (repeat (first | refine Z9v rfl ?_ | refine Z9w ?_)); refine Z9u ?_)
  refine Z8a (FSub.refl _) (HSub.swap _ _ _) ?_
  refine Zb3 (d := 3) (cs := Zxu C) rfl ?_
  refine Z8a (FSub.refl _) (HSub.swap _ _ _) ?_
  refine Zb3 (d := 2) (cs := [.int .i64 k, n1, n2, n3, n4, n5, n6, n7]) rfl ?_
  have main : ∀ z : Zb, z = .cells 15 [.agg [.int .i64 0, .bool false, .bool false, .bool false, .int .i64 0, .int .i64 0, .slc 0 [] true, .slc 0 [] true, .bool false, .int .i64 0, .int .i64 0, .slc 0 [] true, .slc 0 [] true, .bool false, .int .i64 0]] →
    AWp Try.prog Zvx.n (Zvx.code.snd 1) (ARet Zvx.res fun r σ' => r = encS (ofF k C) ∧ σ' = σ) (fset 2 (some (.iptr [.int .i64 k, n1, n2, n3, n4, n5, n6, n7])) (fset 3 (some (.iptr (Zxu C))) (fset 4 (some (.ptr b4 0 0)) Z27))) ((b4, z) :: σ) := by
    intro z hz
    refine Z9z ?_
    (repeat (refine st_q rfl rfl rfl ?_))
    refine Zbw rfl (fun σ => Zxz C hhere σ) ?_
    (repeat (refine st_q rfl rfl rfl ?_))
    refine Zbw rfl (fun σ => Zxl k σ) ?_
    (repeat (refine st_q rfl rfl rfl ?_))
    refine Z9k (by simp [Z0.cells, Z0.one]) fun b5 hb5 => ?_
    refine Z9a rfl Z8z rfl (by decide) (Z0.fit_iff.1 rfl) (fun h => by cases h) Z9b ?_
    (refine Z8y ?_; (repeat (first | refine Z9v rfl ?_ | refine Z9w ?_)); refine Z9u ?_)
    refine Zby (Zbx.content (ys := [encS (of0 k C (0 : Nat))]) rfl (by intro y hy; simp at hy; subst hy; exact Z0.fit_iff.1 rfl)
      (VRle.same (VRle.same (VRle.same (VRle.same (VRle.same (VRle.same (VRle.cons (VRle.nilF _ _) (VRle.cons (VRle.nilF _ _) (VRle.same (VRle.same (VRle.same (VRle.cons (VRle.nilF _ _) (VRle.cons (VRle.nilF _ _) (VRle.refl _))))))))))))))) ?_
    refine awp_seq ?_
    refine Z9z ?_
    (repeat (refine st_q rfl rfl rfl ?_))
    (refine Z8y ?_; (repeat (first | refine Z9v rfl ?_ | refine Z9w ?_)); refine Z9u ?_)
    rw [show ((C.here.map Z0.bool).length : Int) = (C.here.length : Int) by simp]
    refine Z8h ?_
    have hcb : C.here.count true ≤ C.here.length := List.count_le_length
    refine Zaa (fun m F σ' => ∃ (j cnt : Nat), F = fset 2 (some (.iptr [.int .i64 k, n1, n2, n3, n4, n5, n6, n7])) (fset 3 (some (.iptr (Zxu C))) (fset 4 (some (.ptr b4 0 0)) (fset 5 (some (.ptr b5 0 0)) (fset 18 (some (.slc 1 (C.here.map .bool) false)) (fset 19 (some (.int .i64 (C.here.length : Int))) (fset 20 (some (.int .i64 (j : Int))) Z27)))))) ∧
      (b5, Zb.cells 15 [encS (of0 k C cnt)]) :: (b4, z) :: σ = σ' ∧ j ≤ C.here.length ∧ cnt + (C.here.drop j).count true = C.here.count true ∧ m = C.here.length - j) (n := C.here.length) ⟨0, 0, rfl, rfl, by omega, by simp, rfl⟩ ?_
    rintro m F σ' ⟨j, cnt, rfl, rfl, hj, hcnt, rfl⟩
    (repeat (first | refine st_q rfl rfl rfl ?_ | refine Z8v rfl (st_q rfl rfl rfl ?_) | refine Z8w rfl ?_ | refine Z8x rfl ?_ | (refine Z8y ?_; (repeat (first | refine Z9v rfl ?_ | refine Z9w ?_)); refine Z9u ?_) | refine awp_seq ?_ | refine Zbm (fun _ _ => rfl) ?_ | refine Z8h ?_ | refine Zbn (fun _ _ => rfl) ?_ | refine Zbo (fun _ _ => rfl) ?_ | refine Z8f (t := true) rfl (fun _ => ?_) (fun e => by cases e) | refine Z8f (t := false) rfl (fun e => by cases e) (fun _ => ?_)))
    refine Za3 (p := (j : Int) < (C.here.length : Int)) rfl (fun h3 => ?_) (fun h3 => ?_)
    · have hjl : j < C.here.length := by omega
      rw [List.drop_eq_getElem_cons hjl, List.count_cons] at hcnt
      (repeat (first | refine st_q rfl rfl rfl ?_ | refine Z8v rfl (st_q rfl rfl rfl ?_) | refine Z8w rfl ?_ | refine Z8x rfl ?_ | (refine Z8y ?_; (repeat (first | refine Z9v rfl ?_ | refine Z9w ?_)); refine Z9u ?_) | refine awp_seq ?_ | refine Zbm (fun _ _ => rfl) ?_ | refine Z8h ?_ | refine Zbn (fun _ _ => rfl) ?_ | refine Zbo (fun _ _ => rfl) ?_ | refine Z8f (t := true) rfl (fun _ => ?_) (fun e => by cases e) | refine Z8f (t := false) rfl (fun e => by cases e) (fun _ => ?_)))
      refine Z93 rfl (by omega) (Zxw (f := Z0.bool) hjl) ?_
      (repeat (first | refine st_q rfl rfl rfl ?_ | refine Z8v rfl (st_q rfl rfl rfl ?_) | refine Z8w rfl ?_ | refine Z8x rfl ?_ | (refine Z8y ?_; (repeat (first | refine Z9v rfl ?_ | refine Z9w ?_)); refine Z9u ?_) | refine awp_seq ?_ | refine Zbm (fun _ _ => rfl) ?_ | refine Z8h ?_ | refine Zbn (fun _ _ => rfl) ?_ | refine Zbo (fun _ _ => rfl) ?_ | refine Z8f (t := true) rfl (fun _ => ?_) (fun e => by cases e) | refine Z8f (t := false) rfl (fun e => by cases e) (fun _ => ?_)))
      cases he : C.here[j] with
      | false =>
        rw [he] at hcnt
        (repeat (first | refine st_q rfl rfl rfl ?_ | refine Z8v rfl (st_q rfl rfl rfl ?_) | refine Z8w rfl ?_ | refine Z8x rfl ?_ | (refine Z8y ?_; (repeat (first | refine Z9v rfl ?_ | refine Z9w ?_)); refine Z9u ?_) | refine awp_seq ?_ | refine Zbm (fun _ _ => rfl) ?_ | refine Z8h ?_ | refine Zbn (fun _ _ => rfl) ?_ | refine Zbo (fun _ _ => rfl) ?_ | refine Z8f (t := true) rfl (fun _ => ?_) (fun e => by cases e) | refine Z8f (t := false) rfl (fun e => by cases e) (fun _ => ?_)))
        refine Zbp ?_
        (repeat (refine st_q rfl rfl rfl ?_))
        rw [show IntKind.wrap .i64 ((j : Int) + 1) = ((j + 1 : Nat) : Int) by rw [w64 _ (by omega) (by omega)]; omega]
        (refine Z8y ?_; (repeat (first | refine Z9v rfl ?_ | refine Z9w ?_)); refine Z9u ?_)
        exact ⟨_, C.here.length - (j + 1), HSub.refl _, ⟨j + 1, cnt, rfl, rfl, by omega, by simpa using hcnt, rfl⟩, by omega⟩
      | true =>
        rw [he] at hcnt
        simp only [beq_self_eq_true, if_true] at hcnt
        (repeat (first | refine st_q rfl rfl rfl ?_ | refine Z8v rfl (st_q rfl rfl rfl ?_) | refine Z8w rfl ?_ | refine Z8x rfl ?_ | (refine Z8y ?_; (repeat (first | refine Z9v rfl ?_ | refine Z9w ?_)); refine Z9u ?_) | refine awp_seq ?_ | refine Zbm (fun _ _ => rfl) ?_ | refine Z8h ?_ | refine Zbn (fun _ _ => rfl) ?_ | refine Zbo (fun _ _ => rfl) ?_ | refine Z8f (t := true) rfl (fun _ => ?_) (fun e => by cases e) | refine Z8f (t := false) rfl (fun e => by cases e) (fun _ => ?_)))
        refine Z92 rfl Z8z rfl rfl ?_
        (repeat (refine st_q rfl rfl rfl ?_))
        rw [show IntKind.wrap .i64 ((of0 k C cnt).count + 1) = ((cnt + 1 : Nat) : Int) by show IntKind.wrap .i64 ((cnt : Int) + 1) = _; rw [w64 _ (by omega) (by omega)]; omega]
        refine Z9a rfl Z8z rfl (by decide) (Z0.fit_iff.1 rfl) (fun h => by cases h) Z9b ?_
        (refine Z8y ?_; (repeat (first | refine Z9v rfl ?_ | refine Z9w ?_)); refine Z9u ?_)
        refine Zbp ?_
        (repeat (refine st_q rfl rfl rfl ?_))
        rw [show IntKind.wrap .i64 ((j : Int) + 1) = ((j + 1 : Nat) : Int) by rw [w64 _ (by omega) (by omega)]; omega]
        (refine Z8y ?_; (repeat (first | refine Z9v rfl ?_ | refine Z9w ?_)); refine Z9u ?_)
        exact ⟨_, C.here.length - (j + 1), HSub.refl _, ⟨j + 1, cnt + 1, rfl, rfl, by omega, by omega, rfl⟩, by omega⟩
    · rw [List.drop_of_length_le (by omega)] at hcnt
      simp only [List.count_nil, Nat.add_zero] at hcnt
      subst hcnt
      (repeat (first | refine st_q rfl rfl rfl ?_ | refine Z8v rfl (st_q rfl rfl rfl ?_) | refine Z8w rfl ?_ | refine Z8x rfl ?_ | (refine Z8y ?_; (repeat (first | refine Z9v rfl ?_ | refine Z9w ?_)); refine Z9u ?_) | refine awp_seq ?_ | refine Zbm (fun _ _ => rfl) ?_ | refine Z8h ?_ | refine Zbn (fun _ _ => rfl) ?_ | refine Zbo (fun _ _ => rfl) ?_ | refine Z8f (t := true) rfl (fun _ => ?_) (fun e => by cases e) | refine Z8f (t := false) rfl (fun e => by cases e) (fun _ => ?_)))
      generalize hL : max C.ints.length C.texts.length = L
      rw [show (if ((C.texts.map fun b => Z0.slc 1 (bytes b) false).length : Int) > ((C.ints.map (Z0.int .i64)).length : Int) then ((C.texts.map fun b => Z0.slc 1 (bytes b) false).length : Int) else ((C.ints.map (Z0.int .i64)).length : Int)) = (L : Int) by rw [List.length_map, List.length_map]; split <;> omega]
      generalize hX : ofF k C = X
      have hX0 : X = Zy2 k C (L - 0) 0 (of0 k C (C.here.count true)) := by rw [← hX, ofF, hL]; rfl
      refine Zaa (fun m F σ' => ∃ (j : Nat) (s : Stt), F = fset 2 (some (.iptr [.int .i64 k, n1, n2, n3, n4, n5, n6, n7])) (fset 3 (some (.iptr (Zxu C))) (fset 4 (some (.ptr b4 0 0)) (fset 5 (some (.ptr b5 0 0)) (fset 36 (some (.int .i64 (L : Int))) (fset 37 (some (.int .i64 (j : Int))) Z27))))) ∧
        (b5, Zb.cells 15 [encS s]) :: (b4, z) :: σ = σ' ∧ j ≤ L ∧ X = Zy2 k C (L - j) j s ∧ (-9223372036854775808 ≤ s.sum ∧ s.sum ≤ 9223372036854775807) ∧ m = L - j) (n := L) ⟨0, _, rfl, rfl, by omega, hX0, by simp [of0], rfl⟩ ?_
      rintro m F σ' ⟨j, s, rfl, rfl, hj, hXj, hs, rfl⟩
      (repeat (first | refine st_q rfl rfl rfl ?_ | refine Z8v rfl (st_q rfl rfl rfl ?_) | refine Z8w rfl ?_ | refine Z8x rfl ?_ | (refine Z8y ?_; (repeat (first | refine Z9v rfl ?_ | refine Z9w ?_)); refine Z9u ?_) | refine awp_seq ?_ | refine Zbm (fun _ _ => rfl) ?_ | refine Z8h ?_ | refine Zbn (fun _ _ => rfl) ?_ | refine Zbo (fun _ _ => rfl) ?_ | refine Z8f (t := true) rfl (fun _ => ?_) (fun e => by cases e) | refine Z8f (t := false) rfl (fun e => by cases e) (fun _ => ?_)))
      refine Za3 (p := (j : Int) < (L : Int)) rfl (fun h3 => ?_) (fun h3 => ?_)
      · have hjl : j < L := by omega
        obtain ⟨r, hr⟩ : ∃ r, L - j = r + 1 := ⟨L - j - 1, by omega⟩
        rw [hr, Zy2] at hXj
        refine Zbn (fun _ _ => rfl) ?_
        refine awp_seq ?_
        refine Z8h ?_
        (refine Z9y (keep := [2, 3, 4, 5, 36, 37]) ?_; ((repeat (first | refine Z9v rfl ?_ | refine Z9w ?_)); refine Z9u ?_))
        refine Zy6 (fun _ _ => rfl) s k [.int .i64 k, n1, n2, n3, n4, n5, n6, n7] rfl rfl h1 C hC j (by omega) hs b4 b5 z _ σ ?_
        refine Zbp ?_
        (repeat (refine st_q rfl rfl rfl ?_))
        rw [show IntKind.wrap .i64 ((j : Int) + 1) = ((j + 1 : Nat) : Int) by rw [w64 _ (by omega) (by omega)]; omega]
        (refine Z8y ?_; (repeat (first | refine Z9v rfl ?_ | refine Z9w ?_)); refine Z9u ?_)
        exact ⟨_, L - (j + 1), HSub.refl _, ⟨j + 1, _, rfl, rfl, by omega, by rw [hXj, show L - (j + 1) = r by omega], Zy3 _ _ _ _ hs, rfl⟩, by omega⟩
      · rw [show L - j = 0 by omega, Zy2] at hXj
        subst hXj
        subst hz
        (repeat (first | refine st_q rfl rfl rfl ?_ | refine Z8v rfl (st_q rfl rfl rfl ?_) | refine Z8w rfl ?_ | refine Z8x rfl ?_ | (refine Z8y ?_; (repeat (first | refine Z9v rfl ?_ | refine Z9w ?_)); refine Z9u ?_) | refine awp_seq ?_ | refine Zbm (fun _ _ => rfl) ?_ | refine Z8h ?_ | refine Zbn (fun _ _ => rfl) ?_ | refine Zbo (fun _ _ => rfl) ?_ | refine Z8f (t := true) rfl (fun _ => ?_) (fun e => by cases e) | refine Z8f (t := false) rfl (fun e => by cases e) (fun _ => ?_)))
        refine Z92 rfl Z8z rfl rfl ?_
        (repeat (refine st_q rfl rfl rfl ?_))
        refine Z9a rfl (Z90 (fun e => hb5 (by rw [e]; simp [Zh])) Z8z) rfl (by decide) (Z0.fit_iff.1 rfl) (fun h => by cases h) (Z9c (fun e => hb5 (by rw [e]; simp [Zh])) Z9b) ?_
        (refine Z8y ?_; (repeat (first | refine Z9v rfl ?_ | refine Z9w ?_)); refine Z9u ?_)
        refine Z8a (FSub.refl _) (HSub.tail _ _) ?_
        refine Z8d ?_
        exact ares (vs := [encS X]) (Zy4 rfl Z8z rfl) (HSub.tail _ _) ⟨rfl, rfl⟩
  (refine Z9y (keep := [2, 3, 4]) ?_; ((repeat (first | refine Z9v rfl ?_ | refine Z9w ?_)); refine Z9u ?_))
  exact main _ rfl
theorem Zy7 (k : Int) (nd : List Z0) (hnd : nd.length = 8) (hk : nd[0]? = some (.int .i64 k)) (h1 : ∀ c ∈ nd, c.one = true) (σ : Zc) :
    Z1q Try.prog Zcy [.agg nd] σ fun r σ' => r = encS (ofF k ⟨[], [], [], [], []⟩) ∧ σ' = σ := by
  have hO := c_Of k nd hnd hk h1 ⟨[], [], [], [], []⟩ ⟨by simp, by simp, by simp, by simp, by simp, by simp, by simp⟩
  have hO' : ∀ σ, Z1q Try.prog Zct [.agg nd, .agg [.slc 0 [] true, .slc 0 [] true, .slc 0 [] true, .slc 0 [] true, .slc 0 [] true]] σ fun r σ' => r = encS (ofF k ⟨[], [], [], [], []⟩) ∧ σ' = σ := by
    intro σ
    refine (hO σ).args ?_
    exact VRle.same (VRle.agg (by simp [Z0.one, Zxu]) (VRle.cons (VRle.nilF _ _) (VRle.cons (VRle.nilF _ _) (VRle.cons (VRle.nilF _ _) (VRle.cons (VRle.nilF _ _) (VRle.nilF _ _))))))
  match nd, hnd with
  | [n0, n1, n2, n3, n4, n5, n6, n7], _ =>
  refine Z8t rfl Zxc (Nat.le_of_ble_eq_true rfl) ?_
  refine Z9z ?_
  refine Z9j rfl ⟨rfl, h1⟩ fun b1 hb1 => ?_
  refine Z9k (by simp [Z0.cells, Z0.one]) fun b2 hb2 => ?_
  (refine Z8y ?_; (repeat (first | refine Z9v rfl ?_ | refine Z9w ?_)); refine Z9u ?_)
  refine Z8a (FSub.refl _) (HSub.swap _ _ _) ?_
  refine Zb3 (d := 1) (cs := [n0, n1, n2, n3, n4, n5, n6, n7]) rfl ?_
  refine Z9z ?_
  (repeat (refine st_q rfl rfl rfl ?_))
  refine Z9t rfl (hO' _) ?_
  (repeat (refine st_q rfl rfl rfl ?_))
  refine Z9a rfl Z8z rfl (by decide) (Z0.fit_iff.1 rfl) (fun h => by cases h) Z9b ?_
  (refine Z8y ?_; (repeat (first | refine Z9v rfl ?_ | refine Z9w ?_)); refine Z9u ?_)
  refine Z8d ?_
  exact ares (vs := [encS (ofF k ⟨[], [], [], [], []⟩)]) (Zy4 rfl Z8z rfl) (HSub.tail _ _) ⟨rfl, rfl⟩
end Go.Abs

