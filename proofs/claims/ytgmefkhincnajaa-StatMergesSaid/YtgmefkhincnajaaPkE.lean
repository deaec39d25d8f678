/- Part E of a proof: merged by program. -/
import Derived.Test.YtgmefkhincnajaaPkD
import Derived.Test.YtgmefkhincnajaaProg
import Derived.KernelRfl
namespace Go.Abs
open Go
def Zug : List Z2a := [
  ⟨some 1, (.box 5), [.t 0], none⟩,
  ⟨some 2, .mov, [.c (.bool false)], none⟩]
def Zuh : List Z2a := [
  ⟨some 3, (.fad 0), [.t 1], none⟩,
  ⟨some 4, (.load false 1), [.t 3], none⟩,
  ⟨some 5, (.call Zev), [.t 4, .c (.bool false)], none⟩,
  ⟨some 2, .mov, [.t 5], none⟩]
def Zui : Z2y := ⟨6, (.seq (.region Zug [1]) (.seq (.region Zuh [2]) .ret)), [.t 2]⟩
def Zuj : List Z2a := [
  ⟨some 1, (.box 5), [.t 0], none⟩,
  ⟨some 2, .mov, [.c (.bool false)], none⟩]
def Zuk : List Z2a := [
  ⟨some 3, .mov, [.c (.int .i64 0)], none⟩]
def Zul : List Z2a := [
  ⟨some 4, .mov, [.t 3], none⟩,
  ⟨some 5, (.fad 0), [.t 1], none⟩,
  ⟨some 6, (.load false 1), [.t 5], none⟩,
  ⟨some 7, .lens, [.t 6], none⟩,
  ⟨some 8, (.bin .lss), [.t 4, .t 7], none⟩]
def Zum : List Z2a := [
  ⟨some 11, (.fad 0), [.t 1], none⟩,
  ⟨some 12, (.load false 1), [.t 11], none⟩,
  ⟨some 13, .mov, [.t 3], none⟩,
  ⟨some 14, (.iad 1), [.t 12, .t 13], none⟩,
  ⟨some 15, (.load false 1), [.t 14], none⟩,
  ⟨some 16, .unot, [.t 15], none⟩]
def Zun : List Z2a := [
  ⟨some 2, .mov, [.c (.bool true)], none⟩]
def Zuo : List Z2a := [
  ⟨some 9, .mov, [.t 3], none⟩,
  ⟨some 10, (.bin .add), [.t 9, .c (.int .i64 1)], none⟩,
  ⟨some 3, .mov, [.t 10], none⟩]
def Zup : Z2b := (.seq (.seq (.region Zul [1, 3, 8]) (.cond (.t 8) .skip (.exit 0))) (.seq (.block 1 (.seq (.region Zum [1, 3, 16]) (.cond (.t 16) (.seq (.region Zun [2]) .ret) .skip))) (.region Zuo [1, 3])))
def Zuq : List Z2a := [
  ⟨some 2, .mov, [.c (.bool false)], none⟩]
def Zur : Z2y := ⟨17, (.seq (.region Zuj [1]) (.seq (.seq (.region Zuk [1, 3]) (.block 0 (.loop Zup))) (.seq (.region Zuq [2]) .ret))), [.t 2]⟩
def Zus : List Z2a := [
  ⟨some 4, .mov, [.c (.bool false)], none⟩]
def Zut : List Z2a := [
  ⟨some 5, .mov, [.t 0], none⟩,
  ⟨some 6, .mov, [.t 1], none⟩,
  ⟨some 7, (.call Zfx), [.t 5, .t 6], none⟩,
  ⟨some 8, (.bin .geq), [.t 7, .c (.int .i64 0)], none⟩,
  ⟨some 4, .mov, [.t 8], none⟩]
def Zuu : Z2y := ⟨9, (.seq (.region Zus [0, 1]) (.seq (.region Zut [4]) .ret)), [.t 4]⟩
def Zuv : List Z2a := [
  ⟨some 4, .mov, [.c (.int .i64 0)], none⟩]
def Zuw : List Z2a := [
  ⟨some 6, .mov, [.t 0], none⟩,
  ⟨some 7, .lens, [.t 6], none⟩,
  ⟨some 8, .mov, [.c (.int .i64 0)], none⟩]
def Zux : List Z2a := [
  ⟨some 9, (.bin .lss), [.t 8, .t 7], none⟩]
def Zuy : List Z2a := [
  ⟨some 10, .mov, [.t 8], none⟩,
  ⟨some 5, .mov, [.t 10], none⟩]
def Zuz : List Z2a := [
  ⟨some 11, .mov, [.t 1], none⟩,
  ⟨some 12, .mov, [.t 0], none⟩,
  ⟨some 13, .mov, [.t 5], none⟩,
  ⟨some 14, (.iad 1), [.t 12, .t 13], none⟩,
  ⟨some 15, (.load false 1), [.t 14], none⟩,
  ⟨some 16, (.binb .eql), [.t 11, .t 15], none⟩]
def Zv0 : List Z2a := [
  ⟨some 17, .mov, [.t 5], none⟩,
  ⟨some 4, .mov, [.t 17], none⟩]
def Zv1 : List Z2a := [
  ⟨some 18, (.bin .add), [.t 8, .c (.int .i64 1)], none⟩,
  ⟨some 8, .mov, [.t 18], none⟩]
def Zv2 : Z2b := (.seq (.region Zux [0, 1, 7, 8, 9]) (.seq (.cond (.t 9) .skip (.exit 0)) (.seq (.block 1 (.seq (.region Zuy [0, 1, 5, 7, 8]) (.seq (.region Zuz [0, 1, 5, 7, 8, 16]) (.cond (.t 16) (.seq (.region Zv0 [4]) .ret) .skip)))) (.region Zv1 [0, 1, 7, 8]))))
def Zv3 : List Z2a := [
  ⟨some 4, .mov, [.c (.int .i64 (-1))], none⟩]
def Zv4 : Z2y := ⟨19, (.seq (.region Zuv [0, 1]) (.seq (.seq (.region Zuw [0, 1, 7, 8]) (.block 0 (.loop Zv2))) (.seq (.region Zv3 [4]) .ret))), [.t 4]⟩
def Zv5 : List Z2a := [
  ⟨some 1, (.box 5), [.t 0], none⟩,
  ⟨some 2, (.alloc (.agg [(.slc 0 [] true), (.slc 0 [] true), (.slc 0 [] true), (.slc 0 [] true), (.slc 0 [] true)])), [], none⟩]
def Zv6 : List Z2a := [
  ⟨some 3, (.fad 0), [.t 1], none⟩,
  ⟨some 4, (.load false 1), [.t 3], none⟩,
  ⟨some 5, (.fad 1), [.t 1], none⟩,
  ⟨some 6, (.load false 1), [.t 5], none⟩,
  ⟨some 7, (.fad 2), [.t 1], none⟩,
  ⟨some 8, (.load false 1), [.t 7], none⟩,
  ⟨some 9, (.fad 3), [.t 1], none⟩,
  ⟨some 10, (.load false 1), [.t 9], none⟩,
  ⟨some 11, (.fad 4), [.t 1], none⟩,
  ⟨some 12, (.load false 1), [.t 11], none⟩,
  ⟨some 13, (.bld [(.slc 0 [] true), (.slc 0 [] true), (.slc 0 [] true), (.slc 0 [] true), (.slc 0 [] true)] [(0, 1), (1, 1), (2, 1), (3, 1), (4, 1)]), [.t 4, .t 6, .t 8, .t 10, .t 12], none⟩,
  ⟨none, (.store 5), [.t 2, .t 13], none⟩]
def Zv7 : Z2y := ⟨14, (.seq (.region Zv5 [1, 2]) (.seq (.region Zv6 [2]) .ret)), [.cell 2 true 5]⟩
def Zv8 : List Z2a := [
  ⟨some 1, (.box 15), [.t 0], none⟩,
  ⟨some 2, (.alloc (.agg [(.int .i64 0), (.bool false), (.bool false), (.bool false), (.int .i64 0), (.int .i64 0), (.slc 0 [] true), (.slc 0 [] true), (.bool false), (.int .i64 0), (.int .i64 0), (.slc 0 [] true), (.slc 0 [] true), (.bool false), (.int .i64 0)])), [], none⟩]
def Zv9 : List Z2a := [
  ⟨some 3, (.fad 0), [.t 1], none⟩,
  ⟨some 4, (.load false 1), [.t 3], none⟩,
  ⟨some 5, (.fad 1), [.t 1], none⟩,
  ⟨some 6, (.load false 1), [.t 5], none⟩,
  ⟨some 7, (.fad 2), [.t 1], none⟩,
  ⟨some 8, (.load false 1), [.t 7], none⟩,
  ⟨some 9, (.fad 3), [.t 1], none⟩,
  ⟨some 10, (.load true 5), [.t 9], none⟩,
  ⟨some 11, (.fad 8), [.t 1], none⟩,
  ⟨some 12, (.load true 5), [.t 11], none⟩,
  ⟨some 13, (.fad 13), [.t 1], none⟩,
  ⟨some 14, (.load false 1), [.t 13], none⟩,
  ⟨some 15, (.fad 14), [.t 1], none⟩,
  ⟨some 16, (.load false 1), [.t 15], none⟩,
  ⟨some 17, (.bld [(.int .i64 0), (.bool false), (.bool false), (.bool false), (.int .i64 0), (.int .i64 0), (.slc 0 [] true), (.slc 0 [] true), (.bool false), (.int .i64 0), (.int .i64 0), (.slc 0 [] true), (.slc 0 [] true), (.bool false), (.int .i64 0)] [(0, 1), (1, 1), (2, 1), (3, 5), (8, 5), (13, 1), (14, 1)]), [.t 4, .t 6, .t 8, .t 10, .t 12, .t 14, .t 16], none⟩,
  ⟨none, (.store 15), [.t 2, .t 17], none⟩]
def Zva : Z2y := ⟨18, (.seq (.region Zv8 [1, 2]) (.seq (.region Zv9 [2]) .ret)), [.cell 2 true 15]⟩
def Zvb : List Z2a := [
  ⟨some 2, (.box 8), [.t 0], none⟩,
  ⟨some 3, (.box 5), [.t 1], none⟩,
  ⟨some 4, (.alloc (.agg [(.int .i64 0), (.bool false), (.bool false), (.bool false), (.int .i64 0), (.int .i64 0), (.slc 0 [] true), (.slc 0 [] true), (.bool false), (.int .i64 0), (.int .i64 0), (.slc 0 [] true), (.slc 0 [] true), (.bool false), (.int .i64 0)])), [], none⟩]
def Zvc : List Z2a := [
  ⟨some 11, (.load true 5), [.t 3], none⟩,
  ⟨some 12, (.callp Zdk), [.t 11], none⟩,
  ⟨some 13, (.fad 0), [.t 2], none⟩,
  ⟨some 14, (.load false 1), [.t 13], none⟩,
  ⟨some 15, (.callp Ze4), [.t 14], none⟩,
  ⟨some 16, (.bld [(.int .i64 0), (.bool false), (.bool false), (.bool false), (.int .i64 0), (.int .i64 0), (.slc 0 [] true), (.slc 0 [] true), (.bool false), (.int .i64 0), (.int .i64 0), (.slc 0 [] true), (.slc 0 [] true), (.bool false), (.int .i64 0)] [(1, 1), (13, 1)]), [.t 12, .t 15], none⟩,
  ⟨some 5, (.alloc (.agg [(.int .i64 0), (.bool false), (.bool false), (.bool false), (.int .i64 0), (.int .i64 0), (.slc 0 [] true), (.slc 0 [] true), (.bool false), (.int .i64 0), (.int .i64 0), (.slc 0 [] true), (.slc 0 [] true), (.bool false), (.int .i64 0)])), [], none⟩,
  ⟨none, (.store 15), [.t 5, .t 16], none⟩]
def Zvd : List Z2a := [
  ⟨some 17, (.fad 0), [.t 3], none⟩,
  ⟨some 18, (.load false 1), [.t 17], none⟩,
  ⟨some 19, .lens, [.t 18], none⟩,
  ⟨some 20, .mov, [.c (.int .i64 0)], none⟩]
def Zve : List Z2a := [
  ⟨some 21, (.bin .lss), [.t 20, .t 19], none⟩]
def Zvf : List Z2a := [
  ⟨some 22, (.iad 1), [.t 18, .t 20], none⟩,
  ⟨some 23, (.load false 1), [.t 22], none⟩,
  ⟨some 7, .mov, [.t 23], none⟩]
def Zvg : List Z2a := [
  ⟨some 24, .mov, [.t 7], none⟩]
def Zvh : List Z2a := [
  ⟨some 25, (.fad 0), [.t 5], none⟩,
  ⟨some 26, (.load false 1), [.t 25], none⟩,
  ⟨some 27, (.bin .add), [.t 26, .c (.int .i64 1)], none⟩,
  ⟨some 28, (.fad 0), [.t 5], none⟩,
  ⟨none, (.store 1), [.t 28, .t 27], none⟩]
def Zvi : List Z2a := [
  ⟨some 29, (.bin .add), [.t 20, .c (.int .i64 1)], none⟩,
  ⟨some 20, .mov, [.t 29], none⟩]
def Zvj : Z2b := (.seq (.region Zve [2, 3, 4, 5, 18, 19, 20, 21]) (.seq (.cond (.t 21) .skip (.exit 0)) (.seq (.block 1 (.seq (.region Zvf [2, 3, 4, 5, 7, 18, 19, 20]) (.seq (.region Zvg [2, 3, 4, 5, 18, 19, 20, 24]) (.cond (.t 24) (.region Zvh [2, 3, 4, 5, 18, 19, 20]) .skip)))) (.region Zvi [2, 3, 4, 5, 18, 19, 20]))))
def Zvk : List Z2a := [
  ⟨some 30, (.fad 1), [.t 3], none⟩,
  ⟨some 31, (.load false 1), [.t 30], none⟩,
  ⟨some 32, .lens, [.t 31], none⟩,
  ⟨some 33, (.fad 3), [.t 3], none⟩,
  ⟨some 34, (.load false 1), [.t 33], none⟩,
  ⟨some 35, .lens, [.t 34], none⟩,
  ⟨some 36, .max, [.t 32, .t 35], none⟩,
  ⟨some 37, .mov, [.c (.int .i64 0)], none⟩]
def Zvl : List Z2a := [
  ⟨some 38, (.bin .lss), [.t 37, .t 36], none⟩]
def Zvm : List Z2a := [
  ⟨some 39, .mov, [.t 37], none⟩,
  ⟨some 8, .mov, [.t 39], none⟩]
def Zvn : List Z2a := [
  ⟨some 9, (.alloc (.agg [(.bool false), (.int .i64 0), (.int .i64 0), (.slc 0 [] true), (.slc 0 [] true)])), [], none⟩]
def Zvo : List Z2a := [
  ⟨some 10, .mov, [.c (.int .i64 0)], none⟩]
def Zvp : List Z2a := [
  ⟨some 40, .mov, [.t 8], none⟩,
  ⟨some 41, (.fad 3), [.t 3], none⟩,
  ⟨some 42, (.load false 1), [.t 41], none⟩,
  ⟨some 43, .lens, [.t 42], none⟩,
  ⟨some 44, (.bin .lss), [.t 40, .t 43], none⟩]
def Zvq : List Z2a := [
  ⟨some 45, (.fad 3), [.t 3], none⟩,
  ⟨some 46, (.load false 1), [.t 45], none⟩,
  ⟨some 47, .mov, [.t 8], none⟩,
  ⟨some 48, (.iad 1), [.t 46, .t 47], none⟩,
  ⟨some 49, (.load false 1), [.t 48], none⟩,
  ⟨some 50, (.fad 3), [.t 9], none⟩,
  ⟨none, (.store 1), [.t 50, .t 49], none⟩]
def Zvr : List Z2a := [
  ⟨some 51, (.fad 3), [.t 9], none⟩,
  ⟨some 52, (.load false 1), [.t 51], none⟩,
  ⟨some 53, .lens, [.t 52], none⟩,
  ⟨some 10, .mov, [.t 53], none⟩]
def Zvs : List Z2a := [
  ⟨some 54, (.fad 1), [.t 3], none⟩,
  ⟨some 55, (.load false 1), [.t 54], none⟩,
  ⟨some 56, .mov, [.t 8], none⟩,
  ⟨some 57, (.iad 1), [.t 55, .t 56], none⟩,
  ⟨some 58, (.load false 1), [.t 57], none⟩,
  ⟨some 59, (.fad 1), [.t 9], none⟩,
  ⟨none, (.store 1), [.t 59, .t 58], none⟩]
def Zvt : List Z2a := [
  ⟨some 60, (.fad 1), [.t 9], none⟩,
  ⟨some 61, (.load false 1), [.t 60], none⟩,
  ⟨some 10, .mov, [.t 61], none⟩]
def Zvu : List Z2a := [
  ⟨some 62, .mov, [.t 8], none⟩,
  ⟨some 63, (.fad 2), [.t 3], none⟩,
  ⟨some 64, (.load false 1), [.t 63], none⟩,
  ⟨some 65, .lens, [.t 64], none⟩,
  ⟨some 66, (.bin .lss), [.t 62, .t 65], none⟩]
def Zvv : List Z2a := [
  ⟨some 67, (.fad 2), [.t 3], none⟩,
  ⟨some 68, (.load false 1), [.t 67], none⟩,
  ⟨some 69, .mov, [.t 8], none⟩,
  ⟨some 70, (.iad 1), [.t 68, .t 69], none⟩,
  ⟨some 71, (.load false 1), [.t 70], none⟩,
  ⟨some 72, (.fad 2), [.t 9], none⟩,
  ⟨none, (.store 1), [.t 72, .t 71], none⟩]
def Zvw : List Z2a := [
  ⟨some 73, (.fad 0), [.t 2], none⟩,
  ⟨some 74, (.load false 1), [.t 73], none⟩,
  ⟨some 75, (.call Ze5), [.t 74], none⟩]
def Zvx : List Z2a := [
  ⟨some 76, (.load true 8), [.t 2], none⟩,
  ⟨some 77, (.load true 5), [.t 9], none⟩,
  ⟨some 78, (.load true 5), [.t 9], none⟩,
  ⟨some 79, (.call Ze6), [.t 5, .t 76, .t 77, .t 78], none⟩]
def Zvy : List Z2a := [
  ⟨some 80, .mov, [.t 10], none⟩,
  ⟨some 81, (.call Ze7), [.t 5, .t 80], none⟩]
def Zvz : List Z2a := [
  ⟨some 82, (.bin .add), [.t 37, .c (.int .i64 1)], none⟩,
  ⟨some 37, .mov, [.t 82], none⟩]
def Zw0 : Z2b := (.seq (.region Zvl [2, 3, 4, 5, 36, 37, 38]) (.seq (.cond (.t 38) .skip (.exit 2)) (.seq (.block 3 (.seq (.region Zvm [2, 3, 4, 5, 8, 36, 37]) (.seq (.region Zvn [2, 3, 4, 5, 8, 9, 36, 37]) (.seq (.region Zvo [2, 3, 4, 5, 8, 9, 36, 37]) (.seq (.seq (.region Zvp [2, 3, 4, 5, 8, 9, 36, 37, 44]) (.cond (.t 44) (.seq (.region Zvq [2, 3, 4, 5, 8, 9, 36, 37]) (.region Zvr [2, 3, 4, 5, 8, 9, 10, 36, 37])) (.seq (.region Zvs [2, 3, 4, 5, 8, 9, 36, 37]) (.region Zvt [2, 3, 4, 5, 8, 9, 10, 36, 37])))) (.seq (.seq (.region Zvu [2, 3, 4, 5, 8, 9, 10, 36, 37, 66]) (.cond (.t 66) (.region Zvv [2, 3, 4, 5, 9, 10, 36, 37]) .skip)) (.seq (.seq (.region Zvw [2, 3, 4, 5, 9, 10, 36, 37, 75]) (.cond (.t 75) (.region Zvx [2, 3, 4, 5, 10, 36, 37]) .skip)) (.region Zvy [2, 3, 4, 5, 36, 37])))))))) (.region Zvz [2, 3, 4, 5, 36, 37]))))
def Zw1 : List Z2a := [
  ⟨some 83, (.load true 15), [.t 5], none⟩,
  ⟨none, (.store 15), [.t 4, .t 83], none⟩]
def Zw2 : Z2y := ⟨84, (.seq (.region Zvb [2, 3, 4]) (.seq (.region Zvc [2, 3, 4, 5]) (.seq (.seq (.region Zvd [2, 3, 4, 5, 18, 19, 20]) (.block 0 (.loop Zvj))) (.seq (.seq (.region Zvk [2, 3, 4, 5, 36, 37]) (.block 2 (.loop Zw0))) (.seq (.region Zw1 [4]) .ret))))), [.cell 4 true 15]⟩
def Zw3 : List Z2a := [
  ⟨some 1, (.box 8), [.t 0], none⟩,
  ⟨some 2, (.alloc (.agg [(.int .i64 0), (.bool false), (.bool false), (.bool false), (.int .i64 0), (.int .i64 0), (.slc 0 [] true), (.slc 0 [] true), (.bool false), (.int .i64 0), (.int .i64 0), (.slc 0 [] true), (.slc 0 [] true), (.bool false), (.int .i64 0)])), [], none⟩]
def Zw4 : List Z2a := [
  ⟨some 3, (.load true 8), [.t 1], none⟩,
  ⟨some 4, (.bld [(.slc 0 [] true), (.slc 0 [] true), (.slc 0 [] true), (.slc 0 [] true), (.slc 0 [] true)] []), [], none⟩,
  ⟨some 5, (.call Zcs), [.t 3, .t 4], none⟩,
  ⟨none, (.store 15), [.t 2, .t 5], none⟩]
def Zw5 : Z2y := ⟨6, (.seq (.region Zw3 [1, 2]) (.seq (.region Zw4 [2]) .ret)), [.cell 2 true 15]⟩
def Zw6 : List Z2a := [
  ⟨some 3, (.box 8), [.t 0], none⟩,
  ⟨some 4, (.box 15), [.t 1], none⟩,
  ⟨some 5, (.box 15), [.t 2], none⟩,
  ⟨some 6, (.alloc (.agg [(.int .i64 0), (.bool false), (.bool false), (.bool false), (.int .i64 0), (.int .i64 0), (.slc 0 [] true), (.slc 0 [] true), (.bool false), (.int .i64 0), (.int .i64 0), (.slc 0 [] true), (.slc 0 [] true), (.bool false), (.int .i64 0)])), [], none⟩]
def Zw7 : List Z2a := [
  ⟨some 10, (.fad 0), [.t 4], none⟩,
  ⟨some 11, (.load false 1), [.t 10], none⟩,
  ⟨some 12, (.fad 0), [.t 5], none⟩,
  ⟨some 13, (.load false 1), [.t 12], none⟩,
  ⟨some 14, (.bin .add), [.t 11, .t 13], none⟩,
  ⟨some 15, (.fad 1), [.t 4], none⟩,
  ⟨some 16, (.load false 1), [.t 15], none⟩,
  ⟨some 17, .mov, [.t 16], none⟩,
  ⟨some 18, (.fad 1), [.t 5], some (17, false)⟩,
  ⟨some 19, (.load false 1), [.t 18], some (17, false)⟩,
  ⟨some 20, .pick, [.t 17, .c (.bool true), .t 19], none⟩,
  ⟨some 21, (.fad 13), [.t 4], none⟩,
  ⟨some 22, (.load false 1), [.t 21], none⟩,
  ⟨some 23, .mov, [.t 22], none⟩,
  ⟨some 24, (.fad 13), [.t 5], some (23, true)⟩,
  ⟨some 25, (.load false 1), [.t 24], some (23, true)⟩,
  ⟨some 26, .pick, [.t 23, .t 25, .c (.bool false)], none⟩,
  ⟨some 27, (.bld [(.int .i64 0), (.bool false), (.bool false), (.bool false), (.int .i64 0), (.int .i64 0), (.slc 0 [] true), (.slc 0 [] true), (.bool false), (.int .i64 0), (.int .i64 0), (.slc 0 [] true), (.slc 0 [] true), (.bool false), (.int .i64 0)] [(0, 1), (1, 1), (13, 1)]), [.t 14, .t 20, .t 26], none⟩,
  ⟨some 7, (.alloc (.agg [(.int .i64 0), (.bool false), (.bool false), (.bool false), (.int .i64 0), (.int .i64 0), (.slc 0 [] true), (.slc 0 [] true), (.bool false), (.int .i64 0), (.int .i64 0), (.slc 0 [] true), (.slc 0 [] true), (.bool false), (.int .i64 0)])), [], none⟩,
  ⟨none, (.store 15), [.t 7, .t 27], none⟩]
def Zw8 : List Z2a := [
  ⟨some 28, (.fad 13), [.t 7], none⟩,
  ⟨some 29, (.load false 1), [.t 28], none⟩]
def Zw9 : List Z2a := [
  ⟨some 30, (.fad 14), [.t 4], none⟩,
  ⟨some 31, (.load false 1), [.t 30], none⟩,
  ⟨some 32, (.call Ze7), [.t 7, .t 31], none⟩]
def Zwa : List Z2a := [
  ⟨some 33, (.fad 14), [.t 5], none⟩,
  ⟨some 34, (.load false 1), [.t 33], none⟩,
  ⟨some 35, (.call Ze7), [.t 7, .t 34], none⟩]
def Zwb : List Z2a := [
  ⟨some 36, (.load true 15), [.t 4], none⟩,
  ⟨some 37, (.load true 15), [.t 5], none⟩,
  ⟨some 38, (.bsl 15), [.t 36, .t 37], none⟩,
  ⟨some 39, .lens, [.t 38], none⟩,
  ⟨some 40, .mov, [.c (.int .i64 0)], none⟩]
def Zwc : List Z2a := [
  ⟨some 41, (.bin .lss), [.t 40, .t 39], none⟩]
def Zwd : List Z2a := [
  ⟨some 42, (.iad 15), [.t 38, .t 40], none⟩,
  ⟨some 43, (.load true 15), [.t 42], none⟩,
  ⟨some 9, (.alloc (.agg [(.int .i64 0), (.bool false), (.bool false), (.bool false), (.int .i64 0), (.int .i64 0), (.slc 0 [] true), (.slc 0 [] true), (.bool false), (.int .i64 0), (.int .i64 0), (.slc 0 [] true), (.slc 0 [] true), (.bool false), (.int .i64 0)])), [], none⟩,
  ⟨none, (.store 15), [.t 9, .t 43], none⟩]
def Zwe : List Z2a := [
  ⟨some 44, (.fad 2), [.t 9], none⟩,
  ⟨some 45, (.load false 1), [.t 44], none⟩]
def Zwf : List Z2a := [
  ⟨some 46, (.load true 8), [.t 3], none⟩,
  ⟨some 47, (.fad 3), [.t 9], none⟩,
  ⟨some 48, (.load true 5), [.t 47], none⟩,
  ⟨some 49, (.fad 8), [.t 9], none⟩,
  ⟨some 50, (.load true 5), [.t 49], none⟩,
  ⟨some 51, (.call Ze6), [.t 7, .t 46, .t 48, .t 50], none⟩]
def Zwg : List Z2a := [
  ⟨some 52, (.bin .add), [.t 40, .c (.int .i64 1)], none⟩,
  ⟨some 40, .mov, [.t 52], none⟩]
def Zwh : Z2b := (.seq (.region Zwc [3, 6, 7, 38, 39, 40, 41]) (.seq (.cond (.t 41) .skip (.exit 0)) (.seq (.block 1 (.seq (.region Zwd [3, 6, 7, 9, 38, 39, 40]) (.seq (.region Zwe [3, 6, 7, 9, 38, 39, 40, 45]) (.cond (.t 45) (.region Zwf [3, 6, 7, 38, 39, 40]) .skip)))) (.region Zwg [3, 6, 7, 38, 39, 40]))))
def Zwi : List Z2a := [
  ⟨some 53, (.load true 15), [.t 7], none⟩,
  ⟨none, (.store 15), [.t 6, .t 53], none⟩]
def Zwj : Z2y := ⟨54, (.seq (.region Zw6 [3, 4, 5, 6, 18, 19, 24, 25]) (.seq (.region Zw7 [3, 4, 5, 6, 7]) (.seq (.seq (.region Zw8 [3, 4, 5, 6, 7, 29]) (.cond (.t 29) (.seq (.region Zw9 [3, 4, 5, 6, 7]) (.region Zwa [3, 4, 5, 6, 7])) .skip)) (.seq (.seq (.region Zwb [3, 6, 7, 38, 39, 40]) (.block 0 (.loop Zwh))) (.seq (.region Zwi [6]) .ret))))), [.cell 6 true 15]⟩
def Zwk : List Z2a := [
  ⟨some 4, .mov, [.c (.int .i64 0)], none⟩,
  ⟨some 5, .mov, [.c (.bool false)], none⟩]
def Zwl : List Z2a := [
  ⟨some 6, .mov, [.t 1], none⟩,
  ⟨some 7, (.bin .gtr), [.t 6, .c (.int .i64 0)], none⟩,
  ⟨some 8, .mov, [.t 7], none⟩,
  ⟨some 9, .mov, [.t 0], some (8, true)⟩,
  ⟨some 10, .mov, [.t 1], some (8, true)⟩,
  ⟨some 11, (.bin .sub), [.c (.int .i64 9223372036854775807), .t 10], some (8, true)⟩,
  ⟨some 12, (.bin .gtr), [.t 9, .t 11], some (8, true)⟩,
  ⟨some 13, .pick, [.t 8, .t 12, .c (.bool false)], none⟩,
  ⟨some 14, .mov, [.t 13], none⟩,
  ⟨some 15, .mov, [.t 1], some (14, false)⟩,
  ⟨some 16, (.bin .lss), [.t 15, .c (.int .i64 0)], some (14, false)⟩,
  ⟨some 17, .mov, [.t 16], some (14, false)⟩,
  ⟨some 18, .mov, [.t 0], some (17, true)⟩,
  ⟨some 19, .mov, [.t 1], some (17, true)⟩,
  ⟨some 20, (.bin .sub), [.c (.int .i64 (-9223372036854775808)), .t 19], some (17, true)⟩,
  ⟨some 21, (.bin .lss), [.t 18, .t 20], some (17, true)⟩,
  ⟨some 22, .pick, [.t 17, .t 21, .c (.bool false)], some (14, false)⟩,
  ⟨some 23, .pick, [.t 14, .c (.bool true), .t 22], none⟩]
def Zwm : List Z2a := [
  ⟨some 4, .mov, [.c (.int .i64 0)], none⟩,
  ⟨some 5, .mov, [.c (.bool false)], none⟩]
def Zwn : List Z2a := [
  ⟨some 24, .mov, [.t 0], none⟩,
  ⟨some 25, .mov, [.t 1], none⟩,
  ⟨some 26, (.bin .add), [.t 24, .t 25], none⟩,
  ⟨some 4, .mov, [.t 26], none⟩,
  ⟨some 5, .mov, [.c (.bool true)], none⟩]
def Zwo : Z2y := ⟨27, (.seq (.region Zwk [0, 1, 9, 10, 11, 12, 15, 16, 17, 18, 19, 20, 21, 22]) (.seq (.seq (.region Zwl [0, 1, 23]) (.cond (.t 23) (.seq (.region Zwm [4, 5]) .ret) .skip)) (.seq (.region Zwn [4, 5]) .ret))), [.t 4, .t 5]⟩
def Zwp : List Z2a := [
  ⟨some 2, (.box 15), [.t 0], none⟩,
  ⟨some 3, (.box 15), [.t 1], none⟩,
  ⟨some 4, .mov, [.c (.bool false)], none⟩]
def Zwq : List Z2a := [
  ⟨some 5, (.fad 0), [.t 2], none⟩,
  ⟨some 6, (.load false 1), [.t 5], none⟩,
  ⟨some 7, (.fad 0), [.t 3], none⟩,
  ⟨some 8, (.load false 1), [.t 7], none⟩,
  ⟨some 9, (.bin .eql), [.t 6, .t 8], none⟩,
  ⟨some 10, .mov, [.t 9], none⟩,
  ⟨some 11, (.fad 1), [.t 2], some (10, true)⟩,
  ⟨some 12, (.load false 1), [.t 11], some (10, true)⟩,
  ⟨some 13, (.fad 1), [.t 3], some (10, true)⟩,
  ⟨some 14, (.load false 1), [.t 13], some (10, true)⟩,
  ⟨some 15, (.binb .eql), [.t 12, .t 14], some (10, true)⟩,
  ⟨some 16, .pick, [.t 10, .t 15, .c (.bool false)], none⟩,
  ⟨some 17, .mov, [.t 16], none⟩,
  ⟨some 18, (.fad 2), [.t 2], some (17, true)⟩,
  ⟨some 19, (.load false 1), [.t 18], some (17, true)⟩,
  ⟨some 20, (.fad 2), [.t 3], some (17, true)⟩,
  ⟨some 21, (.load false 1), [.t 20], some (17, true)⟩,
  ⟨some 22, (.binb .eql), [.t 19, .t 21], some (17, true)⟩,
  ⟨some 23, .pick, [.t 17, .t 22, .c (.bool false)], none⟩,
  ⟨some 24, .mov, [.t 23], none⟩,
  ⟨some 25, (.fad 3), [.t 2], some (24, true)⟩,
  ⟨some 26, (.load true 5), [.t 25], some (24, true)⟩,
  ⟨some 27, (.fad 3), [.t 3], some (24, true)⟩,
  ⟨some 28, (.load true 5), [.t 27], some (24, true)⟩,
  ⟨some 29, (.call Zf6), [.t 26, .t 28], some (24, true)⟩,
  ⟨some 30, .pick, [.t 24, .t 29, .c (.bool false)], none⟩,
  ⟨some 31, .mov, [.t 30], none⟩,
  ⟨some 32, (.fad 8), [.t 2], some (31, true)⟩,
  ⟨some 33, (.load true 5), [.t 32], some (31, true)⟩,
  ⟨some 34, (.fad 8), [.t 3], some (31, true)⟩,
  ⟨some 35, (.load true 5), [.t 34], some (31, true)⟩,
  ⟨some 36, (.call Zf6), [.t 33, .t 35], some (31, true)⟩,
  ⟨some 37, .pick, [.t 31, .t 36, .c (.bool false)], none⟩,
  ⟨some 38, .mov, [.t 37], none⟩,
  ⟨some 39, (.fad 13), [.t 2], some (38, true)⟩,
  ⟨some 40, (.load false 1), [.t 39], some (38, true)⟩,
  ⟨some 41, (.fad 13), [.t 3], some (38, true)⟩,
  ⟨some 42, (.load false 1), [.t 41], some (38, true)⟩,
  ⟨some 43, (.binb .eql), [.t 40, .t 42], some (38, true)⟩,
  ⟨some 44, .pick, [.t 38, .t 43, .c (.bool false)], none⟩,
  ⟨some 45, .mov, [.t 44], none⟩,
  ⟨some 46, (.fad 14), [.t 2], some (45, true)⟩,
  ⟨some 47, (.load false 1), [.t 46], some (45, true)⟩,
  ⟨some 48, (.fad 14), [.t 3], some (45, true)⟩,
  ⟨some 49, (.load false 1), [.t 48], some (45, true)⟩,
  ⟨some 50, (.bin .eql), [.t 47, .t 49], some (45, true)⟩,
  ⟨some 51, .pick, [.t 45, .t 50, .c (.bool false)], none⟩,
  ⟨some 4, .mov, [.t 51], none⟩]
def Zwr : Z2y := ⟨52, (.seq (.region Zwp [2, 3, 11, 12, 13, 14, 15, 18, 19, 20, 21, 22, 25, 26, 27, 28, 29, 32, 33, 34, 35, 36, 39, 40, 41, 42, 43, 46, 47, 48, 49, 50]) (.seq (.region Zwq [4]) .ret)), [.t 4]⟩
def Zws : List Z2a := [
  ⟨some 2, .mov, [.c (.bool false)], none⟩]
def Zwt : List Z2a := [
  ⟨some 3, .mov, [.t 0], none⟩]
def Zwu : List Z2a := [
  ⟨some 5, (.bin .eql), [.t 3, .c (.int .i64 0)], none⟩,
  ⟨some 4, .mov, [.t 5], none⟩]
def Zwv : List Z2a := [
  ⟨some 6, (.bin .eql), [.t 3, .c (.int .i64 1)], none⟩,
  ⟨some 4, .mov, [.t 6], none⟩]
def Zww : List Z2a := [
  ⟨some 7, (.bin .eql), [.t 3, .c (.int .i64 2)], none⟩,
  ⟨some 4, .mov, [.t 7], none⟩]
def Zwx : List Z2a := [
  ⟨some 8, (.bin .eql), [.t 3, .c (.int .i64 3)], none⟩,
  ⟨some 4, .mov, [.t 8], none⟩]
def Zwy : List Z2a := [
  ⟨some 9, (.bin .eql), [.t 3, .c (.int .i64 4)], none⟩,
  ⟨some 4, .mov, [.t 9], none⟩]
def Zwz : List Z2a := [
  ⟨some 11, (.bin .eql), [.t 3, .c (.int .i64 7)], none⟩,
  ⟨some 10, .mov, [.t 11], none⟩]
def Zx0 : List Z2a := [
  ⟨some 12, (.bin .eql), [.t 3, .c (.int .i64 16)], none⟩,
  ⟨some 10, .mov, [.t 12], none⟩]
def Zx1 : List Z2a := [
  ⟨some 13, (.bin .eql), [.t 3, .c (.int .i64 17)], none⟩,
  ⟨some 10, .mov, [.t 13], none⟩]
def Zx2 : List Z2a := [
  ⟨some 14, (.bin .eql), [.t 3, .c (.int .i64 8)], none⟩,
  ⟨some 10, .mov, [.t 14], none⟩]
def Zx3 : List Z2a := [
  ⟨some 16, (.bin .eql), [.t 3, .c (.int .i64 14)], none⟩,
  ⟨some 15, .mov, [.t 16], none⟩]
def Zx4 : List Z2a := [
  ⟨some 2, .mov, [.c (.bool true)], none⟩]
def Zx5 : List Z2a := [
  ⟨some 2, .mov, [.c (.bool false)], none⟩]
def Zx6 : Z2y := ⟨17, (.seq (.region Zws [0]) (.seq (.seq (.region Zwt [3]) (.block 0 (.seq (.block 3 (.block 2 (.block 1 (.seq (.seq (.seq (.seq (.region Zwu [3, 4]) (.cond (.t 4) .skip (.seq (.region Zwv [3, 4]) (.cond (.t 4) .skip (.seq (.region Zww [3, 4]) (.cond (.t 4) .skip (.seq (.region Zwx [3, 4]) (.cond (.t 4) .skip (.region Zwy [3, 4]))))))))) (.cond (.t 4) (.exit 1) .skip)) (.seq (.seq (.seq (.region Zwz [3, 10]) (.cond (.t 10) .skip (.seq (.region Zx0 [3, 10]) (.cond (.t 10) .skip (.seq (.region Zx1 [3, 10]) (.cond (.t 10) .skip (.region Zx2 [3, 10]))))))) (.cond (.t 10) (.exit 2) .skip)) (.seq (.region Zx3 [15]) (.cond (.t 15) (.exit 3) .skip)))) (.exit 0))))) (.seq (.seq (.region Zx4 [2]) .ret) (.exit 0))))) (.seq (.region Zx5 [2]) .ret))), [.t 2]⟩
def Zx7 : List Z2a := [
  ⟨some 2, .mov, [.c (.bool false)], none⟩]
def Zx8 : List Z2a := [
  ⟨some 3, .mov, [.t 0], none⟩,
  ⟨some 4, (.call Zfc), [.t 3], none⟩,
  ⟨some 5, .mov, [.t 4], none⟩,
  ⟨some 6, .mov, [.t 0], some (5, true)⟩,
  ⟨some 7, (.bin .neq), [.t 6, .c (.int .i64 0)], some (5, true)⟩,
  ⟨some 8, .pick, [.t 5, .t 7, .c (.bool false)], none⟩,
  ⟨some 9, .mov, [.t 8], none⟩,
  ⟨some 10, .mov, [.t 0], some (9, true)⟩,
  ⟨some 11, (.bin .neq), [.t 10, .c (.int .i64 8)], some (9, true)⟩,
  ⟨some 12, .pick, [.t 9, .t 11, .c (.bool false)], none⟩,
  ⟨some 2, .mov, [.t 12], none⟩]
def Zx9 : Z2y := ⟨13, (.seq (.region Zx7 [0, 6, 7, 10, 11]) (.seq (.region Zx8 [2]) .ret)), [.t 2]⟩
def Zxa : List Z2a := [
  ⟨some 5, (.box 8), [.t 1], none⟩,
  ⟨some 6, (.box 5), [.t 2], none⟩,
  ⟨some 7, (.box 5), [.t 3], none⟩]
def Zxb : List Z2a := [
  ⟨some 13, (.fad 0), [.t 5], none⟩,
  ⟨some 14, (.load false 1), [.t 13], none⟩,
  ⟨some 15, (.bld [(.int .i64 0), (.slc 0 [] true), (.slc 0 [] true), (.int .i64 0), (.int .i64 0), (.int .i64 0)] [(0, 1)]), [.t 14], none⟩,
  ⟨some 8, (.alloc (.agg [(.int .i64 0), (.slc 0 [] true), (.slc 0 [] true), (.int .i64 0), (.int .i64 0), (.int .i64 0)])), [], none⟩,
  ⟨none, (.store 6), [.t 8, .t 15], none⟩]
def Zxc : List Z2a := [
  ⟨some 17, (.load true 6), [.t 8], none⟩,
  ⟨some 18, (.load true 5), [.t 6], none⟩,
  ⟨some 19, .mov, [.t 0], none⟩,
  ⟨some 20, .nilc, [.t 19], none⟩,
  ⟨some 21, (.fad 3), [.t 20], none⟩,
  ⟨some 22, (.load true 5), [.t 21], none⟩,
  ⟨some 23, (.call Zek), [.t 17, .t 18, .t 22], none⟩,
  ⟨some 16, .mov, [.t 23], none⟩,
  ⟨some 24, (.ext 0), [.t 16], none⟩,
  ⟨some 25, (.ext 1), [.t 16], none⟩,
  ⟨some 9, .mov, [.t 24], none⟩,
  ⟨some 10, .mov, [.t 25], none⟩]
def Zxd : List Z2a := [
  ⟨some 26, .mov, [.t 0], none⟩,
  ⟨some 27, .nilc, [.t 26], none⟩,
  ⟨some 28, (.fad 2), [.t 27], none⟩,
  ⟨some 29, (.load false 1), [.t 28], none⟩,
  ⟨some 30, .unot, [.t 29], none⟩,
  ⟨some 31, .mov, [.t 30], none⟩,
  ⟨some 32, .mov, [.t 9], some (31, false)⟩,
  ⟨some 33, (.bin .lss), [.t 32, .c (.int .i64 0)], some (31, false)⟩,
  ⟨some 34, .pick, [.t 31, .c (.bool true), .t 33], none⟩]
def Zxe : List Z2a := [
  ⟨some 35, .mov, [.t 0], none⟩,
  ⟨some 36, (.load true 5), [.t 6], none⟩,
  ⟨some 37, (.call Zeq), [.t 36], none⟩,
  ⟨some 38, .nilc, [.t 35], none⟩,
  ⟨some 39, (.fad 3), [.t 38], none⟩,
  ⟨none, (.store 5), [.t 39, .t 37], none⟩]
def Zxf : List Z2a := [
  ⟨some 41, (.load true 6), [.t 8], none⟩,
  ⟨some 42, (.load true 5), [.t 7], none⟩,
  ⟨some 43, .mov, [.t 0], none⟩,
  ⟨some 44, .nilc, [.t 43], none⟩,
  ⟨some 45, (.fad 8), [.t 44], none⟩,
  ⟨some 46, (.load true 5), [.t 45], none⟩,
  ⟨some 47, (.call Zek), [.t 41, .t 42, .t 46], none⟩,
  ⟨some 40, .mov, [.t 47], none⟩,
  ⟨some 48, (.ext 0), [.t 40], none⟩,
  ⟨some 49, (.ext 1), [.t 40], none⟩,
  ⟨some 11, .mov, [.t 48], none⟩,
  ⟨some 12, .mov, [.t 49], none⟩]
def Zxg : List Z2a := [
  ⟨some 50, .mov, [.t 0], none⟩,
  ⟨some 51, .nilc, [.t 50], none⟩,
  ⟨some 52, (.fad 2), [.t 51], none⟩,
  ⟨some 53, (.load false 1), [.t 52], none⟩,
  ⟨some 54, .unot, [.t 53], none⟩,
  ⟨some 55, .mov, [.t 54], none⟩,
  ⟨some 56, .mov, [.t 11], some (55, false)⟩,
  ⟨some 57, (.bin .gtr), [.t 56, .c (.int .i64 0)], some (55, false)⟩,
  ⟨some 58, .pick, [.t 55, .c (.bool true), .t 57], none⟩]
def Zxh : List Z2a := [
  ⟨some 59, .mov, [.t 0], none⟩,
  ⟨some 60, (.load true 5), [.t 7], none⟩,
  ⟨some 61, (.call Zeq), [.t 60], none⟩,
  ⟨some 62, .nilc, [.t 59], none⟩,
  ⟨some 63, (.fad 8), [.t 62], none⟩,
  ⟨none, (.store 5), [.t 63, .t 61], none⟩]
def Zxi : List Z2a := [
  ⟨some 64, .mov, [.t 0], none⟩,
  ⟨some 65, .nilc, [.t 64], none⟩,
  ⟨some 66, (.fad 2), [.t 65], none⟩,
  ⟨none, (.store 1), [.t 66, .c (.bool true)], none⟩]
def Zxj : Z2y := ⟨67, (.seq (.region Zxa [0, 5, 6, 7, 32, 33, 56, 57]) (.seq (.region Zxb [0, 6, 7, 8, 32, 33, 56, 57]) (.seq (.seq (.region Zxc [0, 6, 7, 8, 9, 32, 33, 56, 57]) (.seq (.region Zxd [0, 6, 7, 8, 34, 56, 57]) (.cond (.t 34) (.region Zxe [0, 7, 8, 56, 57]) .skip))) (.seq (.seq (.region Zxf [0, 7, 11, 56, 57]) (.seq (.region Zxg [0, 7, 58]) (.cond (.t 58) (.region Zxh [0]) .skip))) (.region Zxi []))))), []⟩
def Zxk : List Z2a := [
  ⟨some 4, .mov, [.t 0], none⟩,
  ⟨some 5, .nilc, [.t 4], none⟩,
  ⟨some 6, (.fad 13), [.t 5], none⟩,
  ⟨some 7, (.load false 1), [.t 6], none⟩,
  ⟨some 8, .unot, [.t 7], none⟩]
def Zxl : List Z2a := [
  ⟨some 10, .mov, [.t 0], none⟩,
  ⟨some 11, .mov, [.t 0], none⟩,
  ⟨some 12, .mov, [.t 0], none⟩,
  ⟨some 13, .nilc, [.t 12], none⟩,
  ⟨some 14, (.fad 14), [.t 13], none⟩,
  ⟨some 15, (.load false 1), [.t 14], none⟩,
  ⟨some 16, .mov, [.t 1], none⟩,
  ⟨some 17, (.call Zfd), [.t 15, .t 16], none⟩,
  ⟨some 9, .mov, [.t 17], none⟩,
  ⟨some 18, (.ext 0), [.t 9], none⟩,
  ⟨some 19, (.ext 1), [.t 9], none⟩,
  ⟨some 20, .nilc, [.t 10], none⟩,
  ⟨some 21, (.fad 14), [.t 20], none⟩,
  ⟨none, (.store 1), [.t 21, .t 18], none⟩,
  ⟨some 22, .nilc, [.t 11], none⟩,
  ⟨some 23, (.fad 13), [.t 22], none⟩,
  ⟨none, (.store 1), [.t 23, .t 19], none⟩]
def Zxm : Z2y := ⟨24, (.seq (.seq (.region Zxk [0, 1, 8]) (.cond (.t 8) .ret .skip)) (.region Zxl [])), []⟩
def Zxn : List Z2a := [
  ⟨some 2, (.box 5), [.t 0], none⟩,
  ⟨some 3, (.box 5), [.t 1], none⟩,
  ⟨some 4, .mov, [.c (.bool false)], none⟩]
def Zxo : List Z2a := [
  ⟨some 5, (.fad 0), [.t 2], none⟩,
  ⟨some 6, (.load false 1), [.t 5], none⟩,
  ⟨some 7, (.fad 0), [.t 3], none⟩,
  ⟨some 8, (.load false 1), [.t 7], none⟩,
  ⟨some 9, (.binb .eql), [.t 6, .t 8], none⟩,
  ⟨some 10, .mov, [.t 9], none⟩,
  ⟨some 11, (.fad 1), [.t 2], some (10, true)⟩,
  ⟨some 12, (.load false 1), [.t 11], some (10, true)⟩,
  ⟨some 13, (.fad 1), [.t 3], some (10, true)⟩,
  ⟨some 14, (.load false 1), [.t 13], some (10, true)⟩,
  ⟨some 15, (.bin .eql), [.t 12, .t 14], some (10, true)⟩,
  ⟨some 16, .pick, [.t 10, .t 15, .c (.bool false)], none⟩,
  ⟨some 17, .mov, [.t 16], none⟩,
  ⟨some 18, (.fad 2), [.t 2], some (17, true)⟩,
  ⟨some 19, (.load false 1), [.t 18], some (17, true)⟩,
  ⟨some 20, (.fad 2), [.t 3], some (17, true)⟩,
  ⟨some 21, (.load false 1), [.t 20], some (17, true)⟩,
  ⟨some 22, (.bin .eql), [.t 19, .t 21], some (17, true)⟩,
  ⟨some 23, .pick, [.t 17, .t 22, .c (.bool false)], none⟩,
  ⟨some 24, .mov, [.t 23], none⟩,
  ⟨some 25, (.fad 3), [.t 2], some (24, true)⟩,
  ⟨some 26, (.load false 1), [.t 25], some (24, true)⟩,
  ⟨some 27, (.fad 3), [.t 3], some (24, true)⟩,
  ⟨some 28, (.load false 1), [.t 27], some (24, true)⟩,
  ⟨some 29, (.call Zg4), [.t 26, .t 28], some (24, true)⟩,
  ⟨some 30, .pick, [.t 24, .t 29, .c (.bool false)], none⟩,
  ⟨some 31, .mov, [.t 30], none⟩,
  ⟨some 32, (.fad 4), [.t 2], some (31, true)⟩,
  ⟨some 33, (.load false 1), [.t 32], some (31, true)⟩,
  ⟨some 34, .lens, [.t 33], some (31, true)⟩,
  ⟨some 35, (.fad 4), [.t 3], some (31, true)⟩,
  ⟨some 36, (.load false 1), [.t 35], some (31, true)⟩,
  ⟨some 37, .lens, [.t 36], some (31, true)⟩,
  ⟨some 38, (.bin .eql), [.t 34, .t 37], some (31, true)⟩,
  ⟨some 39, .pick, [.t 31, .t 38, .c (.bool false)], none⟩,
  ⟨some 4, .mov, [.t 39], none⟩]
def Zxp : Z2y := ⟨40, (.seq (.region Zxn [2, 3, 11, 12, 13, 14, 15, 18, 19, 20, 21, 22, 25, 26, 27, 28, 29, 32, 33, 34, 35, 36, 37, 38]) (.seq (.region Zxo [4]) .ret)), [.t 4]⟩
def Zxq : List Z2a := [
  ⟨some 4, .mov, [.c (.int .i64 0)], none⟩,
  ⟨some 5, .mov, [.c (.bool false)], none⟩]
def Zxr : List Z2a := [
  ⟨some 7, .mov, [.t 0], none⟩,
  ⟨some 8, .mov, [.t 1], none⟩,
  ⟨some 9, (.bin .add), [.t 7, .t 8], none⟩,
  ⟨some 6, .mov, [.t 9], none⟩]
def Zxs : List Z2a := [
  ⟨some 10, .mov, [.t 6], none⟩,
  ⟨some 11, .mov, [.t 0], none⟩,
  ⟨some 12, (.bin .gtr), [.t 10, .t 11], none⟩,
  ⟨some 13, .mov, [.t 1], none⟩,
  ⟨some 14, (.bin .gtr), [.t 13, .c (.int .i64 0)], none⟩,
  ⟨some 15, (.binb .neq), [.t 12, .t 14], none⟩,
  ⟨some 16, .mov, [.t 15], none⟩,
  ⟨some 17, .mov, [.t 1], some (16, true)⟩,
  ⟨some 18, (.bin .neq), [.t 17, .c (.int .i64 0)], some (16, true)⟩,
  ⟨some 19, .pick, [.t 16, .t 18, .c (.bool false)], none⟩]
def Zxt : List Z2a := [
  ⟨some 4, .mov, [.c (.int .i64 0)], none⟩,
  ⟨some 5, .mov, [.c (.bool false)], none⟩]
def Zxu : List Z2a := [
  ⟨some 20, .mov, [.t 6], none⟩,
  ⟨some 4, .mov, [.t 20], none⟩,
  ⟨some 5, .mov, [.c (.bool true)], none⟩]
def Zxv : Z2y := ⟨21, (.seq (.region Zxq [0, 1, 17, 18]) (.seq (.region Zxr [0, 1, 6, 17, 18]) (.seq (.seq (.region Zxs [6, 19]) (.cond (.t 19) (.seq (.region Zxt [4, 5]) .ret) .skip)) (.seq (.region Zxu [4, 5]) .ret)))), [.t 4, .t 5]⟩
def Zxw : List Z2a := [
  ⟨some 4, .mov, [.c (.bool false)], none⟩]
def Zxx : List Z2a := [
  ⟨some 5, .mov, [.t 0], none⟩,
  ⟨some 6, .b2s, [.t 5], none⟩,
  ⟨some 7, .mov, [.t 1], none⟩,
  ⟨some 8, .b2s, [.t 7], none⟩,
  ⟨some 9, (.bin .eql), [.t 6, .t 8], none⟩,
  ⟨some 4, .mov, [.t 9], none⟩]
def Zxy : Z2y := ⟨10, (.seq (.region Zxw [0, 1]) (.seq (.region Zxx [4]) .ret)), [.t 4]⟩
end Go.Abs
namespace Go.Abs
open Go Go.Proofs
theorem Zxz : Z2z Try.prog [] Zdk = some Zui.erase := by kernel_rfl
theorem Zy0 : Z2z Try.prog [] Zdl = some Zur.erase := by kernel_rfl
theorem Zy1 : Z2z Try.prog [] Zev = some Zuu.erase := by kernel_rfl
theorem Zy2 : Z2z Try.prog [] Zfx = some Zv4.erase := by kernel_rfl
theorem Zy3 : Z2z Try.prog [] Zct = some Zv7.erase := by kernel_rfl
theorem Zy4 : Z2z Try.prog [] Zcv = some Zva.erase := by kernel_rfl
theorem Zy5 : Z2z Try.prog [(1, 4), (1, 1)] Zcs = some Zw2.erase := by kernel_rfl
theorem Zy6 : Z2z Try.prog [] Zcx = some Zw5.erase := by kernel_rfl
theorem Zy7 : Z2z Try.prog [] Zcz = some Zwj.erase := by kernel_rfl
theorem Zy8 : Z2z Try.prog [] Zd3 = some Zwo.erase := by kernel_rfl
theorem Zy9 : Z2z Try.prog [] Zdx = some Zwr.erase := by kernel_rfl
theorem Zya : Z2z Try.prog [] Ze4 = some Zx6.erase := by kernel_rfl
theorem Zyb : Z2z Try.prog [] Ze5 = some Zx9.erase := by kernel_rfl
theorem Zyc : Z2z Try.prog [] Ze6 = some Zxj.erase := by kernel_rfl
theorem Zyd : Z2z Try.prog [] Ze7 = some Zxm.erase := by kernel_rfl
theorem Zye : Z2z Try.prog [] Zf6 = some Zxp.erase := by kernel_rfl
theorem Zyf : Z2z Try.prog [] Zfd = some Zxv.erase := by kernel_rfl
theorem Zyg : Z2z Try.prog [] Zg4 = some Zxy.erase := by kernel_rfl
end Go.Abs
namespace Go.Abs
open Go Go.Proofs
set_option linter.unusedVariables false
set_option linter.unusedSimpArgs false
set_option maxHeartbeats 4000000
attribute [local irreducible] AWp aops KP
def Zyh (k : Int) : Bool := decide (k = 0) || decide (k = 1) || decide (k = 2) || decide (k = 3) || decide (k = 4) || decide (k = 7) || decide (k = 16) || decide (k = 17) || decide (k = 8) || decide (k = 14)
def Zyi (k : Int) : Bool := Zls k && (decide (k ≠ 0) && decide (k ≠ 8))
def addF (a b : Int) : Int × Bool := if -9223372036854775808 ≤ a + b ∧ a + b ≤ 9223372036854775807 then (a + b, true) else (0, false)
theorem Zyj (k : Int) (σ : Zc) : Z1q Try.prog Ze4 [.int .i64 k] σ fun r σ' => r = .bool (Zyh k) ∧ σ' = σ := by
  refine Z8t rfl Zya (Nat.le_of_ble_eq_true rfl) ?_
  by_cases h0 : k = 0
  · subst h0; (repeat (first | refine st_q rfl rfl rfl ?_ | refine Z8v rfl (st_q rfl rfl rfl ?_) | refine Z8w rfl ?_ | refine Z8x rfl ?_ | (refine Z8y ?_; (repeat (first | refine Z9v rfl ?_ | refine Z9w ?_)); refine Z9u ?_) | refine awp_seq ?_ | refine Zbm (fun _ _ => rfl) ?_ | refine Z8h ?_ | refine Zbn (fun _ _ => rfl) ?_ | refine Zbo (fun _ _ => rfl) ?_ | refine Z8f (t := true) rfl (fun _ => ?_) (fun e => by cases e) | refine Z8f (t := false) rfl (fun e => by cases e) (fun _ => ?_))); refine Z8d ?_; exact ares rfl (HSub.refl _) ⟨rfl, rfl⟩
  by_cases h1 : k = 1
  · subst h1; (repeat (first | refine st_q rfl rfl rfl ?_ | refine Z8v rfl (st_q rfl rfl rfl ?_) | refine Z8w rfl ?_ | refine Z8x rfl ?_ | (refine Z8y ?_; (repeat (first | refine Z9v rfl ?_ | refine Z9w ?_)); refine Z9u ?_) | refine awp_seq ?_ | refine Zbm (fun _ _ => rfl) ?_ | refine Z8h ?_ | refine Zbn (fun _ _ => rfl) ?_ | refine Zbo (fun _ _ => rfl) ?_ | refine Z8f (t := true) rfl (fun _ => ?_) (fun e => by cases e) | refine Z8f (t := false) rfl (fun e => by cases e) (fun _ => ?_))); refine Z8d ?_; exact ares rfl (HSub.refl _) ⟨rfl, rfl⟩
  by_cases h2 : k = 2
  · subst h2; (repeat (first | refine st_q rfl rfl rfl ?_ | refine Z8v rfl (st_q rfl rfl rfl ?_) | refine Z8w rfl ?_ | refine Z8x rfl ?_ | (refine Z8y ?_; (repeat (first | refine Z9v rfl ?_ | refine Z9w ?_)); refine Z9u ?_) | refine awp_seq ?_ | refine Zbm (fun _ _ => rfl) ?_ | refine Z8h ?_ | refine Zbn (fun _ _ => rfl) ?_ | refine Zbo (fun _ _ => rfl) ?_ | refine Z8f (t := true) rfl (fun _ => ?_) (fun e => by cases e) | refine Z8f (t := false) rfl (fun e => by cases e) (fun _ => ?_))); refine Z8d ?_; exact ares rfl (HSub.refl _) ⟨rfl, rfl⟩
  by_cases h3 : k = 3
  · subst h3; (repeat (first | refine st_q rfl rfl rfl ?_ | refine Z8v rfl (st_q rfl rfl rfl ?_) | refine Z8w rfl ?_ | refine Z8x rfl ?_ | (refine Z8y ?_; (repeat (first | refine Z9v rfl ?_ | refine Z9w ?_)); refine Z9u ?_) | refine awp_seq ?_ | refine Zbm (fun _ _ => rfl) ?_ | refine Z8h ?_ | refine Zbn (fun _ _ => rfl) ?_ | refine Zbo (fun _ _ => rfl) ?_ | refine Z8f (t := true) rfl (fun _ => ?_) (fun e => by cases e) | refine Z8f (t := false) rfl (fun e => by cases e) (fun _ => ?_))); refine Z8d ?_; exact ares rfl (HSub.refl _) ⟨rfl, rfl⟩
  by_cases h4 : k = 4
  · subst h4; (repeat (first | refine st_q rfl rfl rfl ?_ | refine Z8v rfl (st_q rfl rfl rfl ?_) | refine Z8w rfl ?_ | refine Z8x rfl ?_ | (refine Z8y ?_; (repeat (first | refine Z9v rfl ?_ | refine Z9w ?_)); refine Z9u ?_) | refine awp_seq ?_ | refine Zbm (fun _ _ => rfl) ?_ | refine Z8h ?_ | refine Zbn (fun _ _ => rfl) ?_ | refine Zbo (fun _ _ => rfl) ?_ | refine Z8f (t := true) rfl (fun _ => ?_) (fun e => by cases e) | refine Z8f (t := false) rfl (fun e => by cases e) (fun _ => ?_))); refine Z8d ?_; exact ares rfl (HSub.refl _) ⟨rfl, rfl⟩
  by_cases h7 : k = 7
  · subst h7; (repeat (first | refine st_q rfl rfl rfl ?_ | refine Z8v rfl (st_q rfl rfl rfl ?_) | refine Z8w rfl ?_ | refine Z8x rfl ?_ | (refine Z8y ?_; (repeat (first | refine Z9v rfl ?_ | refine Z9w ?_)); refine Z9u ?_) | refine awp_seq ?_ | refine Zbm (fun _ _ => rfl) ?_ | refine Z8h ?_ | refine Zbn (fun _ _ => rfl) ?_ | refine Zbo (fun _ _ => rfl) ?_ | refine Z8f (t := true) rfl (fun _ => ?_) (fun e => by cases e) | refine Z8f (t := false) rfl (fun e => by cases e) (fun _ => ?_))); refine Z8d ?_; exact ares rfl (HSub.refl _) ⟨rfl, rfl⟩
  by_cases h16 : k = 16
  · subst h16; (repeat (first | refine st_q rfl rfl rfl ?_ | refine Z8v rfl (st_q rfl rfl rfl ?_) | refine Z8w rfl ?_ | refine Z8x rfl ?_ | (refine Z8y ?_; (repeat (first | refine Z9v rfl ?_ | refine Z9w ?_)); refine Z9u ?_) | refine awp_seq ?_ | refine Zbm (fun _ _ => rfl) ?_ | refine Z8h ?_ | refine Zbn (fun _ _ => rfl) ?_ | refine Zbo (fun _ _ => rfl) ?_ | refine Z8f (t := true) rfl (fun _ => ?_) (fun e => by cases e) | refine Z8f (t := false) rfl (fun e => by cases e) (fun _ => ?_))); refine Z8d ?_; exact ares rfl (HSub.refl _) ⟨rfl, rfl⟩
  by_cases h17 : k = 17
  · subst h17; (repeat (first | refine st_q rfl rfl rfl ?_ | refine Z8v rfl (st_q rfl rfl rfl ?_) | refine Z8w rfl ?_ | refine Z8x rfl ?_ | (refine Z8y ?_; (repeat (first | refine Z9v rfl ?_ | refine Z9w ?_)); refine Z9u ?_) | refine awp_seq ?_ | refine Zbm (fun _ _ => rfl) ?_ | refine Z8h ?_ | refine Zbn (fun _ _ => rfl) ?_ | refine Zbo (fun _ _ => rfl) ?_ | refine Z8f (t := true) rfl (fun _ => ?_) (fun e => by cases e) | refine Z8f (t := false) rfl (fun e => by cases e) (fun _ => ?_))); refine Z8d ?_; exact ares rfl (HSub.refl _) ⟨rfl, rfl⟩
  by_cases h8 : k = 8
  · subst h8; (repeat (first | refine st_q rfl rfl rfl ?_ | refine Z8v rfl (st_q rfl rfl rfl ?_) | refine Z8w rfl ?_ | refine Z8x rfl ?_ | (refine Z8y ?_; (repeat (first | refine Z9v rfl ?_ | refine Z9w ?_)); refine Z9u ?_) | refine awp_seq ?_ | refine Zbm (fun _ _ => rfl) ?_ | refine Z8h ?_ | refine Zbn (fun _ _ => rfl) ?_ | refine Zbo (fun _ _ => rfl) ?_ | refine Z8f (t := true) rfl (fun _ => ?_) (fun e => by cases e) | refine Z8f (t := false) rfl (fun e => by cases e) (fun _ => ?_))); refine Z8d ?_; exact ares rfl (HSub.refl _) ⟨rfl, rfl⟩
  by_cases h14 : k = 14
  · subst h14; (repeat (first | refine st_q rfl rfl rfl ?_ | refine Z8v rfl (st_q rfl rfl rfl ?_) | refine Z8w rfl ?_ | refine Z8x rfl ?_ | (refine Z8y ?_; (repeat (first | refine Z9v rfl ?_ | refine Z9w ?_)); refine Z9u ?_) | refine awp_seq ?_ | refine Zbm (fun _ _ => rfl) ?_ | refine Z8h ?_ | refine Zbn (fun _ _ => rfl) ?_ | refine Zbo (fun _ _ => rfl) ?_ | refine Z8f (t := true) rfl (fun _ => ?_) (fun e => by cases e) | refine Z8f (t := false) rfl (fun e => by cases e) (fun _ => ?_))); refine Z8d ?_; exact ares rfl (HSub.refl _) ⟨rfl, rfl⟩
  (repeat (first | refine st_q rfl rfl rfl ?_ | refine Z8v rfl (st_q rfl rfl rfl ?_) | refine Z8w rfl ?_ | refine Z8x rfl ?_ | (refine Z8y ?_; (repeat (first | refine Z9v rfl ?_ | refine Z9w ?_)); refine Z9u ?_) | refine awp_seq ?_ | refine Zbm (fun _ _ => rfl) ?_ | refine Z8h ?_ | refine Zbn (fun _ _ => rfl) ?_ | refine Zbo (fun _ _ => rfl) ?_ | refine Z8f (t := true) rfl (fun _ => ?_) (fun e => by cases e) | refine Z8f (t := false) rfl (fun e => by cases e) (fun _ => ?_)))
  (rw [show decide (k = 0) = false from decide_eq_false (by omega)])
  (repeat (first | refine st_q rfl rfl rfl ?_ | refine Z8v rfl (st_q rfl rfl rfl ?_) | refine Z8w rfl ?_ | refine Z8x rfl ?_ | (refine Z8y ?_; (repeat (first | refine Z9v rfl ?_ | refine Z9w ?_)); refine Z9u ?_) | refine awp_seq ?_ | refine Zbm (fun _ _ => rfl) ?_ | refine Z8h ?_ | refine Zbn (fun _ _ => rfl) ?_ | refine Zbo (fun _ _ => rfl) ?_ | refine Z8f (t := true) rfl (fun _ => ?_) (fun e => by cases e) | refine Z8f (t := false) rfl (fun e => by cases e) (fun _ => ?_)))
  (rw [show decide (k = 1) = false from decide_eq_false (by omega)])
  (repeat (first | refine st_q rfl rfl rfl ?_ | refine Z8v rfl (st_q rfl rfl rfl ?_) | refine Z8w rfl ?_ | refine Z8x rfl ?_ | (refine Z8y ?_; (repeat (first | refine Z9v rfl ?_ | refine Z9w ?_)); refine Z9u ?_) | refine awp_seq ?_ | refine Zbm (fun _ _ => rfl) ?_ | refine Z8h ?_ | refine Zbn (fun _ _ => rfl) ?_ | refine Zbo (fun _ _ => rfl) ?_ | refine Z8f (t := true) rfl (fun _ => ?_) (fun e => by cases e) | refine Z8f (t := false) rfl (fun e => by cases e) (fun _ => ?_)))
  (rw [show decide (k = 2) = false from decide_eq_false (by omega)])
  (repeat (first | refine st_q rfl rfl rfl ?_ | refine Z8v rfl (st_q rfl rfl rfl ?_) | refine Z8w rfl ?_ | refine Z8x rfl ?_ | (refine Z8y ?_; (repeat (first | refine Z9v rfl ?_ | refine Z9w ?_)); refine Z9u ?_) | refine awp_seq ?_ | refine Zbm (fun _ _ => rfl) ?_ | refine Z8h ?_ | refine Zbn (fun _ _ => rfl) ?_ | refine Zbo (fun _ _ => rfl) ?_ | refine Z8f (t := true) rfl (fun _ => ?_) (fun e => by cases e) | refine Z8f (t := false) rfl (fun e => by cases e) (fun _ => ?_)))
  (rw [show decide (k = 3) = false from decide_eq_false (by omega)])
  (repeat (first | refine st_q rfl rfl rfl ?_ | refine Z8v rfl (st_q rfl rfl rfl ?_) | refine Z8w rfl ?_ | refine Z8x rfl ?_ | (refine Z8y ?_; (repeat (first | refine Z9v rfl ?_ | refine Z9w ?_)); refine Z9u ?_) | refine awp_seq ?_ | refine Zbm (fun _ _ => rfl) ?_ | refine Z8h ?_ | refine Zbn (fun _ _ => rfl) ?_ | refine Zbo (fun _ _ => rfl) ?_ | refine Z8f (t := true) rfl (fun _ => ?_) (fun e => by cases e) | refine Z8f (t := false) rfl (fun e => by cases e) (fun _ => ?_)))
  (rw [show decide (k = 4) = false from decide_eq_false (by omega)])
  (repeat (first | refine st_q rfl rfl rfl ?_ | refine Z8v rfl (st_q rfl rfl rfl ?_) | refine Z8w rfl ?_ | refine Z8x rfl ?_ | (refine Z8y ?_; (repeat (first | refine Z9v rfl ?_ | refine Z9w ?_)); refine Z9u ?_) | refine awp_seq ?_ | refine Zbm (fun _ _ => rfl) ?_ | refine Z8h ?_ | refine Zbn (fun _ _ => rfl) ?_ | refine Zbo (fun _ _ => rfl) ?_ | refine Z8f (t := true) rfl (fun _ => ?_) (fun e => by cases e) | refine Z8f (t := false) rfl (fun e => by cases e) (fun _ => ?_)))
  (rw [show decide (k = 7) = false from decide_eq_false (by omega)])
  (repeat (first | refine st_q rfl rfl rfl ?_ | refine Z8v rfl (st_q rfl rfl rfl ?_) | refine Z8w rfl ?_ | refine Z8x rfl ?_ | (refine Z8y ?_; (repeat (first | refine Z9v rfl ?_ | refine Z9w ?_)); refine Z9u ?_) | refine awp_seq ?_ | refine Zbm (fun _ _ => rfl) ?_ | refine Z8h ?_ | refine Zbn (fun _ _ => rfl) ?_ | refine Zbo (fun _ _ => rfl) ?_ | refine Z8f (t := true) rfl (fun _ => ?_) (fun e => by cases e) | refine Z8f (t := false) rfl (fun e => by cases e) (fun _ => ?_)))
  (rw [show decide (k = 16) = false from decide_eq_false (by omega)])
  (repeat (first | refine st_q rfl rfl rfl ?_ | refine Z8v rfl (st_q rfl rfl rfl ?_) | refine Z8w rfl ?_ | refine Z8x rfl ?_ | (refine Z8y ?_; (repeat (first | refine Z9v rfl ?_ | refine Z9w ?_)); refine Z9u ?_) | refine awp_seq ?_ | refine Zbm (fun _ _ => rfl) ?_ | refine Z8h ?_ | refine Zbn (fun _ _ => rfl) ?_ | refine Zbo (fun _ _ => rfl) ?_ | refine Z8f (t := true) rfl (fun _ => ?_) (fun e => by cases e) | refine Z8f (t := false) rfl (fun e => by cases e) (fun _ => ?_)))
  (rw [show decide (k = 17) = false from decide_eq_false (by omega)])
  (repeat (first | refine st_q rfl rfl rfl ?_ | refine Z8v rfl (st_q rfl rfl rfl ?_) | refine Z8w rfl ?_ | refine Z8x rfl ?_ | (refine Z8y ?_; (repeat (first | refine Z9v rfl ?_ | refine Z9w ?_)); refine Z9u ?_) | refine awp_seq ?_ | refine Zbm (fun _ _ => rfl) ?_ | refine Z8h ?_ | refine Zbn (fun _ _ => rfl) ?_ | refine Zbo (fun _ _ => rfl) ?_ | refine Z8f (t := true) rfl (fun _ => ?_) (fun e => by cases e) | refine Z8f (t := false) rfl (fun e => by cases e) (fun _ => ?_)))
  (rw [show decide (k = 8) = false from decide_eq_false (by omega)])
  (repeat (first | refine st_q rfl rfl rfl ?_ | refine Z8v rfl (st_q rfl rfl rfl ?_) | refine Z8w rfl ?_ | refine Z8x rfl ?_ | (refine Z8y ?_; (repeat (first | refine Z9v rfl ?_ | refine Z9w ?_)); refine Z9u ?_) | refine awp_seq ?_ | refine Zbm (fun _ _ => rfl) ?_ | refine Z8h ?_ | refine Zbn (fun _ _ => rfl) ?_ | refine Zbo (fun _ _ => rfl) ?_ | refine Z8f (t := true) rfl (fun _ => ?_) (fun e => by cases e) | refine Z8f (t := false) rfl (fun e => by cases e) (fun _ => ?_)))
  (rw [show decide (k = 14) = false from decide_eq_false (by omega)])
  (repeat (first | refine st_q rfl rfl rfl ?_ | refine Z8v rfl (st_q rfl rfl rfl ?_) | refine Z8w rfl ?_ | refine Z8x rfl ?_ | (refine Z8y ?_; (repeat (first | refine Z9v rfl ?_ | refine Z9w ?_)); refine Z9u ?_) | refine awp_seq ?_ | refine Zbm (fun _ _ => rfl) ?_ | refine Z8h ?_ | refine Zbn (fun _ _ => rfl) ?_ | refine Zbo (fun _ _ => rfl) ?_ | refine Z8f (t := true) rfl (fun _ => ?_) (fun e => by cases e) | refine Z8f (t := false) rfl (fun e => by cases e) (fun _ => ?_)))
  refine Z8d ?_
  exact ares rfl (HSub.refl _) ⟨by simp [Zyh, Z8m, h0, h1, h2, h3, h4, h7, h16, h17, h8, h14], rfl⟩
theorem Zyk (k : Int) (σ : Zc) : Z1q Try.prog Ze5 [.int .i64 k] σ fun r σ' => r = .bool (Zyi k) ∧ σ' = σ := by
  refine Z8t rfl Zyb (Nat.le_of_ble_eq_true rfl) ?_
  (repeat (first | refine st_q rfl rfl rfl ?_ | refine Z8v rfl (st_q rfl rfl rfl ?_) | refine Z8w rfl ?_ | refine Z8x rfl ?_ | (refine Z8y ?_; (repeat (first | refine Z9v rfl ?_ | refine Z9w ?_)); refine Z9u ?_) | refine awp_seq ?_ | refine Zbm (fun _ _ => rfl) ?_ | refine Z8h ?_ | refine Zbn (fun _ _ => rfl) ?_ | refine Zbo (fun _ _ => rfl) ?_ | refine Z8f (t := true) rfl (fun _ => ?_) (fun e => by cases e) | refine Z8f (t := false) rfl (fun e => by cases e) (fun _ => ?_)))
  refine Z9t rfl (Zmv k _) ?_
  cases hl : Zls k with
  | false =>
    (repeat (first | refine st_q rfl rfl rfl ?_ | refine Z8v rfl (st_q rfl rfl rfl ?_) | refine Z8w rfl ?_ | refine Z8x rfl ?_ | (refine Z8y ?_; (repeat (first | refine Z9v rfl ?_ | refine Z9w ?_)); refine Z9u ?_) | refine awp_seq ?_ | refine Zbm (fun _ _ => rfl) ?_ | refine Z8h ?_ | refine Zbn (fun _ _ => rfl) ?_ | refine Zbo (fun _ _ => rfl) ?_ | refine Z8f (t := true) rfl (fun _ => ?_) (fun e => by cases e) | refine Z8f (t := false) rfl (fun e => by cases e) (fun _ => ?_)))
    refine Z8d ?_
    exact ares rfl (HSub.refl _) ⟨by simp [Zyi, Z8m, hl], rfl⟩
  | true =>
    (repeat (first | refine st_q rfl rfl rfl ?_ | refine Z8v rfl (st_q rfl rfl rfl ?_) | refine Z8w rfl ?_ | refine Z8x rfl ?_ | (refine Z8y ?_; (repeat (first | refine Z9v rfl ?_ | refine Z9w ?_)); refine Z9u ?_) | refine awp_seq ?_ | refine Zbm (fun _ _ => rfl) ?_ | refine Z8h ?_ | refine Zbn (fun _ _ => rfl) ?_ | refine Zbo (fun _ _ => rfl) ?_ | refine Z8f (t := true) rfl (fun _ => ?_) (fun e => by cases e) | refine Z8f (t := false) rfl (fun e => by cases e) (fun _ => ?_)))
    by_cases h0 : k = 0
    · (rw [show decide (k ≠ 0) = false from decide_eq_false (by omega)])
      (repeat (first | refine st_q rfl rfl rfl ?_ | refine Z8v rfl (st_q rfl rfl rfl ?_) | refine Z8w rfl ?_ | refine Z8x rfl ?_ | (refine Z8y ?_; (repeat (first | refine Z9v rfl ?_ | refine Z9w ?_)); refine Z9u ?_) | refine awp_seq ?_ | refine Zbm (fun _ _ => rfl) ?_ | refine Z8h ?_ | refine Zbn (fun _ _ => rfl) ?_ | refine Zbo (fun _ _ => rfl) ?_ | refine Z8f (t := true) rfl (fun _ => ?_) (fun e => by cases e) | refine Z8f (t := false) rfl (fun e => by cases e) (fun _ => ?_)))
      refine Z8d ?_
      exact ares rfl (HSub.refl _) ⟨by simp [Zyi, Z8m, h0], rfl⟩
    · (rw [show decide (k ≠ 0) = true from decide_eq_true (by omega)])
      (repeat (first | refine st_q rfl rfl rfl ?_ | refine Z8v rfl (st_q rfl rfl rfl ?_) | refine Z8w rfl ?_ | refine Z8x rfl ?_ | (refine Z8y ?_; (repeat (first | refine Z9v rfl ?_ | refine Z9w ?_)); refine Z9u ?_) | refine awp_seq ?_ | refine Zbm (fun _ _ => rfl) ?_ | refine Z8h ?_ | refine Zbn (fun _ _ => rfl) ?_ | refine Zbo (fun _ _ => rfl) ?_ | refine Z8f (t := true) rfl (fun _ => ?_) (fun e => by cases e) | refine Z8f (t := false) rfl (fun e => by cases e) (fun _ => ?_)))
      refine Z8d ?_
      exact ares rfl (HSub.refl _) ⟨by simp [Zyi, Z8m, hl, h0], rfl⟩
theorem Zyl (a b : Int) (ha : -9223372036854775808 ≤ a ∧ a ≤ 9223372036854775807) (hb : -9223372036854775808 ≤ b ∧ b ≤ 9223372036854775807) (σ : Zc) : Z1q Try.prog Zfd [.int .i64 a, .int .i64 b] σ fun r σ' => r = .tup [.int .i64 (addF a b).1, .bool (addF a b).2] ∧ σ' = σ := by
  refine Z8t rfl Zyf (Nat.le_of_ble_eq_true rfl) ?_
  have hw : IntKind.wrap .i64 (a + b) = if -9223372036854775808 ≤ a + b ∧ a + b ≤ 9223372036854775807 then a + b else if 0 ≤ a then a + b - 18446744073709551616 else a + b + 18446744073709551616 := by
    split
    · rename_i h; exact w64 _ h.1 h.2
    · simp [IntKind.wrap, IntKind.bits, IntKind.signed]; split <;> omega
  generalize hs : IntKind.wrap .i64 (a + b) = s at hw
  (repeat (first | refine st_q rfl rfl rfl ?_ | refine Z8v rfl (st_q rfl rfl rfl ?_) | refine Z8w rfl ?_ | refine Z8x rfl ?_ | (refine Z8y ?_; (repeat (first | refine Z9v rfl ?_ | refine Z9w ?_)); refine Z9u ?_) | refine awp_seq ?_ | refine Zbm (fun _ _ => rfl) ?_ | refine Z8h ?_ | refine Zbn (fun _ _ => rfl) ?_ | refine Zbo (fun _ _ => rfl) ?_ | refine Z8f (t := true) rfl (fun _ => ?_) (fun e => by cases e) | refine Z8f (t := false) rfl (fun e => by cases e) (fun _ => ?_)))
  rw [hs]
  (repeat (first | refine st_q rfl rfl rfl ?_ | refine Z8v rfl (st_q rfl rfl rfl ?_) | refine Z8w rfl ?_ | refine Z8x rfl ?_ | (refine Z8y ?_; (repeat (first | refine Z9v rfl ?_ | refine Z9w ?_)); refine Z9u ?_) | refine awp_seq ?_ | refine Zbm (fun _ _ => rfl) ?_ | refine Z8h ?_ | refine Zbn (fun _ _ => rfl) ?_ | refine Zbo (fun _ _ => rfl) ?_ | refine Z8f (t := true) rfl (fun _ => ?_) (fun e => by cases e) | refine Z8f (t := false) rfl (fun e => by cases e) (fun _ => ?_)))
  by_cases h : -9223372036854775808 ≤ a + b ∧ a + b ≤ 9223372036854775807
  · rw [if_pos h] at hw
    have hA : addF a b = (a + b, true) := if_pos h
    rw [hA]
    by_cases h1 : decide (a < s) = decide (0 < b)
    · rw [show (!(decide (a < s) == decide (0 < b))) = false by rw [h1]; simp]
      (repeat (first | refine st_q rfl rfl rfl ?_ | refine Z8v rfl (st_q rfl rfl rfl ?_) | refine Z8w rfl ?_ | refine Z8x rfl ?_ | (refine Z8y ?_; (repeat (first | refine Z9v rfl ?_ | refine Z9w ?_)); refine Z9u ?_) | refine awp_seq ?_ | refine Zbm (fun _ _ => rfl) ?_ | refine Z8h ?_ | refine Zbn (fun _ _ => rfl) ?_ | refine Zbo (fun _ _ => rfl) ?_ | refine Z8f (t := true) rfl (fun _ => ?_) (fun e => by cases e) | refine Z8f (t := false) rfl (fun e => by cases e) (fun _ => ?_)))
      refine Z8d ?_
      exact ares rfl (HSub.refl _) ⟨by rw [hw]; rfl, rfl⟩
    · have hb0 : b = 0 := by
        rcases Decidable.em (0 < b) with q | q <;> rcases Decidable.em (a < s) with q2 | q2 <;> simp [q, q2] at h1 <;> omega
      rw [show (!(decide (a < s) == decide (0 < b))) = true by simpa using h1]
      (repeat (first | refine st_q rfl rfl rfl ?_ | refine Z8v rfl (st_q rfl rfl rfl ?_) | refine Z8w rfl ?_ | refine Z8x rfl ?_ | (refine Z8y ?_; (repeat (first | refine Z9v rfl ?_ | refine Z9w ?_)); refine Z9u ?_) | refine awp_seq ?_ | refine Zbm (fun _ _ => rfl) ?_ | refine Z8h ?_ | refine Zbn (fun _ _ => rfl) ?_ | refine Zbo (fun _ _ => rfl) ?_ | refine Z8f (t := true) rfl (fun _ => ?_) (fun e => by cases e) | refine Z8f (t := false) rfl (fun e => by cases e) (fun _ => ?_)))
      (rw [show decide (b ≠ 0) = false from decide_eq_false (by omega)])
      (repeat (first | refine st_q rfl rfl rfl ?_ | refine Z8v rfl (st_q rfl rfl rfl ?_) | refine Z8w rfl ?_ | refine Z8x rfl ?_ | (refine Z8y ?_; (repeat (first | refine Z9v rfl ?_ | refine Z9w ?_)); refine Z9u ?_) | refine awp_seq ?_ | refine Zbm (fun _ _ => rfl) ?_ | refine Z8h ?_ | refine Zbn (fun _ _ => rfl) ?_ | refine Zbo (fun _ _ => rfl) ?_ | refine Z8f (t := true) rfl (fun _ => ?_) (fun e => by cases e) | refine Z8f (t := false) rfl (fun e => by cases e) (fun _ => ?_)))
      refine Z8d ?_
      exact ares rfl (HSub.refl _) ⟨by rw [hw]; rfl, rfl⟩
  · rw [if_neg h] at hw
    have hA : addF a b = (0, false) := if_neg h
    rw [hA]
    have h1 : decide (a < s) ≠ decide (0 < b) := by
      intro e
      rcases Decidable.em (0 < b) with q | q <;> rcases Decidable.em (a < s) with q2 | q2 <;> simp [q, q2] at e <;> (split at hw <;> omega)
    rw [show (!(decide (a < s) == decide (0 < b))) = true by simpa using h1]
    (repeat (first | refine st_q rfl rfl rfl ?_ | refine Z8v rfl (st_q rfl rfl rfl ?_) | refine Z8w rfl ?_ | refine Z8x rfl ?_ | (refine Z8y ?_; (repeat (first | refine Z9v rfl ?_ | refine Z9w ?_)); refine Z9u ?_) | refine awp_seq ?_ | refine Zbm (fun _ _ => rfl) ?_ | refine Z8h ?_ | refine Zbn (fun _ _ => rfl) ?_ | refine Zbo (fun _ _ => rfl) ?_ | refine Z8f (t := true) rfl (fun _ => ?_) (fun e => by cases e) | refine Z8f (t := false) rfl (fun e => by cases e) (fun _ => ?_)))
    have hb0 : b ≠ 0 := by omega
    (rw [show decide (b ≠ 0) = true from decide_eq_true (by omega)])
    (repeat (first | refine st_q rfl rfl rfl ?_ | refine Z8v rfl (st_q rfl rfl rfl ?_) | refine Z8w rfl ?_ | refine Z8x rfl ?_ | (refine Z8y ?_; (repeat (first | refine Z9v rfl ?_ | refine Z9w ?_)); refine Z9u ?_) | refine awp_seq ?_ | refine Zbm (fun _ _ => rfl) ?_ | refine Z8h ?_ | refine Zbn (fun _ _ => rfl) ?_ | refine Zbo (fun _ _ => rfl) ?_ | refine Z8f (t := true) rfl (fun _ => ?_) (fun e => by cases e) | refine Z8f (t := false) rfl (fun e => by cases e) (fun _ => ?_)))
    refine Z8d ?_
    exact ares rfl (HSub.refl _) ⟨rfl, rfl⟩
theorem Zym (a b : Int) (ha : -9223372036854775808 ≤ a ∧ a ≤ 9223372036854775807) (hb : -9223372036854775808 ≤ b ∧ b ≤ 9223372036854775807) (σ : Zc) : Z1q Try.prog Zd3 [.int .i64 a, .int .i64 b] σ fun r σ' => r = .tup [.int .i64 (addF a b).1, .bool (addF a b).2] ∧ σ' = σ := by
  refine Z8t rfl Zy8 (Nat.le_of_ble_eq_true rfl) ?_
  (repeat (first | refine st_q rfl rfl rfl ?_ | refine Z8v rfl (st_q rfl rfl rfl ?_) | refine Z8w rfl ?_ | refine Z8x rfl ?_ | (refine Z8y ?_; (repeat (first | refine Z9v rfl ?_ | refine Z9w ?_)); refine Z9u ?_) | refine awp_seq ?_ | refine Zbm (fun _ _ => rfl) ?_ | refine Z8h ?_ | refine Zbn (fun _ _ => rfl) ?_ | refine Zbo (fun _ _ => rfl) ?_ | refine Z8f (t := true) rfl (fun _ => ?_) (fun e => by cases e) | refine Z8f (t := false) rfl (fun e => by cases e) (fun _ => ?_)))
  by_cases h1 : 0 < b
  · (rw [show decide (0 < b) = true from decide_eq_true (by omega)])
    (repeat (first | refine st_q rfl rfl rfl ?_ | refine Z8v rfl (st_q rfl rfl rfl ?_) | refine Z8w rfl ?_ | refine Z8x rfl ?_ | (refine Z8y ?_; (repeat (first | refine Z9v rfl ?_ | refine Z9w ?_)); refine Z9u ?_) | refine awp_seq ?_ | refine Zbm (fun _ _ => rfl) ?_ | refine Z8h ?_ | refine Zbn (fun _ _ => rfl) ?_ | refine Zbo (fun _ _ => rfl) ?_ | refine Z8f (t := true) rfl (fun _ => ?_) (fun e => by cases e) | refine Z8f (t := false) rfl (fun e => by cases e) (fun _ => ?_)))
    rw [w64 (9223372036854775807 - b) (by omega) (by omega)]
    by_cases h2 : 9223372036854775807 - b < a
    · (rw [show decide (9223372036854775807 - b < a) = true from decide_eq_true (by omega)])
      (repeat (first | refine st_q rfl rfl rfl ?_ | refine Z8v rfl (st_q rfl rfl rfl ?_) | refine Z8w rfl ?_ | refine Z8x rfl ?_ | (refine Z8y ?_; (repeat (first | refine Z9v rfl ?_ | refine Z9w ?_)); refine Z9u ?_) | refine awp_seq ?_ | refine Zbm (fun _ _ => rfl) ?_ | refine Z8h ?_ | refine Zbn (fun _ _ => rfl) ?_ | refine Zbo (fun _ _ => rfl) ?_ | refine Z8f (t := true) rfl (fun _ => ?_) (fun e => by cases e) | refine Z8f (t := false) rfl (fun e => by cases e) (fun _ => ?_)))
      refine Z8d ?_
      exact ares rfl (HSub.refl _) ⟨by rw [addF, if_neg (by omega)]; rfl, rfl⟩
    · (rw [show decide (9223372036854775807 - b < a) = false from decide_eq_false (by omega)])
      (repeat (first | refine st_q rfl rfl rfl ?_ | refine Z8v rfl (st_q rfl rfl rfl ?_) | refine Z8w rfl ?_ | refine Z8x rfl ?_ | (refine Z8y ?_; (repeat (first | refine Z9v rfl ?_ | refine Z9w ?_)); refine Z9u ?_) | refine awp_seq ?_ | refine Zbm (fun _ _ => rfl) ?_ | refine Z8h ?_ | refine Zbn (fun _ _ => rfl) ?_ | refine Zbo (fun _ _ => rfl) ?_ | refine Z8f (t := true) rfl (fun _ => ?_) (fun e => by cases e) | refine Z8f (t := false) rfl (fun e => by cases e) (fun _ => ?_)))
      (rw [show decide (b < 0) = false from decide_eq_false (by omega)])
      (repeat (first | refine st_q rfl rfl rfl ?_ | refine Z8v rfl (st_q rfl rfl rfl ?_) | refine Z8w rfl ?_ | refine Z8x rfl ?_ | (refine Z8y ?_; (repeat (first | refine Z9v rfl ?_ | refine Z9w ?_)); refine Z9u ?_) | refine awp_seq ?_ | refine Zbm (fun _ _ => rfl) ?_ | refine Z8h ?_ | refine Zbn (fun _ _ => rfl) ?_ | refine Zbo (fun _ _ => rfl) ?_ | refine Z8f (t := true) rfl (fun _ => ?_) (fun e => by cases e) | refine Z8f (t := false) rfl (fun e => by cases e) (fun _ => ?_)))
      refine Z8d ?_
      exact ares rfl (HSub.refl _) ⟨by rw [addF, if_pos (by omega), w64 _ (by omega) (by omega)]; rfl, rfl⟩
  · (rw [show decide (0 < b) = false from decide_eq_false (by omega)])
    (repeat (first | refine st_q rfl rfl rfl ?_ | refine Z8v rfl (st_q rfl rfl rfl ?_) | refine Z8w rfl ?_ | refine Z8x rfl ?_ | (refine Z8y ?_; (repeat (first | refine Z9v rfl ?_ | refine Z9w ?_)); refine Z9u ?_) | refine awp_seq ?_ | refine Zbm (fun _ _ => rfl) ?_ | refine Z8h ?_ | refine Zbn (fun _ _ => rfl) ?_ | refine Zbo (fun _ _ => rfl) ?_ | refine Z8f (t := true) rfl (fun _ => ?_) (fun e => by cases e) | refine Z8f (t := false) rfl (fun e => by cases e) (fun _ => ?_)))
    by_cases h2 : b < 0
    · (rw [show decide (b < 0) = true from decide_eq_true (by omega)])
      (repeat (first | refine st_q rfl rfl rfl ?_ | refine Z8v rfl (st_q rfl rfl rfl ?_) | refine Z8w rfl ?_ | refine Z8x rfl ?_ | (refine Z8y ?_; (repeat (first | refine Z9v rfl ?_ | refine Z9w ?_)); refine Z9u ?_) | refine awp_seq ?_ | refine Zbm (fun _ _ => rfl) ?_ | refine Z8h ?_ | refine Zbn (fun _ _ => rfl) ?_ | refine Zbo (fun _ _ => rfl) ?_ | refine Z8f (t := true) rfl (fun _ => ?_) (fun e => by cases e) | refine Z8f (t := false) rfl (fun e => by cases e) (fun _ => ?_)))
      rw [w64 (-9223372036854775808 - b) (by omega) (by omega)]
      by_cases h3 : a < -9223372036854775808 - b
      · (rw [show decide (a < -9223372036854775808 - b) = true from decide_eq_true (by omega)])
        (repeat (first | refine st_q rfl rfl rfl ?_ | refine Z8v rfl (st_q rfl rfl rfl ?_) | refine Z8w rfl ?_ | refine Z8x rfl ?_ | (refine Z8y ?_; (repeat (first | refine Z9v rfl ?_ | refine Z9w ?_)); refine Z9u ?_) | refine awp_seq ?_ | refine Zbm (fun _ _ => rfl) ?_ | refine Z8h ?_ | refine Zbn (fun _ _ => rfl) ?_ | refine Zbo (fun _ _ => rfl) ?_ | refine Z8f (t := true) rfl (fun _ => ?_) (fun e => by cases e) | refine Z8f (t := false) rfl (fun e => by cases e) (fun _ => ?_)))
        refine Z8d ?_
        exact ares rfl (HSub.refl _) ⟨by rw [addF, if_neg (by omega)]; rfl, rfl⟩
      · (rw [show decide (a < -9223372036854775808 - b) = false from decide_eq_false (by omega)])
        (repeat (first | refine st_q rfl rfl rfl ?_ | refine Z8v rfl (st_q rfl rfl rfl ?_) | refine Z8w rfl ?_ | refine Z8x rfl ?_ | (refine Z8y ?_; (repeat (first | refine Z9v rfl ?_ | refine Z9w ?_)); refine Z9u ?_) | refine awp_seq ?_ | refine Zbm (fun _ _ => rfl) ?_ | refine Z8h ?_ | refine Zbn (fun _ _ => rfl) ?_ | refine Zbo (fun _ _ => rfl) ?_ | refine Z8f (t := true) rfl (fun _ => ?_) (fun e => by cases e) | refine Z8f (t := false) rfl (fun e => by cases e) (fun _ => ?_)))
        refine Z8d ?_
        exact ares rfl (HSub.refl _) ⟨by rw [addF, if_pos (by omega), w64 _ (by omega) (by omega)]; rfl, rfl⟩
    · (rw [show decide (b < 0) = false from decide_eq_false (by omega)])
      (repeat (first | refine st_q rfl rfl rfl ?_ | refine Z8v rfl (st_q rfl rfl rfl ?_) | refine Z8w rfl ?_ | refine Z8x rfl ?_ | (refine Z8y ?_; (repeat (first | refine Z9v rfl ?_ | refine Z9w ?_)); refine Z9u ?_) | refine awp_seq ?_ | refine Zbm (fun _ _ => rfl) ?_ | refine Z8h ?_ | refine Zbn (fun _ _ => rfl) ?_ | refine Zbo (fun _ _ => rfl) ?_ | refine Z8f (t := true) rfl (fun _ => ?_) (fun e => by cases e) | refine Z8f (t := false) rfl (fun e => by cases e) (fun _ => ?_)))
      refine Z8d ?_
      exact ares rfl (HSub.refl _) ⟨by rw [addF, if_pos (by omega), w64 _ (by omega) (by omega)]; rfl, rfl⟩
end Go.Abs
namespace Go.Abs
open Go Go.Proofs
set_option linter.unusedVariables false
set_option linter.unusedSimpArgs false
set_option maxHeartbeats 4000000
attribute [local irreducible] AWp aops KP
structure Stt where
  count : Int
  null : Bool
  has : Bool
  min : Vl
  max : Vl
  sums : Bool
  sum : Int
def vl0 : Vl := .mk false 0 0 [] []
def Zyn (s : Stt) : List Z0 := [.int .i64 s.count, .bool s.null, .bool s.has,
  .bool s.min.null, .int .i64 s.min.i, .int .i64 s.min.n, .slc 1 (bytes s.min.b) false, .slc 5 (Zm4 s.min.kids) false,
  .bool s.max.null, .int .i64 s.max.i, .int .i64 s.max.n, .slc 1 (bytes s.max.b) false, .slc 5 (Zm4 s.max.kids) false,
  .bool s.sums, .int .i64 s.sum]
def encS (s : Stt) : Z0 := .agg (Zyn s)
def Zyo (s : Stt) (v : Int) : Stt := if s.sums = true then { s with sum := (addF s.sum v).1, sums := (addF s.sum v).2 } else s
def Zyp (k : Int) (s : Stt) (lo hi : Vl) : Stt :=
  { s with min := if s.has = false ∨ (cmpV k lo s.min).1 < 0 then lo else s.min, max := if s.has = false ∨ 0 < (cmpV k hi s.max).1 then hi else s.max, has := true }
theorem Zyq (s : Stt) (v : Int) (hs : -9223372036854775808 ≤ s.sum ∧ s.sum ≤ 9223372036854775807) (hv : -9223372036854775808 ≤ v ∧ v ≤ 9223372036854775807) (b : Nat) (σ : Zc) :
    Z1q Try.prog Ze7 [.ptr b 0 0, .int .i64 v] ((b, .cells 15 [encS s]) :: σ) fun r σ' => r = .tup [] ∧ σ' = (b, .cells 15 [encS (Zyo s v)]) :: σ := by
  refine Z8t rfl Zyd (Nat.le_of_ble_eq_true rfl) ?_
  (repeat (first | refine st_q rfl rfl rfl ?_ | refine Z8v rfl (st_q rfl rfl rfl ?_) | refine Z8w rfl ?_ | refine Z8x rfl ?_ | (refine Z8y ?_; (repeat (first | refine Z9v rfl ?_ | refine Z9w ?_)); refine Z9u ?_) | refine awp_seq ?_ | refine Zbm (fun _ _ => rfl) ?_ | refine Z8h ?_ | refine Zbn (fun _ _ => rfl) ?_ | refine Zbo (fun _ _ => rfl) ?_ | refine Z8f (t := true) rfl (fun _ => ?_) (fun e => by cases e) | refine Z8f (t := false) rfl (fun e => by cases e) (fun _ => ?_)))
  refine Z92 rfl Z8z rfl rfl ?_
  cases hS : s.sums with
  | false =>
    (repeat (first | refine st_q rfl rfl rfl ?_ | refine Z8v rfl (st_q rfl rfl rfl ?_) | refine Z8w rfl ?_ | refine Z8x rfl ?_ | (refine Z8y ?_; (repeat (first | refine Z9v rfl ?_ | refine Z9w ?_)); refine Z9u ?_) | refine awp_seq ?_ | refine Zbm (fun _ _ => rfl) ?_ | refine Z8h ?_ | refine Zbn (fun _ _ => rfl) ?_ | refine Zbo (fun _ _ => rfl) ?_ | refine Z8f (t := true) rfl (fun _ => ?_) (fun e => by cases e) | refine Z8f (t := false) rfl (fun e => by cases e) (fun _ => ?_)))
    refine Z8d ?_
    exact ares rfl (HSub.refl _) ⟨rfl, by rw [Zyo, if_neg (by simp [hS])]⟩
  | true =>
    (repeat (first | refine st_q rfl rfl rfl ?_ | refine Z8v rfl (st_q rfl rfl rfl ?_) | refine Z8w rfl ?_ | refine Z8x rfl ?_ | (refine Z8y ?_; (repeat (first | refine Z9v rfl ?_ | refine Z9w ?_)); refine Z9u ?_) | refine awp_seq ?_ | refine Zbm (fun _ _ => rfl) ?_ | refine Z8h ?_ | refine Zbn (fun _ _ => rfl) ?_ | refine Zbo (fun _ _ => rfl) ?_ | refine Z8f (t := true) rfl (fun _ => ?_) (fun e => by cases e) | refine Z8f (t := false) rfl (fun e => by cases e) (fun _ => ?_)))
    refine awp_region ?_
    (repeat (refine st_q rfl rfl rfl ?_))
    refine Z92 rfl Z8z rfl rfl ?_
    (repeat (refine st_q rfl rfl rfl ?_))
    refine Z9t rfl (Zyl s.sum v hs hv _) ?_
    (repeat (refine st_q rfl rfl rfl ?_))
    refine Z9a rfl Z8z rfl (by decide) (Z0.fit_iff.1 rfl) (fun h => by cases h) Z9b ?_
    (repeat (refine st_q rfl rfl rfl ?_))
    refine Z9a rfl Z8z rfl (by decide) (Z0.fit_iff.1 rfl) (fun h => by cases h) Z9b ?_
    refine Z8y ?_
    refine ⟨[], rfl, .tup [], _, Z8n.refl _ _, rfl, ?_⟩
    rw [Zyo, if_pos hS]
    rfl
theorem Zyr (s : Stt) (k : Int) (nd : List Z0) (hnd : nd.length = 8) (hk : nd[0]? = some (.int .i64 k)) (h1 : ∀ c ∈ nd, c.one = true) (lo hi : Vl) (hlo : lo.Cl) (hhi : hi.Cl) (b : Nat) (σ : Zc) :
    Z1q Try.prog Ze6 [.ptr b 0 0, .agg nd, encV lo, encV hi] ((b, .cells 15 [encS s]) :: σ) fun r σ' => r = .tup [] ∧ σ' = (b, .cells 15 [encS (Zyp k s lo hi)]) :: σ := by
  match nd, hnd with
  | [n0, n1, n2, n3, n4, n5, n6, n7], _ =>
  simp only [List.getElem?_cons_zero, Option.some.injEq] at hk
  subst hk
  have hcl := Zuf lo hlo
  have hch := Zuf hi hhi
  have hcm1 := Zu8 [.int .i64 k, .slc 0 [] true, .slc 0 [] true, .int .i64 0, .int .i64 0, .int .i64 0] k rfl rfl (by simp [Z0.one]) lo s.min
  have hcm2 := Zu8 [.int .i64 k, .slc 0 [] true, .slc 0 [] true, .int .i64 0, .int .i64 0, .int .i64 0] k rfl rfl (by simp [Z0.one]) hi s.max
  simp only [Zm6] at *
  refine Z8t rfl Zyc (Nat.le_of_ble_eq_true rfl) ?_
  refine Z9z ?_
  refine Z9j rfl ⟨rfl, h1⟩ fun b1 hb1 => ?_
  refine Z9j rfl (Z0.fit_iff.1 rfl) fun b2 hb2 => ?_
  refine Z9j rfl (Z0.fit_iff.1 rfl) fun b3 hb3 => ?_
  (repeat (refine st_q rfl rfl rfl ?_))
  (refine Z8y ?_; (repeat (first | refine Z9v rfl ?_ | refine Z9w ?_)); refine Z9u ?_)
  refine Zb3 (d := 7) (cs := Zm5 hi) rfl ?_
  refine Zb3 (d := 6) (cs := Zm5 lo) rfl ?_
  refine Zb3 (d := 5) (cs := [.int .i64 k, n1, n2, n3, n4, n5, n6, n7]) rfl ?_
  refine Z9z ?_
  (repeat (refine st_q rfl rfl rfl ?_))
  refine Z9k (by simp [Z0.cells, Z0.one]) fun b4 hb4 => ?_
  refine Z9a rfl Z8z rfl (by decide) (Z0.fit_iff.1 rfl) (fun h => by cases h) Z9b ?_
  (refine Z8y ?_; (repeat (first | refine Z9v rfl ?_ | refine Z9w ?_)); refine Z9u ?_)
  refine Zb3 (d := 8) (cs := [.int .i64 k, .slc 0 [] true, .slc 0 [] true, .int .i64 0, .int .i64 0, .int .i64 0]) rfl ?_
  have part2 : ∀ s1 : Stt, s1.has = s.has → s1.max = s.max → Zyp k s lo hi = { s1 with max := if s.has = false ∨ 0 < (cmpV k hi s.max).1 then hi else s.max, has := true } →
      AWp Try.prog Zxj.n (Zxj.code.snd 3) (ARet Zxj.res fun r σ' => r = .tup [] ∧ σ' = (b, .cells 15 [encS (Zyp k s lo hi)]) :: σ)
        (fset 0 (some (.ptr b 0 0)) (fset 7 (some (.iptr (Zm5 hi))) (fset 8 (some (.iptr [.int .i64 k, .slc 0 [] true, .slc 0 [] true, .int .i64 0, .int .i64 0, .int .i64 0])) Z27))) ((b, .cells 15 [encS s1]) :: σ) := by
    intro s1 e1 e2 e3
    rw [← e2] at hcm2
    have last : ∀ (s2 : Stt), Zyp k s lo hi = { s2 with has := true } → AWp Try.prog Zxj.n (.region Zxi []) (ARet Zxj.res fun r σ' => r = .tup [] ∧ σ' = (b, .cells 15 [encS (Zyp k s lo hi)]) :: σ)
        (fset 0 (some (.ptr b 0 0)) Z27) ((b, .cells 15 [encS s2]) :: σ) := by
      intro s2 e4
      refine awp_region ?_
      (repeat (refine st_q rfl rfl rfl ?_))
      refine Z9a rfl Z8z rfl (by decide) (Z0.fit_iff.1 rfl) (fun h => by cases h) Z9b ?_
      refine Z8y ?_
      refine ⟨[], rfl, .tup [], _, Z8n.refl _ _, rfl, ?_⟩
      rw [e4]
      rfl
    refine awp_seq ?_
    refine awp_seq ?_
    refine Zbm (fun _ _ => rfl) ?_
    (repeat (refine st_q rfl rfl rfl ?_))
    refine Z92 rfl Z8z rfl rfl ?_
    refine Z9t rfl (hcm2 _) ?_
    (repeat (refine st_q rfl rfl rfl ?_))
    (refine Z8y ?_; (repeat (first | refine Z9v rfl ?_ | refine Z9w ?_)); refine Z9u ?_)
    generalize hc : cmpV k hi s1.max = cr
    obtain ⟨c, ok⟩ := cr
    rw [e2] at hc
    rw [hc] at e3
    refine awp_seq ?_
    refine Zbm (fun _ _ => rfl) ?_
    (repeat (refine st_q rfl rfl rfl ?_))
    refine Z92 rfl Z8z rfl rfl ?_
    have setmax : (s.has = false ∨ 0 < c) → AWp Try.prog Zxj.n (.region Zxh [0]) (Z8e Try.prog Zxj.n (.region Zxi []) (ARet Zxj.res fun r σ' => r = .tup [] ∧ σ' = (b, .cells 15 [encS (Zyp k s lo hi)]) :: σ))
        (fset 0 (some (.ptr b 0 0)) (fset 7 (some (.iptr (Zm5 hi))) Z27)) ((b, .cells 15 [encS s1]) :: σ) := by
      intro hcond
      refine Zbm (fun _ _ => rfl) ?_
      (repeat (refine st_q rfl rfl rfl ?_))
      refine Z9t rfl (hch _) ?_
      (repeat (refine st_q rfl rfl rfl ?_))
      refine Z9a rfl Z8z rfl (by decide) ⟨rfl, by simp [Zm5, Z0.cells, Z0.one]⟩ (fun h => by cases h) Z9b ?_
      (refine Z8y ?_; (repeat (first | refine Z9v rfl ?_ | refine Z9w ?_)); refine Z9u ?_)
      rw [if_pos hcond] at e3
      exact last { s1 with max := hi } e3
    have keep : ¬ (s.has = false ∨ 0 < c) → AWp Try.prog Zxj.n .skip (Z8e Try.prog Zxj.n (.region Zxi []) (ARet Zxj.res fun r σ' => r = .tup [] ∧ σ' = (b, .cells 15 [encS (Zyp k s lo hi)]) :: σ))
        (fset 0 (some (.ptr b 0 0)) Z27) ((b, .cells 15 [encS s1]) :: σ) := by
      intro hcond
      refine Zbn (fun _ _ => rfl) ?_
      rw [if_neg hcond] at e3
      exact last s1 (by rw [e3, ← e2])
    cases hh : s1.has with
    | false =>
      (repeat (first | refine st_q rfl rfl rfl ?_ | refine Z8v rfl (st_q rfl rfl rfl ?_) | refine Z8w rfl ?_ | refine Z8x rfl ?_))
      (refine Z8y ?_; (repeat (first | refine Z9v rfl ?_ | refine Z9w ?_)); refine Z9u ?_)
      refine Z8f (t := true) rfl (fun _ => ?_) (fun e => by cases e)
      (refine Z9y (keep := [0, 7]) ?_; ((repeat (first | refine Z9v rfl ?_ | refine Z9w ?_)); refine Z9u ?_))
      exact setmax (.inl (by rw [← e1]; exact hh))
    | true =>
      (repeat (first | refine st_q rfl rfl rfl ?_ | refine Z8v rfl (st_q rfl rfl rfl ?_) | refine Z8w rfl ?_ | refine Z8x rfl ?_))
      (refine Z8y ?_; (repeat (first | refine Z9v rfl ?_ | refine Z9w ?_)); refine Z9u ?_)
      refine Za3 (p := 0 < c) rfl (fun h => ?_) (fun h => ?_)
      · (refine Z9y (keep := [0, 7]) ?_; ((repeat (first | refine Z9v rfl ?_ | refine Z9w ?_)); refine Z9u ?_))
        exact setmax (.inr h)
      · (refine Z9y (keep := [0]) ?_; ((repeat (first | refine Z9v rfl ?_ | refine Z9w ?_)); refine Z9u ?_))
        exact keep (by rw [← e1, hh]; simp; omega)
  refine awp_seq ?_
  refine awp_seq ?_
  refine Zbm (fun _ _ => rfl) ?_
  (repeat (refine st_q rfl rfl rfl ?_))
  refine Z92 rfl Z8z rfl rfl ?_
  refine Z9t rfl (hcm1 _) ?_
  (repeat (refine st_q rfl rfl rfl ?_))
  (refine Z8y ?_; (repeat (first | refine Z9v rfl ?_ | refine Z9w ?_)); refine Z9u ?_)
  generalize hc : cmpV k lo s.min = cr
  obtain ⟨c, ok⟩ := cr
  refine awp_seq ?_
  refine Zbm (fun _ _ => rfl) ?_
  (repeat (refine st_q rfl rfl rfl ?_))
  refine Z92 rfl Z8z rfl rfl ?_
  have setmin : (s.has = false ∨ c < 0) → AWp Try.prog Zxj.n (.region Zxe [0, 7, 8, 56, 57]) (Z8e Try.prog Zxj.n (Zxj.code.snd 3) (ARet Zxj.res fun r σ' => r = .tup [] ∧ σ' = (b, .cells 15 [encS (Zyp k s lo hi)]) :: σ))
      (fset 0 (some (.ptr b 0 0)) (fset 6 (some (.iptr (Zm5 lo))) (fset 7 (some (.iptr (Zm5 hi))) (fset 8 (some (.iptr [.int .i64 k, .slc 0 [] true, .slc 0 [] true, .int .i64 0, .int .i64 0, .int .i64 0])) Z27)))) ((b, .cells 15 [encS s]) :: σ) := by
    intro hcond
    refine Zbm (fun _ _ => rfl) ?_
    (repeat (refine st_q rfl rfl rfl ?_))
    refine Z9t rfl (hcl _) ?_
    (repeat (refine st_q rfl rfl rfl ?_))
    refine Z9a rfl Z8z rfl (by decide) ⟨rfl, by simp [Zm5, Z0.cells, Z0.one]⟩ (fun h => by cases h) Z9b ?_
    (refine Z8y ?_; (repeat (first | refine Z9v rfl ?_ | refine Z9w ?_)); refine Z9u ?_)
    exact part2 { s with min := lo } rfl rfl (by simp only [Zyp, hc]; rw [if_pos hcond])
  have keep : ¬ (s.has = false ∨ c < 0) → AWp Try.prog Zxj.n .skip (Z8e Try.prog Zxj.n (Zxj.code.snd 3) (ARet Zxj.res fun r σ' => r = .tup [] ∧ σ' = (b, .cells 15 [encS (Zyp k s lo hi)]) :: σ))
      (fset 0 (some (.ptr b 0 0)) (fset 7 (some (.iptr (Zm5 hi))) (fset 8 (some (.iptr [.int .i64 k, .slc 0 [] true, .slc 0 [] true, .int .i64 0, .int .i64 0, .int .i64 0])) Z27))) ((b, .cells 15 [encS s]) :: σ) := by
    intro hcond
    refine Zbn (fun _ _ => rfl) ?_
    exact part2 s rfl rfl (by simp only [Zyp, hc]; rw [if_neg hcond])
  cases hh : s.has with
  | false =>
    (repeat (first | refine st_q rfl rfl rfl ?_ | refine Z8v rfl (st_q rfl rfl rfl ?_) | refine Z8w rfl ?_ | refine Z8x rfl ?_))
    (refine Z8y ?_; (repeat (first | refine Z9v rfl ?_ | refine Z9w ?_)); refine Z9u ?_)
    refine Z8f (t := true) rfl (fun _ => ?_) (fun e => by cases e)
    (refine Z9y (keep := [0, 6, 7, 8]) ?_; ((repeat (first | refine Z9v rfl ?_ | refine Z9w ?_)); refine Z9u ?_))
    exact setmin (.inl hh)
  | true =>
    (repeat (first | refine st_q rfl rfl rfl ?_ | refine Z8v rfl (st_q rfl rfl rfl ?_) | refine Z8w rfl ?_ | refine Z8x rfl ?_))
    (refine Z8y ?_; (repeat (first | refine Z9v rfl ?_ | refine Z9w ?_)); refine Z9u ?_)
    refine Za3 (p := c < 0) rfl (fun h => ?_) (fun h => ?_)
    · (refine Z9y (keep := [0, 6, 7, 8]) ?_; ((repeat (first | refine Z9v rfl ?_ | refine Z9w ?_)); refine Z9u ?_))
      exact setmin (.inr h)
    · (refine Z9y (keep := [0, 7, 8]) ?_; ((repeat (first | refine Z9v rfl ?_ | refine Z9w ?_)); refine Z9u ?_))
      exact keep (by rw [hh]; simp; omega)
end Go.Abs
namespace Go.Abs
open Go Go.Proofs
set_option linter.unusedVariables false
set_option linter.unusedSimpArgs false
set_option maxHeartbeats 4000000
attribute [local irreducible] AWp aops KP
structure Col where
  here : List Bool
  ints : List Int
  ns : List Int
  texts : List (List UInt8)
  lens : List Int
def Zys (c : Col) : List Z0 := [.slc 1 (c.here.map .bool) false, .slc 1 (c.ints.map (.int .i64)) false, .slc 1 (c.ns.map (.int .i64)) false,
  .slc 1 (c.texts.map fun b => .slc 1 (bytes b) false) false, .slc 1 (c.lens.map (.int .i64)) false]
def encC (c : Col) : Z0 := .agg (Zys c)
def hasF (c : Col) : Bool := c.here.any (!·)
def idxB (v : Bool) : Nat → List Bool → Int
  | _, [] => -1
  | i, b :: bs => if v = b then i else idxB v (i + 1) bs
theorem Zyt (v : Bool) : ∀ (bs : List Bool) (i : Nat), decide (0 ≤ idxB v i bs) = bs.any (· == v)
  | [], i => by simp [idxB]
  | b :: bs, i => by
    rw [idxB, List.any_cons]
    by_cases h : v = b
    · rw [if_pos h]; simp [h]
    · rw [if_neg h, Zyt v bs]
      have : (b == v) = false := by cases v <;> cases b <;> simp_all
      rw [this]; simp
theorem Zyu {α : Type} {f : α → Z0} {l : List α} {j : Nat} (h : j < l.length) : (l.map f)[((j : Nat) : Int).toNat]? = some (f l[j]) := by
  rw [Int.toNat_natCast, List.getElem?_map, List.getElem?_eq_getElem h]; rfl
theorem Zyv (bs : List Bool) (v : Bool) (hl : bs.length ≤ 140737488355328) (σ : Zc) : Z1q Try.prog Zfx [.slc 1 (bs.map .bool) false, .bool v] σ fun r σ' => r = .int .i64 (idxB v 0 bs) ∧ σ' = σ := by
  refine Z8t rfl Zy2 (Nat.le_of_ble_eq_true rfl) ?_
  (repeat (first | refine st_q rfl rfl rfl ?_ | refine Z8v rfl (st_q rfl rfl rfl ?_) | refine Z8w rfl ?_ | refine Z8x rfl ?_ | (refine Z8y ?_; (repeat (first | refine Z9v rfl ?_ | refine Z9w ?_)); refine Z9u ?_) | refine awp_seq ?_ | refine Zbm (fun _ _ => rfl) ?_ | refine Z8h ?_ | refine Zbn (fun _ _ => rfl) ?_ | refine Zbo (fun _ _ => rfl) ?_ | refine Z8f (t := true) rfl (fun _ => ?_) (fun e => by cases e) | refine Z8f (t := false) rfl (fun e => by cases e) (fun _ => ?_)))
  rw [show ((bs.map Z0.bool).length : Int) = (bs.length : Int) by simp]
  generalize hX : idxB v 0 bs = X
  refine Zaa (fun m F σ' => ∃ (j : Nat), F = fset 0 (some (.slc 1 (bs.map .bool) false)) (fset 1 (some (.bool v)) (fset 7 (some (.int .i64 (bs.length : Int))) (fset 8 (some (.int .i64 (j : Int))) Z27))) ∧
    σ = σ' ∧ j ≤ bs.length ∧ X = idxB v j (bs.drop j) ∧ m = bs.length - j) (n := bs.length) ⟨0, rfl, rfl, by omega, hX.symm, rfl⟩ ?_
  rintro m F σ' ⟨j, rfl, rfl, hj, hXj, rfl⟩
  (repeat (first | refine st_q rfl rfl rfl ?_ | refine Z8v rfl (st_q rfl rfl rfl ?_) | refine Z8w rfl ?_ | refine Z8x rfl ?_ | (refine Z8y ?_; (repeat (first | refine Z9v rfl ?_ | refine Z9w ?_)); refine Z9u ?_) | refine awp_seq ?_ | refine Zbm (fun _ _ => rfl) ?_ | refine Z8h ?_ | refine Zbn (fun _ _ => rfl) ?_ | refine Zbo (fun _ _ => rfl) ?_ | refine Z8f (t := true) rfl (fun _ => ?_) (fun e => by cases e) | refine Z8f (t := false) rfl (fun e => by cases e) (fun _ => ?_)))
  refine Za3 (p := (j : Int) < (bs.length : Int)) rfl (fun h3 => ?_) (fun h3 => ?_)
  · have hjl : j < bs.length := by omega
    rw [List.drop_eq_getElem_cons hjl, idxB] at hXj
    (repeat (first | refine st_q rfl rfl rfl ?_ | refine Z8v rfl (st_q rfl rfl rfl ?_) | refine Z8w rfl ?_ | refine Z8x rfl ?_ | (refine Z8y ?_; (repeat (first | refine Z9v rfl ?_ | refine Z9w ?_)); refine Z9u ?_) | refine awp_seq ?_ | refine Zbm (fun _ _ => rfl) ?_ | refine Z8h ?_ | refine Zbn (fun _ _ => rfl) ?_ | refine Zbo (fun _ _ => rfl) ?_ | refine Z8f (t := true) rfl (fun _ => ?_) (fun e => by cases e) | refine Z8f (t := false) rfl (fun e => by cases e) (fun _ => ?_)))
    refine Z93 rfl (by omega) (Zyu hjl) ?_
    (repeat (first | refine st_q rfl rfl rfl ?_ | refine Z8v rfl (st_q rfl rfl rfl ?_) | refine Z8w rfl ?_ | refine Z8x rfl ?_ | (refine Z8y ?_; (repeat (first | refine Z9v rfl ?_ | refine Z9w ?_)); refine Z9u ?_) | refine awp_seq ?_ | refine Zbm (fun _ _ => rfl) ?_ | refine Z8h ?_ | refine Zbn (fun _ _ => rfl) ?_ | refine Zbo (fun _ _ => rfl) ?_ | refine Z8f (t := true) rfl (fun _ => ?_) (fun e => by cases e) | refine Z8f (t := false) rfl (fun e => by cases e) (fun _ => ?_)))
    cases he : (v == bs[j]) with
    | true =>
      rw [if_pos (by simpa using he)] at hXj
      (repeat (first | refine st_q rfl rfl rfl ?_ | refine Z8v rfl (st_q rfl rfl rfl ?_) | refine Z8w rfl ?_ | refine Z8x rfl ?_ | (refine Z8y ?_; (repeat (first | refine Z9v rfl ?_ | refine Z9w ?_)); refine Z9u ?_) | refine awp_seq ?_ | refine Zbm (fun _ _ => rfl) ?_ | refine Z8h ?_ | refine Zbn (fun _ _ => rfl) ?_ | refine Zbo (fun _ _ => rfl) ?_ | refine Z8f (t := true) rfl (fun _ => ?_) (fun e => by cases e) | refine Z8f (t := false) rfl (fun e => by cases e) (fun _ => ?_)))
      refine Z8d ?_
      exact ares rfl (HSub.refl _) ⟨by rw [hXj]; rfl, rfl⟩
    | false =>
      rw [if_neg (by simpa using he)] at hXj
      (repeat (first | refine st_q rfl rfl rfl ?_ | refine Z8v rfl (st_q rfl rfl rfl ?_) | refine Z8w rfl ?_ | refine Z8x rfl ?_ | (refine Z8y ?_; (repeat (first | refine Z9v rfl ?_ | refine Z9w ?_)); refine Z9u ?_) | refine awp_seq ?_ | refine Zbm (fun _ _ => rfl) ?_ | refine Z8h ?_ | refine Zbn (fun _ _ => rfl) ?_ | refine Zbo (fun _ _ => rfl) ?_ | refine Z8f (t := true) rfl (fun _ => ?_) (fun e => by cases e) | refine Z8f (t := false) rfl (fun e => by cases e) (fun _ => ?_)))
      refine Zbp ?_
      (repeat (refine st_q rfl rfl rfl ?_))
      rw [show IntKind.wrap .i64 ((j : Int) + 1) = ((j + 1 : Nat) : Int) by rw [w64 _ (by omega) (by omega)]; omega]
      (refine Z8y ?_; (repeat (first | refine Z9v rfl ?_ | refine Z9w ?_)); refine Z9u ?_)
      exact ⟨_, bs.length - (j + 1), HSub.refl _, ⟨j + 1, rfl, rfl, by omega, hXj, rfl⟩, by omega⟩
  · (repeat (first | refine st_q rfl rfl rfl ?_ | refine Z8v rfl (st_q rfl rfl rfl ?_) | refine Z8w rfl ?_ | refine Z8x rfl ?_ | (refine Z8y ?_; (repeat (first | refine Z9v rfl ?_ | refine Z9w ?_)); refine Z9u ?_) | refine awp_seq ?_ | refine Zbm (fun _ _ => rfl) ?_ | refine Z8h ?_ | refine Zbn (fun _ _ => rfl) ?_ | refine Zbo (fun _ _ => rfl) ?_ | refine Z8f (t := true) rfl (fun _ => ?_) (fun e => by cases e) | refine Z8f (t := false) rfl (fun e => by cases e) (fun _ => ?_)))
    rw [List.drop_of_length_le (by omega), idxB] at hXj
    refine Z8d ?_
    exact ares rfl (HSub.refl _) ⟨by rw [hXj]; rfl, rfl⟩
theorem Zyw (bs : List Bool) (v : Bool) (hl : bs.length ≤ 140737488355328) (σ : Zc) : Z1q Try.prog Zev [.slc 1 (bs.map .bool) false, .bool v] σ fun r σ' => r = .bool (bs.any (· == v)) ∧ σ' = σ := by
  refine Z8t rfl Zy1 (Nat.le_of_ble_eq_true rfl) ?_
  (repeat (first | refine st_q rfl rfl rfl ?_ | refine Z8v rfl (st_q rfl rfl rfl ?_) | refine Z8w rfl ?_ | refine Z8x rfl ?_ | (refine Z8y ?_; (repeat (first | refine Z9v rfl ?_ | refine Z9w ?_)); refine Z9u ?_) | refine awp_seq ?_ | refine Zbm (fun _ _ => rfl) ?_ | refine Z8h ?_ | refine Zbn (fun _ _ => rfl) ?_ | refine Zbo (fun _ _ => rfl) ?_ | refine Z8f (t := true) rfl (fun _ => ?_) (fun e => by cases e) | refine Z8f (t := false) rfl (fun e => by cases e) (fun _ => ?_)))
  refine Z9t rfl (Zyv bs v hl _) ?_
  (repeat (first | refine st_q rfl rfl rfl ?_ | refine Z8v rfl (st_q rfl rfl rfl ?_) | refine Z8w rfl ?_ | refine Z8x rfl ?_ | (refine Z8y ?_; (repeat (first | refine Z9v rfl ?_ | refine Z9w ?_)); refine Z9u ?_) | refine awp_seq ?_ | refine Zbm (fun _ _ => rfl) ?_ | refine Z8h ?_ | refine Zbn (fun _ _ => rfl) ?_ | refine Zbo (fun _ _ => rfl) ?_ | refine Z8f (t := true) rfl (fun _ => ?_) (fun e => by cases e) | refine Z8f (t := false) rfl (fun e => by cases e) (fun _ => ?_)))
  refine Z8d ?_
  exact ares rfl (HSub.refl _) ⟨by rw [← Zyt v bs 0]; rfl, rfl⟩
theorem Zyx (c : Col) (hl : c.here.length ≤ 140737488355328) (σ : Zc) : Z1q Try.prog Zdk [encC c] σ fun r σ' => r = .bool (hasF c) ∧ σ' = σ := by
  refine Z8t rfl Zxz (Nat.le_of_ble_eq_true rfl) ?_
  refine Z9z ?_
  refine Z9j rfl (Z0.fit_iff.1 rfl) fun b hb => ?_
  (repeat (refine st_q rfl rfl rfl ?_))
  (refine Z8y ?_; (repeat (first | refine Z9v rfl ?_ | refine Z9w ?_)); refine Z9u ?_)
  refine Zb3 (d := 1) (cs := Zys c) rfl ?_
  (repeat (first | refine st_q rfl rfl rfl ?_ | refine Z8v rfl (st_q rfl rfl rfl ?_) | refine Z8w rfl ?_ | refine Z8x rfl ?_ | (refine Z8y ?_; (repeat (first | refine Z9v rfl ?_ | refine Z9w ?_)); refine Z9u ?_) | refine awp_seq ?_ | refine Zbm (fun _ _ => rfl) ?_ | refine Z8h ?_ | refine Zbn (fun _ _ => rfl) ?_ | refine Zbo (fun _ _ => rfl) ?_ | refine Z8f (t := true) rfl (fun _ => ?_) (fun e => by cases e) | refine Z8f (t := false) rfl (fun e => by cases e) (fun _ => ?_)))
  refine Z9t rfl (Zyw c.here false hl _) ?_
  (repeat (first | refine st_q rfl rfl rfl ?_ | refine Z8v rfl (st_q rfl rfl rfl ?_) | refine Z8w rfl ?_ | refine Z8x rfl ?_ | (refine Z8y ?_; (repeat (first | refine Z9v rfl ?_ | refine Z9w ?_)); refine Z9u ?_) | refine awp_seq ?_ | refine Zbm (fun _ _ => rfl) ?_ | refine Z8h ?_ | refine Zbn (fun _ _ => rfl) ?_ | refine Zbo (fun _ _ => rfl) ?_ | refine Z8f (t := true) rfl (fun _ => ?_) (fun e => by cases e) | refine Z8f (t := false) rfl (fun e => by cases e) (fun _ => ?_)))
  refine Z8d ?_
  exact ares rfl (HSub.refl _) ⟨by simp [Z8m, hasF], rfl⟩
theorem Zyy (c : Col) (hl : c.here.length ≤ 140737488355328) (σ : Zc) : Z1q Try.prog Zdl [encC c] σ fun r σ' => r = .bool (hasF c) ∧ σ' = σ := by
  refine Z8t rfl Zy0 (Nat.le_of_ble_eq_true rfl) ?_
  refine Z9z ?_
  refine Z9j rfl (Z0.fit_iff.1 rfl) fun b hb => ?_
  (repeat (refine st_q rfl rfl rfl ?_))
  (refine Z8y ?_; (repeat (first | refine Z9v rfl ?_ | refine Z9w ?_)); refine Z9u ?_)
  refine Zb3 (d := 1) (cs := Zys c) rfl ?_
  (repeat (first | refine st_q rfl rfl rfl ?_ | refine Z8v rfl (st_q rfl rfl rfl ?_) | refine Z8w rfl ?_ | refine Z8x rfl ?_ | (refine Z8y ?_; (repeat (first | refine Z9v rfl ?_ | refine Z9w ?_)); refine Z9u ?_) | refine awp_seq ?_ | refine Zbm (fun _ _ => rfl) ?_ | refine Z8h ?_ | refine Zbn (fun _ _ => rfl) ?_ | refine Zbo (fun _ _ => rfl) ?_ | refine Z8f (t := true) rfl (fun _ => ?_) (fun e => by cases e) | refine Z8f (t := false) rfl (fun e => by cases e) (fun _ => ?_)))
  generalize hX : hasF c = X
  have hX' : X = c.here.any (!·) := hX.symm
  refine Zaa (fun m F σ' => ∃ (j : Nat), F = fset 1 (some (.iptr (Zys c))) (fset 3 (some (.int .i64 (j : Int))) Z27) ∧
    σ = σ' ∧ j ≤ c.here.length ∧ X = (c.here.drop j).any (!·) ∧ m = c.here.length - j) (n := c.here.length) ⟨0, rfl, rfl, by omega, hX', rfl⟩ ?_
  rintro m F σ' ⟨j, rfl, rfl, hj, hXj, rfl⟩
  (repeat (first | refine st_q rfl rfl rfl ?_ | refine Z8v rfl (st_q rfl rfl rfl ?_) | refine Z8w rfl ?_ | refine Z8x rfl ?_ | (refine Z8y ?_; (repeat (first | refine Z9v rfl ?_ | refine Z9w ?_)); refine Z9u ?_) | refine awp_seq ?_ | refine Zbm (fun _ _ => rfl) ?_ | refine Z8h ?_ | refine Zbn (fun _ _ => rfl) ?_ | refine Zbo (fun _ _ => rfl) ?_ | refine Z8f (t := true) rfl (fun _ => ?_) (fun e => by cases e) | refine Z8f (t := false) rfl (fun e => by cases e) (fun _ => ?_)))
  rw [show ((c.here.map Z0.bool).length : Int) = (c.here.length : Int) by simp]
  refine Za3 (p := (j : Int) < (c.here.length : Int)) rfl (fun h3 => ?_) (fun h3 => ?_)
  · have hjl : j < c.here.length := by omega
    rw [List.drop_eq_getElem_cons hjl, List.any_cons] at hXj
    (repeat (first | refine st_q rfl rfl rfl ?_ | refine Z8v rfl (st_q rfl rfl rfl ?_) | refine Z8w rfl ?_ | refine Z8x rfl ?_ | (refine Z8y ?_; (repeat (first | refine Z9v rfl ?_ | refine Z9w ?_)); refine Z9u ?_) | refine awp_seq ?_ | refine Zbm (fun _ _ => rfl) ?_ | refine Z8h ?_ | refine Zbn (fun _ _ => rfl) ?_ | refine Zbo (fun _ _ => rfl) ?_ | refine Z8f (t := true) rfl (fun _ => ?_) (fun e => by cases e) | refine Z8f (t := false) rfl (fun e => by cases e) (fun _ => ?_)))
    refine Z93 rfl (by omega) (Zyu hjl) ?_
    (repeat (first | refine st_q rfl rfl rfl ?_ | refine Z8v rfl (st_q rfl rfl rfl ?_) | refine Z8w rfl ?_ | refine Z8x rfl ?_ | (refine Z8y ?_; (repeat (first | refine Z9v rfl ?_ | refine Z9w ?_)); refine Z9u ?_) | refine awp_seq ?_ | refine Zbm (fun _ _ => rfl) ?_ | refine Z8h ?_ | refine Zbn (fun _ _ => rfl) ?_ | refine Zbo (fun _ _ => rfl) ?_ | refine Z8f (t := true) rfl (fun _ => ?_) (fun e => by cases e) | refine Z8f (t := false) rfl (fun e => by cases e) (fun _ => ?_)))
    cases he : c.here[j] with
    | false =>
      rw [he] at hXj
      (repeat (first | refine st_q rfl rfl rfl ?_ | refine Z8v rfl (st_q rfl rfl rfl ?_) | refine Z8w rfl ?_ | refine Z8x rfl ?_ | (refine Z8y ?_; (repeat (first | refine Z9v rfl ?_ | refine Z9w ?_)); refine Z9u ?_) | refine awp_seq ?_ | refine Zbm (fun _ _ => rfl) ?_ | refine Z8h ?_ | refine Zbn (fun _ _ => rfl) ?_ | refine Zbo (fun _ _ => rfl) ?_ | refine Z8f (t := true) rfl (fun _ => ?_) (fun e => by cases e) | refine Z8f (t := false) rfl (fun e => by cases e) (fun _ => ?_)))
      refine Z8d ?_
      exact ares rfl (HSub.refl _) ⟨by rw [hXj]; rfl, rfl⟩
    | true =>
      rw [he] at hXj
      (repeat (first | refine st_q rfl rfl rfl ?_ | refine Z8v rfl (st_q rfl rfl rfl ?_) | refine Z8w rfl ?_ | refine Z8x rfl ?_ | (refine Z8y ?_; (repeat (first | refine Z9v rfl ?_ | refine Z9w ?_)); refine Z9u ?_) | refine awp_seq ?_ | refine Zbm (fun _ _ => rfl) ?_ | refine Z8h ?_ | refine Zbn (fun _ _ => rfl) ?_ | refine Zbo (fun _ _ => rfl) ?_ | refine Z8f (t := true) rfl (fun _ => ?_) (fun e => by cases e) | refine Z8f (t := false) rfl (fun e => by cases e) (fun _ => ?_)))
      refine Zbp ?_
      (repeat (refine st_q rfl rfl rfl ?_))
      rw [show IntKind.wrap .i64 ((j : Int) + 1) = ((j + 1 : Nat) : Int) by rw [w64 _ (by omega) (by omega)]; omega]
      (refine Z8y ?_; (repeat (first | refine Z9v rfl ?_ | refine Z9w ?_)); refine Z9u ?_)
      exact ⟨_, c.here.length - (j + 1), HSub.refl _, ⟨j + 1, rfl, rfl, by omega, hXj, rfl⟩, by omega⟩
  · (repeat (first | refine st_q rfl rfl rfl ?_ | refine Z8v rfl (st_q rfl rfl rfl ?_) | refine Z8w rfl ?_ | refine Z8x rfl ?_ | (refine Z8y ?_; (repeat (first | refine Z9v rfl ?_ | refine Z9w ?_)); refine Z9u ?_) | refine awp_seq ?_ | refine Zbm (fun _ _ => rfl) ?_ | refine Z8h ?_ | refine Zbn (fun _ _ => rfl) ?_ | refine Zbo (fun _ _ => rfl) ?_ | refine Z8f (t := true) rfl (fun _ => ?_) (fun e => by cases e) | refine Z8f (t := false) rfl (fun e => by cases e) (fun _ => ?_)))
    rw [List.drop_of_length_le (by omega)] at hXj
    refine Z8d ?_
    exact ares rfl (HSub.refl _) ⟨by rw [hXj]; rfl, rfl⟩
end Go.Abs
namespace Go.Abs
open Go Go.Proofs
set_option linter.unusedVariables false
set_option linter.unusedSimpArgs false
set_option maxHeartbeats 4000000
attribute [local irreducible] AWp aops KP
structure Col.Fit (c : Col) : Prop where
  here : c.here.length ≤ 140737488355328
  ints : c.ints.length ≤ 140737488355328
  ns : c.ns.length ≤ 140737488355328
  texts : c.texts.length ≤ 140737488355328
  lens : c.lens.length ≤ 140737488355328
  int : ∀ i ∈ c.ints, -9223372036854775808 ≤ i ∧ i ≤ 9223372036854775807
  text : ∀ t ∈ c.texts, t.length ≤ 140737488355328
def getV (c : Col) (i : Nat) : Vl := .mk false (if i < c.texts.length then 0 else c.ints.getD i 0) (c.ns.getD i 0) (c.texts.getD i []) []
def getA (c : Col) (i : Nat) : Int := if i < c.texts.length then ((c.texts.getD i []).length : Int) else c.ints.getD i 0
def Zyz (k : Int) (v : Vl) (add : Int) (s : Stt) : Stt := Zyo (if Zyi k = true then Zyp k s v v else s) add
def Zz0 (k : Int) (c : Col) : Nat → Nat → Stt → Stt
  | 0, _, s => s
  | m + 1, i, s => Zz0 k c m (i + 1) (Zyz k (getV c i) (getA c i) s)
def of0 (k : Int) (c : Col) (n : Nat) : Stt := ⟨n, hasF c, false, vl0, vl0, Zyh k, 0⟩
def ofF (k : Int) (c : Col) : Stt := Zz0 k c (max c.ints.length c.texts.length) 0 (of0 k c (c.here.count true))
theorem Zz1 (k : Int) (v : Vl) (add : Int) (s : Stt) (h : -9223372036854775808 ≤ s.sum ∧ s.sum ≤ 9223372036854775807) : -9223372036854775808 ≤ (Zyz k v add s).sum ∧ (Zyz k v add s).sum ≤ 9223372036854775807 := by
  have h' : ∀ t : Stt, t.sum = s.sum → -9223372036854775808 ≤ (Zyo t add).sum ∧ (Zyo t add).sum ≤ 9223372036854775807 := by
    intro t e
    unfold Zyo addF
    split
    · simp only
      split
      · assumption
      · simp
    · rw [e]; exact h
  unfold Zyz
  refine h' _ ?_
  split <;> rfl
theorem HShift.content {b sz : Nat} {xs ys : List Z0} {σ : Zc} (hl : ys.length = xs.length) (he : ∀ y ∈ ys, y.elem sz) (hv : VRle (flat xs) (flat ys)) : HShift ((b, .cells sz xs) :: σ) ((b, .cells sz ys) :: σ) :=
  fun K w r => ⟨K, Kr.le.refl K, r.content hl he (hv K)⟩
theorem VRle.nilF (z z' : Nat) : VRle [.slc z [] true] [.slc z' [] false] := (VRle.nil_slc z z' true).trans VRle.full
theorem Zz2 {F : Z26} {σ : Zc} {b s i sz : Nat} {cs xs : List Z0} (hF : F i = some (.ptr b 0 0)) (hg : Zd σ b = some (.cells s (.agg cs :: xs))) (hl : cs.length = sz) : Z8l F σ [.cell i true sz] = some [.agg cs] := by
  subst hl
  simp [Z8l, Z8k, hF, Z1l, hg, Z19, Z0.cells]
theorem Zz3 {c : Z2b} {R R' : Z87} (hR : ∀ F σ, R .normal F σ = AWp Try.prog Zw2.n c R' F σ) (s : Stt) (k : Int) (nd : List Z0) (hnd : nd.length = 8) (hk : nd[0]? = some (.int .i64 k)) (h1 : ∀ c ∈ nd, c.one = true)
    (v : Vl) (hv : v.Cl) (add : Int) (hs : -9223372036854775808 ≤ s.sum ∧ s.sum ≤ 9223372036854775807) (ha : -9223372036854775808 ≤ add ∧ add ≤ 9223372036854775807) (b4 b5 : Nat) (z : Zb) (C M I : Z0) (σ : Zc)
    (h : AWp Try.prog Zw2.n c R' (fset 2 (some (.iptr nd)) (fset 3 (some C) (fset 4 (some (.ptr b4 0 0)) (fset 5 (some (.ptr b5 0 0)) (fset 36 (some M) (fset 37 (some I) Z27)))))) ((b5, .cells 15 [encS (Zyz k v add s)]) :: (b4, z) :: σ)) :
    AWp Try.prog Zw2.n (((Zw0.snd 2).fst.body).snd 5) R (fset 2 (some (.iptr nd)) (fset 3 (some C) (fset 4 (some (.ptr b4 0 0)) (fset 5 (some (.ptr b5 0 0)) (fset 9 (some (.iptr (Zm5 v))) (fset 10 (some (.int .i64 add)) (fset 36 (some M) (fset 37 (some I) Z27)))))))) ((b5, .cells 15 [encS s]) :: (b4, z) :: σ) := by
  match nd, hnd with
  | [n0, n1, n2, n3, n4, n5, n6, n7], _ =>
  simp only [List.getElem?_cons_zero, Option.some.injEq] at hk
  subst hk
  have hsp := Zyr s k [.int .i64 k, n1, n2, n3, n4, n5, n6, n7] rfl rfl h1 v v hv hv b5 ((b4, z) :: σ)
  simp only [Zm6] at hsp
  have last : ∀ s1 : Stt, s1.sum = s.sum → Zyz k v add s = Zyo s1 add → AWp Try.prog Zw2.n ((((Zw0.snd 2).fst.body).snd 6)) R (fset 2 (some (.iptr [.int .i64 k, n1, n2, n3, n4, n5, n6, n7])) (fset 3 (some C) (fset 4 (some (.ptr b4 0 0)) (fset 5 (some (.ptr b5 0 0)) (fset 10 (some (.int .i64 add)) (fset 36 (some M) (fset 37 (some I) Z27))))))) ((b5, .cells 15 [encS s1]) :: (b4, z) :: σ) := by
    intro s1 e1 e2
    refine Zbm hR ?_
    (repeat (refine st_q rfl rfl rfl ?_))
    refine Z9t rfl (Zyq s1 add (by rw [e1]; exact hs) ha _ _) ?_
    (refine Z8y ?_; (repeat (first | refine Z9v rfl ?_ | refine Z9w ?_)); refine Z9u ?_)
    rw [← e2]
    exact h
  refine awp_seq ?_
  refine awp_seq ?_
  refine Zbm (fun _ _ => rfl) ?_
  (repeat (refine st_q rfl rfl rfl ?_))
  refine Z9t rfl (Zyk k _) ?_
  (refine Z8y ?_; (repeat (first | refine Z9v rfl ?_ | refine Z9w ?_)); refine Z9u ?_)
  cases hr : Zyi k with
  | true =>
    (repeat (first | refine st_q rfl rfl rfl ?_ | refine Z8v rfl (st_q rfl rfl rfl ?_) | refine Z8w rfl ?_ | refine Z8x rfl ?_ | (refine Z8y ?_; (repeat (first | refine Z9v rfl ?_ | refine Z9w ?_)); refine Z9u ?_) | refine awp_seq ?_ | refine Zbm (fun _ _ => rfl) ?_ | refine Z8h ?_ | refine Zbn (fun _ _ => rfl) ?_ | refine Zbo (fun _ _ => rfl) ?_ | refine Z8f (t := true) rfl (fun _ => ?_) (fun e => by cases e) | refine Z8f (t := false) rfl (fun e => by cases e) (fun _ => ?_)))
    refine Z9t rfl hsp ?_
    (refine Z8y ?_; (repeat (first | refine Z9v rfl ?_ | refine Z9w ?_)); refine Z9u ?_)
    exact last _ rfl (by rw [Zyz, if_pos hr])
  | false =>
    (repeat (first | refine st_q rfl rfl rfl ?_ | refine Z8v rfl (st_q rfl rfl rfl ?_) | refine Z8w rfl ?_ | refine Z8x rfl ?_ | (refine Z8y ?_; (repeat (first | refine Z9v rfl ?_ | refine Z9w ?_)); refine Z9u ?_) | refine awp_seq ?_ | refine Zbm (fun _ _ => rfl) ?_ | refine Z8h ?_ | refine Zbn (fun _ _ => rfl) ?_ | refine Zbo (fun _ _ => rfl) ?_ | refine Z8f (t := true) rfl (fun _ => ?_) (fun e => by cases e) | refine Z8f (t := false) rfl (fun e => by cases e) (fun _ => ?_)))
    refine Z9y (keep := [2, 3, 4, 5, 10, 36, 37]) ?_
    ((repeat (first | refine Z9v rfl ?_ | refine Z9w ?_)); refine Z9u ?_)
    exact last s rfl (by rw [Zyz, if_neg (by simp [hr])])
theorem Zz4 {c : Z2b} {R R' : Z87} (hR : ∀ F σ, R .normal F σ = AWp Try.prog Zw2.n c R' F σ) (s : Stt) (k : Int) (nd : List Z0) (hnd : nd.length = 8) (hk : nd[0]? = some (.int .i64 k)) (h1 : ∀ c ∈ nd, c.one = true)
    (C : Col) (hC : C.Fit) (i : Nat) (hi : i < max C.ints.length C.texts.length) (hs : -9223372036854775808 ≤ s.sum ∧ s.sum ≤ 9223372036854775807) (b4 b5 : Nat) (z : Zb) (M : Z0) (σ : Zc)
    (h : AWp Try.prog Zw2.n c R' (fset 2 (some (.iptr nd)) (fset 3 (some (.iptr (Zys C))) (fset 4 (some (.ptr b4 0 0)) (fset 5 (some (.ptr b5 0 0)) (fset 36 (some M) (fset 37 (some (.int .i64 (i : Int))) Z27)))))) ((b5, .cells 15 [encS (Zyz k (getV C i) (getA C i) s)]) :: (b4, z) :: σ)) :
    AWp Try.prog Zw2.n ((Zw0.snd 2).fst.body) R (fset 2 (some (.iptr nd)) (fset 3 (some (.iptr (Zys C))) (fset 4 (some (.ptr b4 0 0)) (fset 5 (some (.ptr b5 0 0)) (fset 36 (some M) (fset 37 (some (.int .i64 (i : Int))) Z27)))))) ((b5, .cells 15 [encS s]) :: (b4, z) :: σ) := by
  obtain ⟨hhere, hints, hns, htexts, hlens, hint, htext⟩ := hC
  have hmem : ∀ t, t ∈ C.texts → t.length ≤ 140737488355328 := htext
  have hgetA : -9223372036854775808 ≤ getA C i ∧ getA C i ≤ 9223372036854775807 := by
    unfold getA
    split
    · rename_i h2
      have := htext _ (List.getElem_mem h2)
      rw [List.getD_eq_getElem?_getD, List.getElem?_eq_getElem h2, Option.getD_some]
      omega
    · have h2 : i < C.ints.length := by omega
      rw [List.getD_eq_getElem?_getD, List.getElem?_eq_getElem h2, Option.getD_some]
      exact hint _ (List.getElem_mem h2)
  have hcl : (getV C i).Cl := by
    refine ⟨?_, by simp [getV, Vl.kids], by simp [getV, Vl.kids]⟩
    simp only [getV, Vl.b]
    by_cases h2 : i < C.texts.length
    · rw [List.getD_eq_getElem?_getD, List.getElem?_eq_getElem h2, Option.getD_some]
      exact htext _ (List.getElem_mem h2)
    · rw [List.getD_eq_getElem?_getD, List.getElem?_eq_none (by omega)]
      simp
  refine Z9z ?_
  (repeat (refine st_q rfl rfl rfl ?_))
  (refine Z8y ?_; (repeat (first | refine Z9v rfl ?_ | refine Z9w ?_)); refine Z9u ?_)
  refine Z9z ?_
  refine Z9k (by simp [Z0.cells, Z0.one]) fun b9 hb9 => ?_
  (refine Z8y ?_; (repeat (first | refine Z9v rfl ?_ | refine Z9w ?_)); refine Z9u ?_)
  refine Zbx (HShift.content (ys := [.agg [.bool false, .int .i64 0, .int .i64 0, .slc 1 (bytes []) false, .slc 5 (Zm4 []) false]]) rfl (by intro y hy; simp at hy; subst hy; exact Z0.fit_iff.1 rfl) (VRle.same (VRle.same (VRle.same (VRle.cons (VRle.nilF _ _) (VRle.cons (VRle.nilF _ _) (VRle.refl _))))))) ?_
  have mid : ∀ (b : List UInt8) (x : Int), getV C i = .mk false x (C.ns.getD i 0) b [] → AWp Try.prog Zw2.n (((Zw0.snd 2).fst.body).snd 4) R (fset 2 (some (.iptr nd)) (fset 3 (some (.iptr (Zys C))) (fset 4 (some (.ptr b4 0 0)) (fset 5 (some (.ptr b5 0 0)) (fset 8 (some (.int .i64 (i : Int))) (fset 9 (some (.ptr b9 0 0)) (fset 10 (some (.int .i64 (getA C i))) (fset 36 (some M) (fset 37 (some (.int .i64 (i : Int))) Z27)))))))))
      ((b9, .cells 5 [.agg [.bool false, .int .i64 x, .int .i64 0, .slc 1 (bytes b) false, .slc 5 (Zm4 []) false]]) :: (b5, .cells 15 [encS s]) :: (b4, z) :: σ) := by
    intro b x hg
    refine awp_seq ?_
    refine awp_seq ?_
    refine Zbm (fun _ _ => rfl) ?_
    (repeat (refine st_q rfl rfl rfl ?_))
    (refine Z8y ?_; (repeat (first | refine Z9v rfl ?_ | refine Z9w ?_)); refine Z9u ?_)
    rw [show ((C.ns.map (Z0.int .i64)).length : Int) = (C.ns.length : Int) by simp]
    have fin : ∀ y : Int, y = C.ns.getD i 0 → AWp Try.prog Zw2.n (((Zw0.snd 2).fst.body).snd 5) R (fset 2 (some (.iptr nd)) (fset 3 (some (.iptr (Zys C))) (fset 4 (some (.ptr b4 0 0)) (fset 5 (some (.ptr b5 0 0)) (fset 9 (some (.ptr b9 0 0)) (fset 10 (some (.int .i64 (getA C i))) (fset 36 (some M) (fset 37 (some (.int .i64 (i : Int))) Z27))))))))
        ((b9, .cells 5 [.agg [.bool false, .int .i64 x, .int .i64 y, .slc 1 (bytes b) false, .slc 5 (Zm4 []) false]]) :: (b5, .cells 15 [encS s]) :: (b4, z) :: σ) := by
      intro y hy
      have e : [Z0.bool false, .int .i64 x, .int .i64 y, .slc 1 (bytes b) false, .slc 5 (Zm4 []) false] = Zm5 (getV C i) := by rw [hg, hy]; rfl
      rw [e]
      refine Zb3 (d := 9) (cs := Zm5 (getV C i)) rfl ?_
      (refine Z9y (keep := [2, 3, 4, 5, 9, 10, 36, 37]) ?_; ((repeat (first | refine Z9v rfl ?_ | refine Z9w ?_)); refine Z9u ?_))
      exact Zz3 hR s k nd hnd hk h1 _ hcl _ hs hgetA b4 b5 z _ M _ σ h
    refine Za3 (p := (i : Int) < (C.ns.length : Int)) rfl (fun h3 => ?_) (fun h3 => ?_)
    · have hjl : i < C.ns.length := by omega
      refine Zbm (fun _ _ => rfl) ?_
      (repeat (refine st_q rfl rfl rfl ?_))
      refine Z93 rfl (by omega) (Zyu hjl) ?_
      (repeat (refine st_q rfl rfl rfl ?_))
      refine Z9a rfl Z8z rfl (by decide) (Z0.fit_iff.1 rfl) (fun h => by cases h) Z9b ?_
      (refine Z8y ?_; (repeat (first | refine Z9v rfl ?_ | refine Z9w ?_)); refine Z9u ?_)
      exact fin _ (by rw [List.getD_eq_getElem?_getD, List.getElem?_eq_getElem hjl, Option.getD_some])
    · refine Zbn (fun _ _ => rfl) ?_
      (refine Z9y (keep := [2, 3, 4, 5, 9, 10, 36, 37]) ?_; ((repeat (first | refine Z9v rfl ?_ | refine Z9w ?_)); refine Z9u ?_))
      exact fin 0 (by rw [List.getD_eq_getElem?_getD, List.getElem?_eq_none (by omega), Option.getD_none])
  refine Z9z ?_
  (repeat (refine st_q rfl rfl rfl ?_))
  (refine Z8y ?_; (repeat (first | refine Z9v rfl ?_ | refine Z9w ?_)); refine Z9u ?_)
  refine awp_seq ?_
  refine awp_seq ?_
  refine Zbm (fun _ _ => rfl) ?_
  (repeat (refine st_q rfl rfl rfl ?_))
  (refine Z8y ?_; (repeat (first | refine Z9v rfl ?_ | refine Z9w ?_)); refine Z9u ?_)
  rw [show ((C.texts.map fun b => Z0.slc 1 (bytes b) false).length : Int) = (C.texts.length : Int) by simp]
  refine Za3 (p := (i : Int) < (C.texts.length : Int)) rfl (fun h3 => ?_) (fun h3 => ?_)
  · have hjl : i < C.texts.length := by omega
    have e1 : C.texts.getD i [] = C.texts[i] := by rw [List.getD_eq_getElem?_getD, List.getElem?_eq_getElem hjl, Option.getD_some]
    have e2 : getA C i = (C.texts[i].length : Int) := by rw [getA, if_pos hjl, e1]
    have e3 : getV C i = .mk false 0 (C.ns.getD i 0) C.texts[i] [] := by rw [getV, if_pos hjl, e1]
    (repeat (first | refine st_q rfl rfl rfl ?_ | refine Z8v rfl (st_q rfl rfl rfl ?_) | refine Z8w rfl ?_ | refine Z8x rfl ?_ | (refine Z8y ?_; (repeat (first | refine Z9v rfl ?_ | refine Z9w ?_)); refine Z9u ?_) | refine awp_seq ?_ | refine Zbm (fun _ _ => rfl) ?_ | refine Z8h ?_ | refine Zbn (fun _ _ => rfl) ?_ | refine Zbo (fun _ _ => rfl) ?_ | refine Z8f (t := true) rfl (fun _ => ?_) (fun e => by cases e) | refine Z8f (t := false) rfl (fun e => by cases e) (fun _ => ?_)))
    refine Z93 rfl (by omega) (Zyu (f := fun b => Z0.slc 1 (bytes b) false) hjl) ?_
    (repeat (refine st_q rfl rfl rfl ?_))
    refine Z9a rfl Z8z rfl (by decide) (Z0.fit_iff.1 rfl) (fun h => by cases h) Z9b ?_
    (refine Z8y ?_; (repeat (first | refine Z9v rfl ?_ | refine Z9w ?_)); refine Z9u ?_)
    refine Zbm (fun _ _ => rfl) ?_
    (repeat (refine st_q rfl rfl rfl ?_))
    refine Z92 rfl Z8z rfl rfl ?_
    (repeat (refine st_q rfl rfl rfl ?_))
    (refine Z8y ?_; (repeat (first | refine Z9v rfl ?_ | refine Z9w ?_)); refine Z9u ?_)
    rw [show ((bytes C.texts[i]).length : Int) = getA C i by rw [e2]; simp [bytes]]
    exact mid C.texts[i] 0 e3
  · have hjl : i < C.ints.length := by omega
    have e1 : C.ints.getD i 0 = C.ints[i] := by rw [List.getD_eq_getElem?_getD, List.getElem?_eq_getElem hjl, Option.getD_some]
    have e2 : getA C i = C.ints[i] := by rw [getA, if_neg (by omega), e1]
    have e4 : C.texts.getD i [] = [] := by rw [List.getD_eq_getElem?_getD, List.getElem?_eq_none (by omega), Option.getD_none]
    have e3 : getV C i = .mk false C.ints[i] (C.ns.getD i 0) [] [] := by rw [getV, if_neg (by omega), e1, e4]
    (repeat (first | refine st_q rfl rfl rfl ?_ | refine Z8v rfl (st_q rfl rfl rfl ?_) | refine Z8w rfl ?_ | refine Z8x rfl ?_ | (refine Z8y ?_; (repeat (first | refine Z9v rfl ?_ | refine Z9w ?_)); refine Z9u ?_) | refine awp_seq ?_ | refine Zbm (fun _ _ => rfl) ?_ | refine Z8h ?_ | refine Zbn (fun _ _ => rfl) ?_ | refine Zbo (fun _ _ => rfl) ?_ | refine Z8f (t := true) rfl (fun _ => ?_) (fun e => by cases e) | refine Z8f (t := false) rfl (fun e => by cases e) (fun _ => ?_)))
    refine Z93 rfl (by omega) (Zyu (f := Z0.int .i64) hjl) ?_
    (repeat (refine st_q rfl rfl rfl ?_))
    refine Z9a rfl Z8z rfl (by decide) (Z0.fit_iff.1 rfl) (fun h => by cases h) Z9b ?_
    (refine Z8y ?_; (repeat (first | refine Z9v rfl ?_ | refine Z9w ?_)); refine Z9u ?_)
    refine Zbm (fun _ _ => rfl) ?_
    (repeat (refine st_q rfl rfl rfl ?_))
    refine Z92 rfl Z8z rfl rfl ?_
    (repeat (refine st_q rfl rfl rfl ?_))
    (refine Z8y ?_; (repeat (first | refine Z9v rfl ?_ | refine Z9w ?_)); refine Z9u ?_)
    rw [← e2] at e3
    have m := mid [] _ e3
    rw [e2] at m
    exact m
theorem c_Of (k : Int) (nd : List Z0) (hnd : nd.length = 8) (hk : nd[0]? = some (.int .i64 k)) (h1 : ∀ c ∈ nd, c.one = true) (C : Col) (hC : C.Fit) (σ : Zc) :
    Z1q Try.prog Zcs [.agg nd, encC C] σ fun r σ' => r = encS (ofF k C) ∧ σ' = σ := by
  have hC' := hC
  obtain ⟨hhere, hints, hns, htexts, hlens, hint, htext⟩ := hC'
  have hnd' := hnd
  have hk' := hk
  have h1' := h1
  match nd, hnd with
  | [n0, n1, n2, n3, n4, n5, n6, n7], _ =>
  simp only [List.getElem?_cons_zero, Option.some.injEq] at hk
  subst hk
  refine Z8t rfl Zy5 (Nat.le_of_ble_eq_true rfl) ?_
  refine Z9z ?_
  refine Z9j rfl ⟨rfl, h1⟩ fun b2 hb2 => ?_
  refine Z9j rfl (Z0.fit_iff.1 rfl) fun b3 hb3 => ?_
  refine Z9k (by simp [Z0.cells, Z0.one]) fun b4 hb4 => ?_
  (refine Z8y ?_; (repeat (first | refine Z9v rfl ?_ | refine Z9w ?_)); refine Z9u ?_)
  refine Z8a (FSub.refl _) (HSub.swap _ _ _) ?_
  refine Zb3 (d := 3) (cs := Zys C) rfl ?_
  refine Z8a (FSub.refl _) (HSub.swap _ _ _) ?_
  refine Zb3 (d := 2) (cs := [.int .i64 k, n1, n2, n3, n4, n5, n6, n7]) rfl ?_
  have main : ∀ z : Zb, z = .cells 15 [.agg [.int .i64 0, .bool false, .bool false, .bool false, .int .i64 0, .int .i64 0, .slc 0 [] true, .slc 0 [] true, .bool false, .int .i64 0, .int .i64 0, .slc 0 [] true, .slc 0 [] true, .bool false, .int .i64 0]] →
    AWp Try.prog Zw2.n (Zw2.code.snd 1) (ARet Zw2.res fun r σ' => r = encS (ofF k C) ∧ σ' = σ) (fset 2 (some (.iptr [.int .i64 k, n1, n2, n3, n4, n5, n6, n7])) (fset 3 (some (.iptr (Zys C))) (fset 4 (some (.ptr b4 0 0)) Z27))) ((b4, z) :: σ) := by
    intro z hz
    refine Z9z ?_
    (repeat (refine st_q rfl rfl rfl ?_))
    refine Zbw rfl (fun σ => Zyx C hhere σ) ?_
    (repeat (refine st_q rfl rfl rfl ?_))
    refine Zbw rfl (fun σ => Zyj k σ) ?_
    (repeat (refine st_q rfl rfl rfl ?_))
    refine Z9k (by simp [Z0.cells, Z0.one]) fun b5 hb5 => ?_
    refine Z9a rfl Z8z rfl (by decide) (Z0.fit_iff.1 rfl) (fun h => by cases h) Z9b ?_
    (refine Z8y ?_; (repeat (first | refine Z9v rfl ?_ | refine Z9w ?_)); refine Z9u ?_)
    refine Zbx (HShift.content (ys := [encS (of0 k C (0 : Nat))]) rfl (by intro y hy; simp at hy; subst hy; exact Z0.fit_iff.1 rfl)
      (VRle.same (VRle.same (VRle.same (VRle.same (VRle.same (VRle.same (VRle.cons (VRle.nilF _ _) (VRle.cons (VRle.nilF _ _) (VRle.same (VRle.same (VRle.same (VRle.cons (VRle.nilF _ _) (VRle.cons (VRle.nilF _ _) (VRle.refl _))))))))))))))) ?_
    refine awp_seq ?_
    refine Z9z ?_
    (repeat (refine st_q rfl rfl rfl ?_))
    (refine Z8y ?_; (repeat (first | refine Z9v rfl ?_ | refine Z9w ?_)); refine Z9u ?_)
    rw [show ((C.here.map Z0.bool).length : Int) = (C.here.length : Int) by simp]
    refine Z8h ?_
    have hcb : C.here.count true ≤ C.here.length := List.count_le_length
    refine Zaa (fun m F σ' => ∃ (j cnt : Nat), F = fset 2 (some (.iptr [.int .i64 k, n1, n2, n3, n4, n5, n6, n7])) (fset 3 (some (.iptr (Zys C))) (fset 4 (some (.ptr b4 0 0)) (fset 5 (some (.ptr b5 0 0)) (fset 18 (some (.slc 1 (C.here.map .bool) false)) (fset 19 (some (.int .i64 (C.here.length : Int))) (fset 20 (some (.int .i64 (j : Int))) Z27)))))) ∧
      (b5, Zb.cells 15 [encS (of0 k C cnt)]) :: (b4, z) :: σ = σ' ∧ j ≤ C.here.length ∧ cnt + (C.here.drop j).count true = C.here.count true ∧ m = C.here.length - j) (n := C.here.length) ⟨0, 0, rfl, rfl, by omega, by simp, rfl⟩ ?_
    rintro m F σ' ⟨j, cnt, rfl, rfl, hj, hcnt, rfl⟩
    (repeat (first | refine st_q rfl rfl rfl ?_ | refine Z8v rfl (st_q rfl rfl rfl ?_) | refine Z8w rfl ?_ | refine Z8x rfl ?_ | (refine Z8y ?_; (repeat (first | refine Z9v rfl ?_ | refine Z9w ?_)); refine Z9u ?_) | refine awp_seq ?_ | refine Zbm (fun _ _ => rfl) ?_ | refine Z8h ?_ | refine Zbn (fun _ _ => rfl) ?_ | refine Zbo (fun _ _ => rfl) ?_ | refine Z8f (t := true) rfl (fun _ => ?_) (fun e => by cases e) | refine Z8f (t := false) rfl (fun e => by cases e) (fun _ => ?_)))
    refine Za3 (p := (j : Int) < (C.here.length : Int)) rfl (fun h3 => ?_) (fun h3 => ?_)
    · have hjl : j < C.here.length := by omega
      rw [List.drop_eq_getElem_cons hjl, List.count_cons] at hcnt
      (repeat (first | refine st_q rfl rfl rfl ?_ | refine Z8v rfl (st_q rfl rfl rfl ?_) | refine Z8w rfl ?_ | refine Z8x rfl ?_ | (refine Z8y ?_; (repeat (first | refine Z9v rfl ?_ | refine Z9w ?_)); refine Z9u ?_) | refine awp_seq ?_ | refine Zbm (fun _ _ => rfl) ?_ | refine Z8h ?_ | refine Zbn (fun _ _ => rfl) ?_ | refine Zbo (fun _ _ => rfl) ?_ | refine Z8f (t := true) rfl (fun _ => ?_) (fun e => by cases e) | refine Z8f (t := false) rfl (fun e => by cases e) (fun _ => ?_)))
      refine Z93 rfl (by omega) (Zyu (f := Z0.bool) hjl) ?_
      (repeat (first | refine st_q rfl rfl rfl ?_ | refine Z8v rfl (st_q rfl rfl rfl ?_) | refine Z8w rfl ?_ | refine Z8x rfl ?_ | (refine Z8y ?_; (repeat (first | refine Z9v rfl ?_ | refine Z9w ?_)); refine Z9u ?_) | refine awp_seq ?_ | refine Zbm (fun _ _ => rfl) ?_ | refine Z8h ?_ | refine Zbn (fun _ _ => rfl) ?_ | refine Zbo (fun _ _ => rfl) ?_ | refine Z8f (t := true) rfl (fun _ => ?_) (fun e => by cases e) | refine Z8f (t := false) rfl (fun e => by cases e) (fun _ => ?_)))
      cases he : C.here[j] with
      | false =>
        rw [he] at hcnt
        (repeat (first | refine st_q rfl rfl rfl ?_ | refine Z8v rfl (st_q rfl rfl rfl ?_) | refine Z8w rfl ?_ | refine Z8x rfl ?_ | (refine Z8y ?_; (repeat (first | refine Z9v rfl ?_ | refine Z9w ?_)); refine Z9u ?_) | refine awp_seq ?_ | refine Zbm (fun _ _ => rfl) ?_ | refine Z8h ?_ | refine Zbn (fun _ _ => rfl) ?_ | refine Zbo (fun _ _ => rfl) ?_ | refine Z8f (t := true) rfl (fun _ => ?_) (fun e => by cases e) | refine Z8f (t := false) rfl (fun e => by cases e) (fun _ => ?_)))
        refine Zbp ?_
        (repeat (refine st_q rfl rfl rfl ?_))
        rw [show IntKind.wrap .i64 ((j : Int) + 1) = ((j + 1 : Nat) : Int) by rw [w64 _ (by omega) (by omega)]; omega]
        (refine Z8y ?_; (repeat (first | refine Z9v rfl ?_ | refine Z9w ?_)); refine Z9u ?_)
        exact ⟨_, C.here.length - (j + 1), HSub.refl _, ⟨j + 1, cnt, rfl, rfl, by omega, by simpa using hcnt, rfl⟩, by omega⟩
      | true =>
        rw [he] at hcnt
        simp only [beq_self_eq_true, if_true] at hcnt
        (repeat (first | refine st_q rfl rfl rfl ?_ | refine Z8v rfl (st_q rfl rfl rfl ?_) | refine Z8w rfl ?_ | refine Z8x rfl ?_ | (refine Z8y ?_; (repeat (first | refine Z9v rfl ?_ | refine Z9w ?_)); refine Z9u ?_) | refine awp_seq ?_ | refine Zbm (fun _ _ => rfl) ?_ | refine Z8h ?_ | refine Zbn (fun _ _ => rfl) ?_ | refine Zbo (fun _ _ => rfl) ?_ | refine Z8f (t := true) rfl (fun _ => ?_) (fun e => by cases e) | refine Z8f (t := false) rfl (fun e => by cases e) (fun _ => ?_)))
        refine Z92 rfl Z8z rfl rfl ?_
        (repeat (refine st_q rfl rfl rfl ?_))
        rw [show IntKind.wrap .i64 ((of0 k C cnt).count + 1) = ((cnt + 1 : Nat) : Int) by show IntKind.wrap .i64 ((cnt : Int) + 1) = _; rw [w64 _ (by omega) (by omega)]; omega]
        refine Z9a rfl Z8z rfl (by decide) (Z0.fit_iff.1 rfl) (fun h => by cases h) Z9b ?_
        (refine Z8y ?_; (repeat (first | refine Z9v rfl ?_ | refine Z9w ?_)); refine Z9u ?_)
        refine Zbp ?_
        (repeat (refine st_q rfl rfl rfl ?_))
        rw [show IntKind.wrap .i64 ((j : Int) + 1) = ((j + 1 : Nat) : Int) by rw [w64 _ (by omega) (by omega)]; omega]
        (refine Z8y ?_; (repeat (first | refine Z9v rfl ?_ | refine Z9w ?_)); refine Z9u ?_)
        exact ⟨_, C.here.length - (j + 1), HSub.refl _, ⟨j + 1, cnt + 1, rfl, rfl, by omega, by omega, rfl⟩, by omega⟩
    · rw [List.drop_of_length_le (by omega)] at hcnt
      simp only [List.count_nil, Nat.add_zero] at hcnt
      subst hcnt
      (repeat (first | refine st_q rfl rfl rfl ?_ | refine Z8v rfl (st_q rfl rfl rfl ?_) | refine Z8w rfl ?_ | refine Z8x rfl ?_ | (refine Z8y ?_; (repeat (first | refine Z9v rfl ?_ | refine Z9w ?_)); refine Z9u ?_) | refine awp_seq ?_ | refine Zbm (fun _ _ => rfl) ?_ | refine Z8h ?_ | refine Zbn (fun _ _ => rfl) ?_ | refine Zbo (fun _ _ => rfl) ?_ | refine Z8f (t := true) rfl (fun _ => ?_) (fun e => by cases e) | refine Z8f (t := false) rfl (fun e => by cases e) (fun _ => ?_)))
      generalize hL : max C.ints.length C.texts.length = L
      rw [show (if ((C.texts.map fun b => Z0.slc 1 (bytes b) false).length : Int) > ((C.ints.map (Z0.int .i64)).length : Int) then ((C.texts.map fun b => Z0.slc 1 (bytes b) false).length : Int) else ((C.ints.map (Z0.int .i64)).length : Int)) = (L : Int) by rw [List.length_map, List.length_map]; split <;> omega]
      generalize hX : ofF k C = X
      have hX0 : X = Zz0 k C (L - 0) 0 (of0 k C (C.here.count true)) := by rw [← hX, ofF, hL]; rfl
      refine Zaa (fun m F σ' => ∃ (j : Nat) (s : Stt), F = fset 2 (some (.iptr [.int .i64 k, n1, n2, n3, n4, n5, n6, n7])) (fset 3 (some (.iptr (Zys C))) (fset 4 (some (.ptr b4 0 0)) (fset 5 (some (.ptr b5 0 0)) (fset 36 (some (.int .i64 (L : Int))) (fset 37 (some (.int .i64 (j : Int))) Z27))))) ∧
        (b5, Zb.cells 15 [encS s]) :: (b4, z) :: σ = σ' ∧ j ≤ L ∧ X = Zz0 k C (L - j) j s ∧ (-9223372036854775808 ≤ s.sum ∧ s.sum ≤ 9223372036854775807) ∧ m = L - j) (n := L) ⟨0, _, rfl, rfl, by omega, hX0, by simp [of0], rfl⟩ ?_
      rintro m F σ' ⟨j, s, rfl, rfl, hj, hXj, hs, rfl⟩
      (repeat (first | refine st_q rfl rfl rfl ?_ | refine Z8v rfl (st_q rfl rfl rfl ?_) | refine Z8w rfl ?_ | refine Z8x rfl ?_ | (refine Z8y ?_; (repeat (first | refine Z9v rfl ?_ | refine Z9w ?_)); refine Z9u ?_) | refine awp_seq ?_ | refine Zbm (fun _ _ => rfl) ?_ | refine Z8h ?_ | refine Zbn (fun _ _ => rfl) ?_ | refine Zbo (fun _ _ => rfl) ?_ | refine Z8f (t := true) rfl (fun _ => ?_) (fun e => by cases e) | refine Z8f (t := false) rfl (fun e => by cases e) (fun _ => ?_)))
      refine Za3 (p := (j : Int) < (L : Int)) rfl (fun h3 => ?_) (fun h3 => ?_)
      · have hjl : j < L := by omega
        obtain ⟨r, hr⟩ : ∃ r, L - j = r + 1 := ⟨L - j - 1, by omega⟩
        rw [hr, Zz0] at hXj
        refine Zbn (fun _ _ => rfl) ?_
        refine awp_seq ?_
        refine Z8h ?_
        (refine Z9y (keep := [2, 3, 4, 5, 36, 37]) ?_; ((repeat (first | refine Z9v rfl ?_ | refine Z9w ?_)); refine Z9u ?_))
        refine Zz4 (fun _ _ => rfl) s k [.int .i64 k, n1, n2, n3, n4, n5, n6, n7] rfl rfl h1 C hC j (by omega) hs b4 b5 z _ σ ?_
        refine Zbp ?_
        (repeat (refine st_q rfl rfl rfl ?_))
        rw [show IntKind.wrap .i64 ((j : Int) + 1) = ((j + 1 : Nat) : Int) by rw [w64 _ (by omega) (by omega)]; omega]
        (refine Z8y ?_; (repeat (first | refine Z9v rfl ?_ | refine Z9w ?_)); refine Z9u ?_)
        exact ⟨_, L - (j + 1), HSub.refl _, ⟨j + 1, _, rfl, rfl, by omega, by rw [hXj, show L - (j + 1) = r by omega], Zz1 _ _ _ _ hs, rfl⟩, by omega⟩
      · rw [show L - j = 0 by omega, Zz0] at hXj
        subst hXj
        subst hz
        (repeat (first | refine st_q rfl rfl rfl ?_ | refine Z8v rfl (st_q rfl rfl rfl ?_) | refine Z8w rfl ?_ | refine Z8x rfl ?_ | (refine Z8y ?_; (repeat (first | refine Z9v rfl ?_ | refine Z9w ?_)); refine Z9u ?_) | refine awp_seq ?_ | refine Zbm (fun _ _ => rfl) ?_ | refine Z8h ?_ | refine Zbn (fun _ _ => rfl) ?_ | refine Zbo (fun _ _ => rfl) ?_ | refine Z8f (t := true) rfl (fun _ => ?_) (fun e => by cases e) | refine Z8f (t := false) rfl (fun e => by cases e) (fun _ => ?_)))
        refine Z92 rfl Z8z rfl rfl ?_
        (repeat (refine st_q rfl rfl rfl ?_))
        refine Z9a rfl (Z90 (fun e => hb5 (by rw [e]; simp [Zh])) Z8z) rfl (by decide) (Z0.fit_iff.1 rfl) (fun h => by cases h) (Z9c (fun e => hb5 (by rw [e]; simp [Zh])) Z9b) ?_
        (refine Z8y ?_; (repeat (first | refine Z9v rfl ?_ | refine Z9w ?_)); refine Z9u ?_)
        refine Z8a (FSub.refl _) (HSub.tail _ _) ?_
        refine Z8d ?_
        exact ares (vs := [encS X]) (Zz2 rfl Z8z rfl) (HSub.tail _ _) ⟨rfl, rfl⟩
  (refine Z9y (keep := [2, 3, 4]) ?_; ((repeat (first | refine Z9v rfl ?_ | refine Z9w ?_)); refine Z9u ?_))
  exact main _ rfl
theorem Zz5 (k : Int) (nd : List Z0) (hnd : nd.length = 8) (hk : nd[0]? = some (.int .i64 k)) (h1 : ∀ c ∈ nd, c.one = true) (σ : Zc) :
    Z1q Try.prog Zcx [.agg nd] σ fun r σ' => r = encS (ofF k ⟨[], [], [], [], []⟩) ∧ σ' = σ := by
  have hO := c_Of k nd hnd hk h1 ⟨[], [], [], [], []⟩ ⟨by simp, by simp, by simp, by simp, by simp, by simp, by simp⟩
  have hO' : ∀ σ, Z1q Try.prog Zcs [.agg nd, .agg [.slc 0 [] true, .slc 0 [] true, .slc 0 [] true, .slc 0 [] true, .slc 0 [] true]] σ fun r σ' => r = encS (ofF k ⟨[], [], [], [], []⟩) ∧ σ' = σ := by
    intro σ
    refine (hO σ).args ?_
    exact VRle.same (VRle.agg (by simp [Z0.one, Zys]) (VRle.cons (VRle.nilF _ _) (VRle.cons (VRle.nilF _ _) (VRle.cons (VRle.nilF _ _) (VRle.cons (VRle.nilF _ _) (VRle.nilF _ _))))))
  match nd, hnd with
  | [n0, n1, n2, n3, n4, n5, n6, n7], _ =>
  refine Z8t rfl Zy6 (Nat.le_of_ble_eq_true rfl) ?_
  refine Z9z ?_
  refine Z9j rfl ⟨rfl, h1⟩ fun b1 hb1 => ?_
  refine Z9k (by simp [Z0.cells, Z0.one]) fun b2 hb2 => ?_
  (refine Z8y ?_; (repeat (first | refine Z9v rfl ?_ | refine Z9w ?_)); refine Z9u ?_)
  refine Z8a (FSub.refl _) (HSub.swap _ _ _) ?_
  refine Zb3 (d := 1) (cs := [n0, n1, n2, n3, n4, n5, n6, n7]) rfl ?_
  refine Z9z ?_
  (repeat (refine st_q rfl rfl rfl ?_))
  refine Z9t rfl (hO' _) ?_
  (repeat (refine st_q rfl rfl rfl ?_))
  refine Z9a rfl Z8z rfl (by decide) (Z0.fit_iff.1 rfl) (fun h => by cases h) Z9b ?_
  (refine Z8y ?_; (repeat (first | refine Z9v rfl ?_ | refine Z9w ?_)); refine Z9u ?_)
  refine Z8d ?_
  exact ares (vs := [encS (ofF k ⟨[], [], [], [], []⟩)]) (Zz2 rfl Z8z rfl) (HSub.tail _ _) ⟨rfl, rfl⟩
end Go.Abs
namespace Go.Abs
open Go Go.Proofs
set_option linter.unusedVariables false
set_option linter.unusedSimpArgs false
set_option maxHeartbeats 4000000
attribute [local irreducible] AWp aops KP
structure Stt.Fit (s : Stt) : Prop where
  min : s.min.Cl
  max : s.max.Cl
  sum : -9223372036854775808 ≤ s.sum ∧ s.sum ≤ 9223372036854775807
def Zz6 (a b : Stt) : Stt := ⟨IntKind.wrap .i64 (a.count + b.count), a.null || b.null, false, vl0, vl0, a.sums && b.sums, 0⟩
def Zz7 (a b : Stt) : Stt := if (Zz6 a b).sums = true then Zyo (Zyo (Zz6 a b) a.sum) b.sum else Zz6 a b
def Zz8 (k : Int) : List Stt → Stt → Stt
  | [], s => s
  | x :: xs, s => Zz8 k xs (if x.has = true then Zyp k s x.min x.max else s)
def Zz9 (k : Int) (a b : Stt) : Stt := Zz8 k [a, b] (Zz7 a b)
theorem Zza (a b : Stt) (ha : a.Fit) (hb : b.Fit) : (-9223372036854775808 ≤ (Zyo (Zz6 a b) a.sum).sum ∧ (Zyo (Zz6 a b) a.sum).sum ≤ 9223372036854775807) := by
  unfold Zyo addF
  split
  · simp only
    split
    · assumption
    · simp
  · simp [Zz6]
theorem Zzb (k : Int) (nd : List Z0) (hnd : nd.length = 8) (hk : nd[0]? = some (.int .i64 k)) (h1 : ∀ c ∈ nd, c.one = true) (x y : Stt) (hx : x.Fit) (hy : y.Fit) (σ : Zc) :
    Z1q Try.prog Zcz [.agg nd, encS x, encS y] σ fun r σ' => r = encS (Zz9 k x y) ∧ σ' = σ := by
  match nd, hnd with
  | [n0, n1, n2, n3, n4, n5, n6, n7], _ =>
  simp only [List.getElem?_cons_zero, Option.some.injEq] at hk
  subst hk
  refine Z8t rfl Zy7 (Nat.le_of_ble_eq_true rfl) ?_
  refine Z9z ?_
  refine Z9j rfl ⟨rfl, h1⟩ fun b3 hb3 => ?_
  refine Z9j rfl (Z0.fit_iff.1 rfl) fun b4 hb4 => ?_
  refine Z9j rfl (Z0.fit_iff.1 rfl) fun b5 hb5 => ?_
  refine Z9k (by simp [Z0.cells, Z0.one]) fun b6 hb6 => ?_
  (refine Z8y ?_; (repeat (first | refine Z9v rfl ?_ | refine Z9w ?_)); refine Z9u ?_)
  refine Z8a (FSub.refl _) (HSub.swap _ _ _) ?_
  refine Zb3 (d := 5) (cs := Zyn y) rfl ?_
  refine Z8a (FSub.refl _) (HSub.swap _ _ _) ?_
  refine Zb3 (d := 4) (cs := Zyn x) rfl ?_
  refine Z8a (FSub.refl _) (HSub.swap _ _ _) ?_
  refine Zb3 (d := 3) (cs := [.int .i64 k, n1, n2, n3, n4, n5, n6, n7]) rfl ?_
  have main : ∀ z : Zb, z = .cells 15 [.agg [.int .i64 0, .bool false, .bool false, .bool false, .int .i64 0, .int .i64 0, .slc 0 [] true, .slc 0 [] true, .bool false, .int .i64 0, .int .i64 0, .slc 0 [] true, .slc 0 [] true, .bool false, .int .i64 0]] →
    AWp Try.prog Zwj.n (Zwj.code.snd 1) (ARet Zwj.res fun r σ' => r = encS (Zz9 k x y) ∧ σ' = σ) (fset 3 (some (.iptr [.int .i64 k, n1, n2, n3, n4, n5, n6, n7])) (fset 4 (some (.iptr (Zyn x))) (fset 5 (some (.iptr (Zyn y))) (fset 6 (some (.ptr b6 0 0)) Z27)))) ((b6, z) :: σ) := by
    intro z hz
    have main2 : ∀ b7, b7 ∉ Zh ((b6, z) :: σ) → AWp Try.prog Zwj.n (Zwj.code.snd 2) (ARet Zwj.res fun r σ' => r = encS (Zz9 k x y) ∧ σ' = σ) (fset 3 (some (.iptr [.int .i64 k, n1, n2, n3, n4, n5, n6, n7])) (fset 4 (some (.iptr (Zyn x))) (fset 5 (some (.iptr (Zyn y))) (fset 6 (some (.ptr b6 0 0)) (fset 7 (some (.ptr b7 0 0)) Z27))))) ((b7, .cells 15 [encS (Zz6 x y)]) :: (b6, z) :: σ) := by
      intro b7 hb7
      have main3 : AWp Try.prog Zwj.n (Zwj.code.snd 3) (ARet Zwj.res fun r σ' => r = encS (Zz9 k x y) ∧ σ' = σ) (fset 3 (some (.iptr [.int .i64 k, n1, n2, n3, n4, n5, n6, n7])) (fset 4 (some (.iptr (Zyn x))) (fset 5 (some (.iptr (Zyn y))) (fset 6 (some (.ptr b6 0 0)) (fset 7 (some (.ptr b7 0 0)) Z27))))) ((b7, .cells 15 [encS (Zz7 x y)]) :: (b6, z) :: σ) := by
        refine awp_seq ?_
        refine awp_seq ?_
        refine Zbm (fun _ _ => rfl) ?_
        (repeat (refine st_q rfl rfl rfl ?_))
        (refine Z8y ?_; (repeat (first | refine Z9v rfl ?_ | refine Z9w ?_)); refine Z9u ?_)
        refine Z8h ?_
        generalize hX : Zz9 k x y = X
        have hX0 : X = Zz8 k ([x, y].drop 0) (Zz7 x y) := by rw [← hX, Zz9]; rfl
        refine Zaa (fun m F σ' => ∃ (j : Nat) (s : Stt), F = fset 3 (some (.iptr [.int .i64 k, n1, n2, n3, n4, n5, n6, n7])) (fset 6 (some (.ptr b6 0 0)) (fset 7 (some (.ptr b7 0 0)) (fset 38 (some (.slc 15 ([x, y].map encS) true)) (fset 39 (some (.int .i64 2)) (fset 40 (some (.int .i64 (j : Int))) Z27))))) ∧
          (b7, Zb.cells 15 [encS s]) :: (b6, z) :: σ = σ' ∧ j ≤ 2 ∧ X = Zz8 k ([x, y].drop j) s ∧ m = 2 - j) (n := 2) ⟨0, _, rfl, rfl, by omega, hX0, rfl⟩ ?_
        rintro m F σ' ⟨j, s, rfl, rfl, hj, hXj, rfl⟩
        (repeat (first | refine st_q rfl rfl rfl ?_ | refine Z8v rfl (st_q rfl rfl rfl ?_) | refine Z8w rfl ?_ | refine Z8x rfl ?_ | (refine Z8y ?_; (repeat (first | refine Z9v rfl ?_ | refine Z9w ?_)); refine Z9u ?_) | refine awp_seq ?_ | refine Zbm (fun _ _ => rfl) ?_ | refine Z8h ?_ | refine Zbn (fun _ _ => rfl) ?_ | refine Zbo (fun _ _ => rfl) ?_ | refine Z8f (t := true) rfl (fun _ => ?_) (fun e => by cases e) | refine Z8f (t := false) rfl (fun e => by cases e) (fun _ => ?_)))
        refine Za3 (p := (j : Int) < 2) rfl (fun h3 => ?_) (fun h3 => ?_)
        · have hjl : j < [x, y].length := by simp; omega
          rw [List.drop_eq_getElem_cons hjl, Zz8] at hXj
          have hg := Zyu (f := encS) hjl
          have hF : ([x, y][j]).Fit := by
            have := List.getElem_mem hjl
            simp only [List.mem_cons, List.not_mem_nil, or_false] at this
            rcases this with h | h <;> rw [h] <;> assumption
          generalize [x, y][j] = w at hXj hg hF
          have hsp := Zyr s k [.int .i64 k, n1, n2, n3, n4, n5, n6, n7] rfl rfl h1 w.min w.max hF.min hF.max b7 ((b6, z) :: σ)
          simp only [Zm6] at hsp
          have round : ∀ s' : Stt, X = Zz8 k (List.drop (j + 1) [x, y]) s' → AWp Try.prog Zwj.n (.region Zwg [3, 6, 7, 38, 39, 40]) (Za9 (fun m F σ' => ∃ (j : Nat) (s : Stt), F = fset 3 (some (.iptr [.int .i64 k, n1, n2, n3, n4, n5, n6, n7])) (fset 6 (some (.ptr b6 0 0)) (fset 7 (some (.ptr b7 0 0)) (fset 38 (some (.slc 15 ([x, y].map encS) true)) (fset 39 (some (.int .i64 2)) (fset 40 (some (.int .i64 (j : Int))) Z27))))) ∧
              (b7, Zb.cells 15 [encS s]) :: (b6, z) :: σ = σ' ∧ j ≤ 2 ∧ X = Zz8 k ([x, y].drop j) s ∧ m = 2 - j) (2 - j) (Z8g 0 (Z8e Try.prog Zwj.n (Zwj.code.snd 4) (ARet Zwj.res fun r σ' => r = encS X ∧ σ' = σ))))
              (fset 3 (some (.iptr [.int .i64 k, n1, n2, n3, n4, n5, n6, n7])) (fset 6 (some (.ptr b6 0 0)) (fset 7 (some (.ptr b7 0 0)) (fset 38 (some (.slc 15 ([x, y].map encS) true)) (fset 39 (some (.int .i64 2)) (fset 40 (some (.int .i64 (j : Int))) Z27)))))) ((b7, .cells 15 [encS s']) :: (b6, z) :: σ) := by
            intro s' hs'
            refine Zbp ?_
            (repeat (refine st_q rfl rfl rfl ?_))
            rw [show IntKind.wrap .i64 ((j : Int) + 1) = ((j + 1 : Nat) : Int) by rw [w64 _ (by omega) (by omega)]; omega]
            (refine Z8y ?_; (repeat (first | refine Z9v rfl ?_ | refine Z9w ?_)); refine Z9u ?_)
            exact ⟨_, 2 - (j + 1), HSub.refl _, ⟨j + 1, _, rfl, rfl, by omega, hs', rfl⟩, by omega⟩
          refine Zbn (fun _ _ => rfl) ?_
          refine awp_seq ?_
          refine Z8h ?_
          refine Z9z ?_
          (repeat (refine st_q rfl rfl rfl ?_))
          refine Z93 rfl (by omega) hg ?_
          (repeat (refine st_q rfl rfl rfl ?_))
          refine Z9k (by simp [Z0.cells, Z0.one]) fun b9 hb9 => ?_
          refine Z9a rfl Z8z rfl (by decide) (Z0.fit_iff.1 rfl) (fun h => by cases h) Z9b ?_
          (refine Z8y ?_; (repeat (first | refine Z9v rfl ?_ | refine Z9w ?_)); refine Z9u ?_)
          refine Zb3 (d := 9) (cs := Zyn w) rfl ?_
          refine Z9z ?_
          (repeat (refine st_q rfl rfl rfl ?_))
          (refine Z8y ?_; (repeat (first | refine Z9v rfl ?_ | refine Z9w ?_)); refine Z9u ?_)
          cases hh : w.has with
          | true =>
            rw [hh, if_pos rfl] at hXj
            (repeat (first | refine st_q rfl rfl rfl ?_ | refine Z8v rfl (st_q rfl rfl rfl ?_) | refine Z8w rfl ?_ | refine Z8x rfl ?_ | (refine Z8y ?_; (repeat (first | refine Z9v rfl ?_ | refine Z9w ?_)); refine Z9u ?_) | refine awp_seq ?_ | refine Zbm (fun _ _ => rfl) ?_ | refine Z8h ?_ | refine Zbn (fun _ _ => rfl) ?_ | refine Zbo (fun _ _ => rfl) ?_ | refine Z8f (t := true) rfl (fun _ => ?_) (fun e => by cases e) | refine Z8f (t := false) rfl (fun e => by cases e) (fun _ => ?_)))
            refine Z9t rfl hsp ?_
            (refine Z8y ?_; (repeat (first | refine Z9v rfl ?_ | refine Z9w ?_)); refine Z9u ?_)
            exact round _ hXj
          | false =>
            rw [hh, if_neg (by simp)] at hXj
            (repeat (first | refine st_q rfl rfl rfl ?_ | refine Z8v rfl (st_q rfl rfl rfl ?_) | refine Z8w rfl ?_ | refine Z8x rfl ?_ | (refine Z8y ?_; (repeat (first | refine Z9v rfl ?_ | refine Z9w ?_)); refine Z9u ?_) | refine awp_seq ?_ | refine Zbm (fun _ _ => rfl) ?_ | refine Z8h ?_ | refine Zbn (fun _ _ => rfl) ?_ | refine Zbo (fun _ _ => rfl) ?_ | refine Z8f (t := true) rfl (fun _ => ?_) (fun e => by cases e) | refine Z8f (t := false) rfl (fun e => by cases e) (fun _ => ?_)))
            refine Z9y (keep := [3, 6, 7, 38, 39, 40]) ?_
            ((repeat (first | refine Z9v rfl ?_ | refine Z9w ?_)); refine Z9u ?_)
            exact round _ hXj
        · have hjl : j = 2 := by omega
          subst hjl
          rw [show List.drop 2 [x, y] = [] from rfl, Zz8] at hXj
          subst hXj
          subst hz
          (repeat (first | refine st_q rfl rfl rfl ?_ | refine Z8v rfl (st_q rfl rfl rfl ?_) | refine Z8w rfl ?_ | refine Z8x rfl ?_ | (refine Z8y ?_; (repeat (first | refine Z9v rfl ?_ | refine Z9w ?_)); refine Z9u ?_) | refine awp_seq ?_ | refine Zbm (fun _ _ => rfl) ?_ | refine Z8h ?_ | refine Zbn (fun _ _ => rfl) ?_ | refine Zbo (fun _ _ => rfl) ?_ | refine Z8f (t := true) rfl (fun _ => ?_) (fun e => by cases e) | refine Z8f (t := false) rfl (fun e => by cases e) (fun _ => ?_)))
          refine Z92 rfl Z8z rfl rfl ?_
          (repeat (refine st_q rfl rfl rfl ?_))
          refine Z9a rfl (Z90 (fun e => hb7 (by rw [e]; simp [Zh])) Z8z) rfl (by decide) (Z0.fit_iff.1 rfl) (fun h => by cases h) (Z9c (fun e => hb7 (by rw [e]; simp [Zh])) Z9b) ?_
          (refine Z8y ?_; (repeat (first | refine Z9v rfl ?_ | refine Z9w ?_)); refine Z9u ?_)
          refine Z8a (FSub.refl _) (HSub.tail _ _) ?_
          refine Z8d ?_
          exact ares (vs := [encS X]) (Zz2 rfl Z8z rfl) (HSub.tail _ _) ⟨rfl, rfl⟩
      refine awp_seq ?_
      refine awp_seq ?_
      refine Zbm (fun _ _ => rfl) ?_
      (repeat (refine st_q rfl rfl rfl ?_))
      refine Z92 rfl Z8z rfl rfl ?_
      (refine Z8y ?_; (repeat (first | refine Z9v rfl ?_ | refine Z9w ?_)); refine Z9u ?_)
      cases hs : (Zz6 x y).sums with
      | true =>
        rw [Zz7, if_pos hs] at main3
        (repeat (first | refine st_q rfl rfl rfl ?_ | refine Z8v rfl (st_q rfl rfl rfl ?_) | refine Z8w rfl ?_ | refine Z8x rfl ?_ | (refine Z8y ?_; (repeat (first | refine Z9v rfl ?_ | refine Z9w ?_)); refine Z9u ?_) | refine awp_seq ?_ | refine Zbm (fun _ _ => rfl) ?_ | refine Z8h ?_ | refine Zbn (fun _ _ => rfl) ?_ | refine Zbo (fun _ _ => rfl) ?_ | refine Z8f (t := true) rfl (fun _ => ?_) (fun e => by cases e) | refine Z8f (t := false) rfl (fun e => by cases e) (fun _ => ?_)))
        refine Z9t rfl (Zyq (Zz6 x y) x.sum (by simp [Zz6]) hx.sum _ _) ?_
        (repeat (first | refine st_q rfl rfl rfl ?_ | refine Z8v rfl (st_q rfl rfl rfl ?_) | refine Z8w rfl ?_ | refine Z8x rfl ?_ | (refine Z8y ?_; (repeat (first | refine Z9v rfl ?_ | refine Z9w ?_)); refine Z9u ?_) | refine awp_seq ?_ | refine Zbm (fun _ _ => rfl) ?_ | refine Z8h ?_ | refine Zbn (fun _ _ => rfl) ?_ | refine Zbo (fun _ _ => rfl) ?_ | refine Z8f (t := true) rfl (fun _ => ?_) (fun e => by cases e) | refine Z8f (t := false) rfl (fun e => by cases e) (fun _ => ?_)))
        refine Z9t rfl (Zyq _ y.sum (Zza x y hx hy) hy.sum _ _) ?_
        (refine Z8y ?_; (repeat (first | refine Z9v rfl ?_ | refine Z9w ?_)); refine Z9u ?_)
        exact main3
      | false =>
        rw [Zz7, if_neg (by simp [hs])] at main3
        refine Z8f (t := false) rfl (fun e => by cases e) (fun _ => ?_)
        refine Zbn (fun _ _ => rfl) ?_
        (refine Z9y (keep := [3, 4, 5, 6, 7]) ?_; ((repeat (first | refine Z9v rfl ?_ | refine Z9w ?_)); refine Z9u ?_))
        exact main3
    have tail : ∀ (nn ss : Bool) (b7 : Nat), b7 ∉ Zh ((b6, z) :: σ) → nn = (x.null || y.null) → ss = (x.sums && y.sums) →
        AWp Try.prog Zwj.n (Zwj.code.snd 2) (ARet Zwj.res fun r σ' => r = encS (Zz9 k x y) ∧ σ' = σ) (fset 3 (some (.iptr [.int .i64 k, n1, n2, n3, n4, n5, n6, n7])) (fset 4 (some (.iptr (Zyn x))) (fset 5 (some (.iptr (Zyn y))) (fset 6 (some (.ptr b6 0 0)) (fset 7 (some (.ptr b7 0 0)) Z27)))))
          ((b7, .cells 15 [.agg [.int .i64 (IntKind.wrap .i64 (x.count + y.count)), .bool nn, .bool false, .bool false, .int .i64 0, .int .i64 0, .slc 0 [] true, .slc 0 [] true, .bool false, .int .i64 0, .int .i64 0, .slc 0 [] true, .slc 0 [] true, .bool ss, .int .i64 0]]) :: (b6, z) :: σ) := by
      intro nn ss b7 hb7 e1 e2
      subst e1 e2
      refine Zbx (HShift.content (ys := [encS (Zz6 x y)]) rfl (by intro y hy; simp at hy; subst hy; exact Z0.fit_iff.1 rfl)
        (VRle.same (VRle.same (VRle.same (VRle.same (VRle.same (VRle.same (VRle.cons (VRle.nilF _ _) (VRle.cons (VRle.nilF _ _) (VRle.same (VRle.same (VRle.same (VRle.cons (VRle.nilF _ _) (VRle.cons (VRle.nilF _ _) (VRle.refl _))))))))))))))) ?_
      exact main2 b7 hb7
    refine Z9z ?_
    (repeat (refine st_q rfl rfl rfl ?_))
    cases hn : x.null with
    | true =>
      (repeat (first | refine st_q rfl rfl rfl ?_ | refine Z8v rfl (st_q rfl rfl rfl ?_) | refine Z8w rfl ?_ | refine Z8x rfl ?_))
      cases hs : x.sums with
      | true =>
        (repeat (first | refine st_q rfl rfl rfl ?_ | refine Z8v rfl (st_q rfl rfl rfl ?_) | refine Z8w rfl ?_ | refine Z8x rfl ?_))
        refine Z9k (by simp [Z0.cells, Z0.one]) fun b7 hb7 => ?_
        refine Z9a rfl Z8z rfl (by decide) (Z0.fit_iff.1 rfl) (fun h => by cases h) Z9b ?_
        (refine Z8y ?_; (repeat (first | refine Z9v rfl ?_ | refine Z9w ?_)); refine Z9u ?_)
        exact tail _ _ b7 hb7 (by rw [hn]; rfl) (by rw [hs]; rfl)
      | false =>
        (repeat (first | refine st_q rfl rfl rfl ?_ | refine Z8v rfl (st_q rfl rfl rfl ?_) | refine Z8w rfl ?_ | refine Z8x rfl ?_))
        refine Z9k (by simp [Z0.cells, Z0.one]) fun b7 hb7 => ?_
        refine Z9a rfl Z8z rfl (by decide) (Z0.fit_iff.1 rfl) (fun h => by cases h) Z9b ?_
        (refine Z8y ?_; (repeat (first | refine Z9v rfl ?_ | refine Z9w ?_)); refine Z9u ?_)
        exact tail _ _ b7 hb7 (by rw [hn]; rfl) (by rw [hs]; rfl)
    | false =>
      (repeat (first | refine st_q rfl rfl rfl ?_ | refine Z8v rfl (st_q rfl rfl rfl ?_) | refine Z8w rfl ?_ | refine Z8x rfl ?_))
      cases hs : x.sums with
      | true =>
        (repeat (first | refine st_q rfl rfl rfl ?_ | refine Z8v rfl (st_q rfl rfl rfl ?_) | refine Z8w rfl ?_ | refine Z8x rfl ?_))
        refine Z9k (by simp [Z0.cells, Z0.one]) fun b7 hb7 => ?_
        refine Z9a rfl Z8z rfl (by decide) (Z0.fit_iff.1 rfl) (fun h => by cases h) Z9b ?_
        (refine Z8y ?_; (repeat (first | refine Z9v rfl ?_ | refine Z9w ?_)); refine Z9u ?_)
        exact tail _ _ b7 hb7 (by rw [hn]; rfl) (by rw [hs]; rfl)
      | false =>
        (repeat (first | refine st_q rfl rfl rfl ?_ | refine Z8v rfl (st_q rfl rfl rfl ?_) | refine Z8w rfl ?_ | refine Z8x rfl ?_))
        refine Z9k (by simp [Z0.cells, Z0.one]) fun b7 hb7 => ?_
        refine Z9a rfl Z8z rfl (by decide) (Z0.fit_iff.1 rfl) (fun h => by cases h) Z9b ?_
        (refine Z8y ?_; (repeat (first | refine Z9v rfl ?_ | refine Z9w ?_)); refine Z9u ?_)
        exact tail _ _ b7 hb7 (by rw [hn]; rfl) (by rw [hs]; rfl)
  (refine Z9y (keep := [3, 4, 5, 6]) ?_; ((repeat (first | refine Z9v rfl ?_ | refine Z9w ?_)); refine Z9u ?_))
  exact main _ rfl
end Go.Abs
namespace Go.Abs
open Go Go.Proofs
set_option linter.unusedVariables false
set_option linter.unusedSimpArgs false
set_option maxHeartbeats 4000000
attribute [local irreducible] AWp aops KP
theorem Zzc (a b : List UInt8) (ha : a.length ≤ 140737488355328) (hb : b.length ≤ 140737488355328) (σ : Zc) : Z1q Try.prog Zg4 [.slc 1 (bytes a) false, .slc 1 (bytes b) false] σ fun r σ' => r = .bool (decide (a = b)) ∧ σ' = σ := by
  refine Z8t rfl Zyg (Nat.le_of_ble_eq_true rfl) ?_
  (repeat (first | refine st_q rfl rfl rfl ?_ | refine Z8v rfl (st_q rfl rfl rfl ?_) | refine Z8w rfl ?_ | refine Z8x rfl ?_ | (refine Z8y ?_; (repeat (first | refine Z9v rfl ?_ | refine Z9w ?_)); refine Z9u ?_) | refine awp_seq ?_ | refine Zbm (fun _ _ => rfl) ?_ | refine Z8h ?_ | refine Zbn (fun _ _ => rfl) ?_ | refine Zbo (fun _ _ => rfl) ?_ | refine Z8f (t := true) rfl (fun _ => ?_) (fun e => by cases e) | refine Z8f (t := false) rfl (fun e => by cases e) (fun _ => ?_)))
  refine st_q rfl (v := .str a) (by simp [Z1p, ab2s, Z1m, Zar]) rfl ?_
  (repeat (refine st_q rfl rfl rfl ?_))
  refine st_q rfl (v := .str b) (by simp [Z1p, ab2s, Z1m, Zar]) rfl ?_
  (repeat (first | refine st_q rfl rfl rfl ?_ | refine Z8v rfl (st_q rfl rfl rfl ?_) | refine Z8w rfl ?_ | refine Z8x rfl ?_ | (refine Z8y ?_; (repeat (first | refine Z9v rfl ?_ | refine Z9w ?_)); refine Z9u ?_) | refine awp_seq ?_ | refine Zbm (fun _ _ => rfl) ?_ | refine Z8h ?_ | refine Zbn (fun _ _ => rfl) ?_ | refine Zbo (fun _ _ => rfl) ?_ | refine Z8f (t := true) rfl (fun _ => ?_) (fun e => by cases e) | refine Z8f (t := false) rfl (fun e => by cases e) (fun _ => ?_)))
  refine Z8d ?_
  exact ares rfl (HSub.refl _) ⟨rfl, rfl⟩
def Zzd (a b : Vl) : Bool := (a.null == b.null) && (decide (a.i = b.i) && (decide (a.n = b.n) && (decide (a.b = b.b) && decide ((a.kids.length : Int) = (b.kids.length : Int)))))
def Zze (a b : Stt) : Bool := decide (a.count = b.count) && ((a.null == b.null) && ((a.has == b.has) && (Zzd a.min b.min && (Zzd a.max b.max && ((a.sums == b.sums) && decide (a.sum = b.sum))))))
theorem Zzf (x y : Vl) (hx : x.b.length ≤ 140737488355328) (hy : y.b.length ≤ 140737488355328) (σ : Zc) : Z1q Try.prog Zf6 [encV x, encV y] σ fun r σ' => r = .bool (Zzd x y) ∧ σ' = σ := by
  simp only [Zm6]
  have enl : ∀ l : List Vl, (Zm4 l).length = l.length := by intro l; induction l <;> simp_all [Zm4]
  refine Z8t rfl Zye (Nat.le_of_ble_eq_true rfl) ?_
  refine Z9z ?_
  refine Z9j rfl (Z0.fit_iff.1 rfl) fun b2 hb2 => ?_
  refine Z9j rfl (Z0.fit_iff.1 rfl) fun b3 hb3 => ?_
  (repeat (refine st_q rfl rfl rfl ?_))
  (refine Z8y ?_; (repeat (first | refine Z9v rfl ?_ | refine Z9w ?_)); refine Z9u ?_)
  refine Zb3 (d := 3) (cs := Zm5 y) rfl ?_
  refine Zb3 (d := 2) (cs := Zm5 x) rfl ?_
  refine Z9z ?_
  (repeat (first | refine st_q rfl rfl rfl ?_ | refine Z8v rfl (st_q rfl rfl rfl ?_) | refine Z8w rfl ?_ | refine Z8x rfl ?_))
  unfold Zzd
  generalize (x.null == y.null) = q0
  cases q0 with
  | false =>
    (repeat (first | refine st_q rfl rfl rfl ?_ | refine Z8v rfl (st_q rfl rfl rfl ?_) | refine Z8w rfl ?_ | refine Z8x rfl ?_))
    (refine Z8y ?_; (repeat (first | refine Z9v rfl ?_ | refine Z9w ?_)); refine Z9u ?_)
    refine Z8d ?_
    exact ares rfl (HSub.refl _) ⟨rfl, rfl⟩
  | true =>
  (repeat (first | refine st_q rfl rfl rfl ?_ | refine Z8v rfl (st_q rfl rfl rfl ?_) | refine Z8w rfl ?_ | refine Z8x rfl ?_))
  generalize decide (x.i = y.i) = q1
  cases q1 with
  | false =>
    (repeat (first | refine st_q rfl rfl rfl ?_ | refine Z8v rfl (st_q rfl rfl rfl ?_) | refine Z8w rfl ?_ | refine Z8x rfl ?_))
    (refine Z8y ?_; (repeat (first | refine Z9v rfl ?_ | refine Z9w ?_)); refine Z9u ?_)
    refine Z8d ?_
    exact ares rfl (HSub.refl _) ⟨rfl, rfl⟩
  | true =>
  (repeat (first | refine st_q rfl rfl rfl ?_ | refine Z8v rfl (st_q rfl rfl rfl ?_) | refine Z8w rfl ?_ | refine Z8x rfl ?_))
  generalize decide (x.n = y.n) = q2
  cases q2 with
  | false =>
    (repeat (first | refine st_q rfl rfl rfl ?_ | refine Z8v rfl (st_q rfl rfl rfl ?_) | refine Z8w rfl ?_ | refine Z8x rfl ?_))
    (refine Z8y ?_; (repeat (first | refine Z9v rfl ?_ | refine Z9w ?_)); refine Z9u ?_)
    refine Z8d ?_
    exact ares rfl (HSub.refl _) ⟨rfl, rfl⟩
  | true =>
  (repeat (first | refine st_q rfl rfl rfl ?_ | refine Z8v rfl (st_q rfl rfl rfl ?_) | refine Z8w rfl ?_ | refine Z8x rfl ?_))
  refine Z8v rfl (Z9t rfl (Zzc x.b y.b hx hy _) ?_)
  (repeat (first | refine st_q rfl rfl rfl ?_ | refine Z8v rfl (st_q rfl rfl rfl ?_) | refine Z8w rfl ?_ | refine Z8x rfl ?_))
  generalize decide (x.b = y.b) = q3
  cases q3 with
  | false =>
    (repeat (first | refine st_q rfl rfl rfl ?_ | refine Z8v rfl (st_q rfl rfl rfl ?_) | refine Z8w rfl ?_ | refine Z8x rfl ?_))
    (refine Z8y ?_; (repeat (first | refine Z9v rfl ?_ | refine Z9w ?_)); refine Z9u ?_)
    refine Z8d ?_
    exact ares rfl (HSub.refl _) ⟨rfl, rfl⟩
  | true =>
  (repeat (first | refine st_q rfl rfl rfl ?_ | refine Z8v rfl (st_q rfl rfl rfl ?_) | refine Z8w rfl ?_ | refine Z8x rfl ?_))
  (refine Z8y ?_; (repeat (first | refine Z9v rfl ?_ | refine Z9w ?_)); refine Z9u ?_)
  refine Z8d ?_
  exact ares rfl (HSub.refl _) ⟨by simp [Z8m, enl], rfl⟩
theorem Zzg (x y : Stt) (hx : x.Fit) (hy : y.Fit) (σ : Zc) : Z1q Try.prog Zdx [encS x, encS y] σ fun r σ' => r = .bool (Zze x y) ∧ σ' = σ := by
  have cl : ∀ v : Vl, v.Cl → v.b.length ≤ 140737488355328 := fun v h => by cases h; assumption
  have hmin := Zzf x.min y.min (cl _ hx.min) (cl _ hy.min)
  have hmax := Zzf x.max y.max (cl _ hx.max) (cl _ hy.max)
  simp only [Zm6] at hmin hmax
  refine Z8t rfl Zy9 (Nat.le_of_ble_eq_true rfl) ?_
  refine Z9z ?_
  refine Z9j rfl (Z0.fit_iff.1 rfl) fun b2 hb2 => ?_
  refine Z9j rfl (Z0.fit_iff.1 rfl) fun b3 hb3 => ?_
  (repeat (refine st_q rfl rfl rfl ?_))
  (refine Z8y ?_; (repeat (first | refine Z9v rfl ?_ | refine Z9w ?_)); refine Z9u ?_)
  refine Zb3 (d := 3) (cs := Zyn y) rfl ?_
  refine Zb3 (d := 2) (cs := Zyn x) rfl ?_
  refine Z9z ?_
  (repeat (first | refine st_q rfl rfl rfl ?_ | refine Z8v rfl (st_q rfl rfl rfl ?_) | refine Z8w rfl ?_ | refine Z8x rfl ?_))
  unfold Zze
  generalize decide (x.count = y.count) = q
  cases q with
  | false =>
    (repeat (first | refine st_q rfl rfl rfl ?_ | refine Z8v rfl (st_q rfl rfl rfl ?_) | refine Z8w rfl ?_ | refine Z8x rfl ?_))
    (refine Z8y ?_; (repeat (first | refine Z9v rfl ?_ | refine Z9w ?_)); refine Z9u ?_)
    refine Z8d ?_
    exact ares rfl (HSub.refl _) ⟨rfl, rfl⟩
  | true =>
  (repeat (first | refine st_q rfl rfl rfl ?_ | refine Z8v rfl (st_q rfl rfl rfl ?_) | refine Z8w rfl ?_ | refine Z8x rfl ?_))
  generalize (x.null == y.null) = q
  cases q with
  | false =>
    (repeat (first | refine st_q rfl rfl rfl ?_ | refine Z8v rfl (st_q rfl rfl rfl ?_) | refine Z8w rfl ?_ | refine Z8x rfl ?_))
    (refine Z8y ?_; (repeat (first | refine Z9v rfl ?_ | refine Z9w ?_)); refine Z9u ?_)
    refine Z8d ?_
    exact ares rfl (HSub.refl _) ⟨rfl, rfl⟩
  | true =>
  (repeat (first | refine st_q rfl rfl rfl ?_ | refine Z8v rfl (st_q rfl rfl rfl ?_) | refine Z8w rfl ?_ | refine Z8x rfl ?_))
  generalize (x.has == y.has) = q
  cases q with
  | false =>
    (repeat (first | refine st_q rfl rfl rfl ?_ | refine Z8v rfl (st_q rfl rfl rfl ?_) | refine Z8w rfl ?_ | refine Z8x rfl ?_))
    (refine Z8y ?_; (repeat (first | refine Z9v rfl ?_ | refine Z9w ?_)); refine Z9u ?_)
    refine Z8d ?_
    exact ares rfl (HSub.refl _) ⟨rfl, rfl⟩
  | true =>
  (repeat (first | refine st_q rfl rfl rfl ?_ | refine Z8v rfl (st_q rfl rfl rfl ?_) | refine Z8w rfl ?_ | refine Z8x rfl ?_))
  refine Z8v rfl (Z9t rfl (hmin _) ?_)
  generalize Zzd x.min y.min = q
  cases q with
  | false =>
    (repeat (first | refine st_q rfl rfl rfl ?_ | refine Z8v rfl (st_q rfl rfl rfl ?_) | refine Z8w rfl ?_ | refine Z8x rfl ?_))
    (refine Z8y ?_; (repeat (first | refine Z9v rfl ?_ | refine Z9w ?_)); refine Z9u ?_)
    refine Z8d ?_
    exact ares rfl (HSub.refl _) ⟨rfl, rfl⟩
  | true =>
  (repeat (first | refine st_q rfl rfl rfl ?_ | refine Z8v rfl (st_q rfl rfl rfl ?_) | refine Z8w rfl ?_ | refine Z8x rfl ?_))
  refine Z8v rfl (Z9t rfl (hmax _) ?_)
  generalize Zzd x.max y.max = q
  cases q with
  | false =>
    (repeat (first | refine st_q rfl rfl rfl ?_ | refine Z8v rfl (st_q rfl rfl rfl ?_) | refine Z8w rfl ?_ | refine Z8x rfl ?_))
    (refine Z8y ?_; (repeat (first | refine Z9v rfl ?_ | refine Z9w ?_)); refine Z9u ?_)
    refine Z8d ?_
    exact ares rfl (HSub.refl _) ⟨rfl, rfl⟩
  | true =>
  (repeat (first | refine st_q rfl rfl rfl ?_ | refine Z8v rfl (st_q rfl rfl rfl ?_) | refine Z8w rfl ?_ | refine Z8x rfl ?_))
  generalize (x.sums == y.sums) = q
  cases q with
  | false =>
    (repeat (first | refine st_q rfl rfl rfl ?_ | refine Z8v rfl (st_q rfl rfl rfl ?_) | refine Z8w rfl ?_ | refine Z8x rfl ?_))
    (refine Z8y ?_; (repeat (first | refine Z9v rfl ?_ | refine Z9w ?_)); refine Z9u ?_)
    refine Z8d ?_
    exact ares rfl (HSub.refl _) ⟨rfl, rfl⟩
  | true =>
  (repeat (first | refine st_q rfl rfl rfl ?_ | refine Z8v rfl (st_q rfl rfl rfl ?_) | refine Z8w rfl ?_ | refine Z8x rfl ?_))
  (refine Z8y ?_; (repeat (first | refine Z9v rfl ?_ | refine Z9w ?_)); refine Z9u ?_)
  refine Z8d ?_
  exact ares rfl (HSub.refl _) ⟨by simp [Z8m], rfl⟩
theorem Zzh (C : Col) (σ : Zc) : Z1q Try.prog Zct [encC C] σ fun r σ' => r = encC C ∧ σ' = σ := by
  refine Z8t rfl Zy3 (Nat.le_of_ble_eq_true rfl) ?_
  refine Z9z ?_
  refine Z9j rfl (Z0.fit_iff.1 rfl) fun b1 hb1 => ?_
  refine Z9k (by simp [Z0.cells, Z0.one]) fun b2 hb2 => ?_
  (refine Z8y ?_; (repeat (first | refine Z9v rfl ?_ | refine Z9w ?_)); refine Z9u ?_)
  refine Z8a (FSub.refl _) (HSub.swap _ _ _) ?_
  refine Zb3 (d := 1) (cs := Zys C) rfl ?_
  refine Z9z ?_
  (repeat (refine st_q rfl rfl rfl ?_))
  refine Z9a rfl Z8z rfl (by decide) (Z0.fit_iff.1 rfl) (fun h => by cases h) Z9b ?_
  (refine Z8y ?_; (repeat (first | refine Z9v rfl ?_ | refine Z9w ?_)); refine Z9u ?_)
  refine Z8d ?_
  exact ares (vs := [encC C]) (Zz2 rfl Z8z rfl) (HSub.tail _ _) ⟨rfl, rfl⟩
theorem Zzi (s : Stt) (σ : Zc) : Z1q Try.prog Zcv [encS s] σ fun r σ' => r = encS s ∧ σ' = σ := by
  refine Z8t rfl Zy4 (Nat.le_of_ble_eq_true rfl) ?_
  refine Z9z ?_
  refine Z9j rfl (Z0.fit_iff.1 rfl) fun b1 hb1 => ?_
  refine Z9k (by simp [Z0.cells, Z0.one]) fun b2 hb2 => ?_
  (refine Z8y ?_; (repeat (first | refine Z9v rfl ?_ | refine Z9w ?_)); refine Z9u ?_)
  refine Z8a (FSub.refl _) (HSub.swap _ _ _) ?_
  refine Zb3 (d := 1) (cs := Zyn s) rfl ?_
  refine Z9z ?_
  (repeat (refine st_q rfl rfl rfl ?_))
  refine Z9a rfl Z8z rfl (by decide) (Z0.fit_iff.1 rfl) (fun h => by cases h) Z9b ?_
  (refine Z8y ?_; (repeat (first | refine Z9v rfl ?_ | refine Z9w ?_)); refine Z9u ?_)
  refine Z8d ?_
  exact ares (vs := [encS s]) (Zz2 rfl Z8z rfl) (HSub.tail _ _) ⟨rfl, rfl⟩
end Go.Abs

