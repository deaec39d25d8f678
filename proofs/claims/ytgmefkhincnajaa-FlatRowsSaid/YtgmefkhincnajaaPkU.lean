/- Part U of a proof: merged by program. -/
import Derived.Test.YtgmefkhincnajaaPkT
import Derived.Test.YtgmefkhincnajaaProg
import Derived.KernelRfl
namespace Go.Abs
open Go
def Z1yp : List Z2a := [
  ⟨some 2, (.box 6), [.t 0], none⟩,
  ⟨some 4, .mov, [.c (.slc 0 [] true)], none⟩,
  ⟨some 5, .mov, [.c (.int .i64 0)], none⟩]
def Z1yq : List Z2a := [
  ⟨some 13, (.load true 6), [.t 2], none⟩,
  ⟨some 14, (.call Ze2), [.t 13], none⟩,
  ⟨some 6, .mov, [.t 14], none⟩]
def Z1yr : List Z2a := [
  ⟨some 15, .mov, [.t 6], none⟩,
  ⟨some 16, (.bin .neq), [.t 15, .c (.int .i64 0)], none⟩]
def Z1ys : List Z2a := [
  ⟨some 17, .mov, [.t 6], none⟩,
  ⟨some 4, .mov, [.c (.slc 0 [] true)], none⟩,
  ⟨some 5, .mov, [.t 17], none⟩]
def Z1yt : List Z2a := [
  ⟨some 18, .mov, [.t 1], none⟩,
  ⟨some 19, .lens, [.t 18], none⟩,
  ⟨some 20, .mov, [.c (.int .i64 0)], none⟩]
def Z1yu : List Z2a := [
  ⟨some 21, (.bin .lss), [.t 20, .t 19], none⟩]
def Z1yv : List Z2a := [
  ⟨some 22, (.iad 5), [.t 18, .t 20], none⟩,
  ⟨some 23, (.load true 5), [.t 22], none⟩,
  ⟨some 8, (.alloc (.agg [(.bool false), (.int .i64 0), (.int .i64 0), (.slc 0 [] true), (.slc 0 [] true)])), [], none⟩,
  ⟨none, (.store 5), [.t 8, .t 23], none⟩]
def Z1yw : List Z2a := [
  ⟨some 24, (.load true 6), [.t 2], none⟩,
  ⟨some 25, (.load true 5), [.t 8], none⟩,
  ⟨some 26, (.call Zet), [.t 24, .t 25], none⟩,
  ⟨some 9, .mov, [.t 26], none⟩]
def Z1yx : List Z2a := [
  ⟨some 27, .mov, [.t 9], none⟩,
  ⟨some 28, (.bin .neq), [.t 27, .c (.int .i64 0)], none⟩]
def Z1yy : List Z2a := [
  ⟨some 29, .mov, [.t 9], none⟩,
  ⟨some 4, .mov, [.c (.slc 0 [] true)], none⟩,
  ⟨some 5, .mov, [.t 29], none⟩]
def Z1yz : List Z2a := [
  ⟨some 30, (.fad 0), [.t 8], none⟩,
  ⟨some 31, (.load false 1), [.t 30], none⟩]
def Z1z0 : List Z2a := [
  ⟨some 4, .mov, [.c (.slc 0 [] true)], none⟩,
  ⟨some 5, .mov, [.c (.int .i64 1)], none⟩]
def Z1z1 : List Z2a := [
  ⟨some 32, (.bin .add), [.t 20, .c (.int .i64 1)], none⟩,
  ⟨some 20, .mov, [.t 32], none⟩]
def Z1z2 : Z2b := (.seq (.region Z1yu [1, 2, 18, 19, 20, 21]) (.seq (.cond (.t 21) .skip (.exit 0)) (.seq (.block 1 (.seq (.region Z1yv [1, 2, 8, 18, 19, 20]) (.seq (.seq (.region Z1yw [1, 2, 8, 9, 18, 19, 20]) (.seq (.region Z1yx [1, 2, 8, 9, 18, 19, 20, 28]) (.cond (.t 28) (.seq (.region Z1yy [4, 5]) .ret) .skip))) (.seq (.region Z1yz [1, 2, 18, 19, 20, 31]) (.cond (.t 31) (.seq (.region Z1z0 [4, 5]) .ret) .skip))))) (.region Z1z1 [1, 2, 18, 19, 20]))))
def Z1z3 : List Z2a := [
  ⟨some 33, (.load true 6), [.t 2], none⟩,
  ⟨some 34, (.call Zcs), [.t 33], none⟩,
  ⟨some 35, (.bld [(.slc 0 [] true), (.slc 0 [] true)] [(0, 1)]), [.t 34], none⟩,
  ⟨some 36, (.box 2), [.t 35], none⟩,
  ⟨some 10, .mov, [.t 36], none⟩]
def Z1z4 : List Z2a := [
  ⟨some 37, .mov, [.t 10], none⟩,
  ⟨some 38, .mov, [.t 10], none⟩,
  ⟨some 39, .nilc, [.t 38], none⟩,
  ⟨some 40, (.fad 0), [.t 39], none⟩,
  ⟨some 41, (.load false 1), [.t 40], none⟩,
  ⟨some 42, .lens, [.t 41], none⟩,
  ⟨some 43, (.mks 5 120 (.agg [(.slc 0 [] true), (.slc 0 [] true), (.slc 0 [] true), (.slc 0 [] true), (.slc 0 [] true)])), [.t 42, .t 42], none⟩,
  ⟨some 44, .nilc, [.t 37], none⟩,
  ⟨some 45, (.fad 1), [.t 44], none⟩,
  ⟨none, (.store 1), [.t 45, .t 43], none⟩]
def Z1z5 : List Z2a := [
  ⟨some 46, .mov, [.t 1], none⟩,
  ⟨some 47, .lens, [.t 46], none⟩,
  ⟨some 48, .mov, [.c (.int .i64 0)], none⟩]
def Z1z6 : List Z2a := [
  ⟨some 49, (.bin .lss), [.t 48, .t 47], none⟩]
def Z1z7 : List Z2a := [
  ⟨some 50, (.iad 5), [.t 46, .t 48], none⟩,
  ⟨some 51, (.load true 5), [.t 50], none⟩,
  ⟨some 12, (.alloc (.agg [(.bool false), (.int .i64 0), (.int .i64 0), (.slc 0 [] true), (.slc 0 [] true)])), [], none⟩,
  ⟨none, (.store 5), [.t 12, .t 51], none⟩]
def Z1z8 : List Z2a := [
  ⟨some 52, .mov, [.t 10], none⟩,
  ⟨some 53, (.load true 5), [.t 12], none⟩,
  ⟨some 54, (.call Zeu), [.t 52, .c (.int .i64 0), .t 53], none⟩,
  ⟨some 55, .unot, [.t 54], none⟩]
def Z1z9 : List Z2a := [
  ⟨some 4, .mov, [.c (.slc 0 [] true)], none⟩,
  ⟨some 5, .mov, [.c (.int .i64 4)], none⟩]
def Z1za : List Z2a := [
  ⟨some 56, (.bin .add), [.t 48, .c (.int .i64 1)], none⟩,
  ⟨some 48, .mov, [.t 56], none⟩]
def Z1zb : Z2b := (.seq (.region Z1z6 [10, 46, 47, 48, 49]) (.seq (.cond (.t 49) .skip (.exit 2)) (.seq (.block 3 (.seq (.region Z1z7 [10, 12, 46, 47, 48]) (.seq (.region Z1z8 [10, 46, 47, 48, 55]) (.cond (.t 55) (.seq (.region Z1z9 [4, 5]) .ret) .skip)))) (.region Z1za [10, 46, 47, 48]))))
def Z1zc : List Z2a := [
  ⟨some 57, .mov, [.t 10], none⟩,
  ⟨some 58, .nilc, [.t 57], none⟩,
  ⟨some 59, (.fad 1), [.t 58], none⟩,
  ⟨some 60, (.load false 1), [.t 59], none⟩,
  ⟨some 4, .mov, [.t 60], none⟩,
  ⟨some 5, .mov, [.c (.int .i64 0)], none⟩]
def Z1zd : Z2y := ⟨61, (.seq (.region Z1yp [1, 2]) (.seq (.seq (.region Z1yq [1, 2, 6]) (.seq (.region Z1yr [1, 2, 6, 16]) (.cond (.t 16) (.seq (.region Z1ys [4, 5]) .ret) .skip))) (.seq (.seq (.region Z1yt [1, 2, 18, 19, 20]) (.block 0 (.loop Z1z2))) (.seq (.region Z1z3 [1, 10]) (.seq (.region Z1z4 [1, 10]) (.seq (.seq (.region Z1z5 [10, 46, 47, 48]) (.block 2 (.loop Z1zb))) (.seq (.region Z1zc [4, 5]) .ret))))))), [.t 4, .t 5]⟩
def Z250 : List Z2a := [
  ⟨some 2, (.box 6), [.t 0], none⟩,
  ⟨some 4, .mov, [.c (.bool false)], none⟩]
def Z251 : List Z2a := [
  ⟨some 15, (.call Zdi), [], none⟩,
  ⟨some 16, .unot, [.t 15], none⟩]
def Z252 : List Z2a := [
  ⟨some 4, .mov, [.c (.bool false)], none⟩]
def Z253 : List Z2a := [
  ⟨some 17, (.load true 6), [.t 2], none⟩,
  ⟨some 18, .mov, [.t 1], none⟩,
  ⟨some 19, (.call Zcp), [.t 17, .t 18], none⟩,
  ⟨some 20, .unot, [.t 19], none⟩]
def Z254 : List Z2a := [
  ⟨some 4, .mov, [.c (.bool true)], none⟩]
def Z255 : List Z2a := [
  ⟨some 22, (.load true 6), [.t 2], none⟩,
  ⟨some 23, .mov, [.t 1], none⟩,
  ⟨some 24, (.call Zdj), [.t 22, .t 23], none⟩,
  ⟨some 21, .mov, [.t 24], none⟩,
  ⟨some 25, (.ext 0), [.t 21], none⟩,
  ⟨some 26, (.ext 1), [.t 21], none⟩,
  ⟨some 5, .mov, [.t 25], none⟩,
  ⟨some 6, .mov, [.t 26], none⟩]
def Z256 : List Z2a := [
  ⟨some 28, (.load true 6), [.t 2], none⟩,
  ⟨some 29, .mov, [.t 1], none⟩,
  ⟨some 30, (.call Zcq), [.t 28, .t 29], none⟩,
  ⟨some 27, .mov, [.t 30], none⟩,
  ⟨some 31, (.ext 0), [.t 27], none⟩,
  ⟨some 32, (.ext 1), [.t 27], none⟩,
  ⟨some 7, .mov, [.t 31], none⟩,
  ⟨some 8, .mov, [.t 32], none⟩]
def Z257 : List Z2a := [
  ⟨some 33, .mov, [.t 6], none⟩,
  ⟨some 34, .mov, [.t 8], none⟩,
  ⟨some 35, (.bin .neq), [.t 33, .t 34], none⟩,
  ⟨some 36, .mov, [.t 35], none⟩,
  ⟨some 37, .mov, [.t 5], some (36, false)⟩,
  ⟨some 38, .lens, [.t 37], some (36, false)⟩,
  ⟨some 39, .mov, [.t 7], some (36, false)⟩,
  ⟨some 40, .lens, [.t 39], some (36, false)⟩,
  ⟨some 41, (.bin .neq), [.t 38, .t 40], some (36, false)⟩,
  ⟨some 42, .pick, [.t 36, .c (.bool true), .t 41], none⟩]
def Z258 : List Z2a := [
  ⟨some 4, .mov, [.c (.bool false)], none⟩]
def Z259 : List Z2a := [
  ⟨some 9, .mov, [.c (.int .i64 0)], none⟩]
def Z25a : List Z2a := [
  ⟨some 43, .mov, [.t 9], none⟩,
  ⟨some 44, .mov, [.t 5], none⟩,
  ⟨some 45, .lens, [.t 44], none⟩,
  ⟨some 46, (.bin .lss), [.t 43, .t 45], none⟩]
def Z25b : List Z2a := [
  ⟨some 49, .mov, [.t 5], none⟩,
  ⟨some 50, .mov, [.t 9], none⟩,
  ⟨some 51, (.iad 5), [.t 49, .t 50], none⟩,
  ⟨some 52, (.load true 5), [.t 51], none⟩,
  ⟨some 53, .mov, [.t 7], none⟩,
  ⟨some 54, .mov, [.t 9], none⟩,
  ⟨some 55, (.iad 5), [.t 53, .t 54], none⟩,
  ⟨some 56, (.load true 5), [.t 55], none⟩,
  ⟨some 57, (.call Zdk), [.t 52, .t 56], none⟩,
  ⟨some 58, .unot, [.t 57], none⟩,
  ⟨some 59, .mov, [.t 58], none⟩,
  ⟨some 60, .mov, [.t 5], some (59, false)⟩,
  ⟨some 61, .mov, [.t 9], some (59, false)⟩,
  ⟨some 62, (.iad 5), [.t 60, .t 61], some (59, false)⟩,
  ⟨some 63, (.load true 5), [.t 62], some (59, false)⟩,
  ⟨some 64, (.callp Zdl), [.t 63], some (59, false)⟩,
  ⟨some 65, .mov, [.t 7], some (59, false)⟩,
  ⟨some 66, .mov, [.t 9], some (59, false)⟩,
  ⟨some 67, (.iad 5), [.t 65, .t 66], some (59, false)⟩,
  ⟨some 68, (.load true 5), [.t 67], some (59, false)⟩,
  ⟨some 69, (.call Zdm), [.t 68], some (59, false)⟩,
  ⟨some 70, (.binb .neq), [.t 64, .t 69], some (59, false)⟩,
  ⟨some 71, .pick, [.t 59, .c (.bool true), .t 70], none⟩]
def Z25c : List Z2a := [
  ⟨some 4, .mov, [.c (.bool false)], none⟩]
def Z25d : List Z2a := [
  ⟨some 47, .mov, [.t 9], none⟩,
  ⟨some 48, (.bin .add), [.t 47, .c (.int .i64 1)], none⟩,
  ⟨some 9, .mov, [.t 48], none⟩]
def Z25e : Z2b := (.seq (.seq (.region Z25a [1, 2, 5, 7, 8, 9, 46]) (.cond (.t 46) .skip (.exit 0))) (.seq (.block 1 (.seq (.region Z25b [1, 2, 5, 7, 8, 9, 71]) (.cond (.t 71) (.seq (.region Z25c [4]) .ret) .skip))) (.region Z25d [1, 2, 5, 7, 8, 9])))
def Z25f : List Z2a := [
  ⟨some 72, .mov, [.t 8], none⟩,
  ⟨some 73, (.bin .neq), [.t 72, .c (.int .i64 0)], none⟩]
def Z25g : List Z2a := [
  ⟨some 4, .mov, [.c (.bool true)], none⟩]
def Z25h : List Z2a := [
  ⟨some 74, (.load true 6), [.t 2], none⟩,
  ⟨some 75, (.call Zcs), [.t 74], none⟩,
  ⟨some 76, .mov, [.t 5], none⟩,
  ⟨some 77, .mov, [.t 1], none⟩,
  ⟨some 78, .lens, [.t 77], none⟩,
  ⟨some 79, (.call Zdn), [.t 75, .t 76, .t 78], none⟩,
  ⟨some 10, .mov, [.t 79], none⟩]
def Z25i : List Z2a := [
  ⟨some 80, (.load true 6), [.t 2], none⟩,
  ⟨some 81, (.call Zcr), [.t 80], none⟩,
  ⟨some 82, .mov, [.t 7], none⟩,
  ⟨some 83, .mov, [.t 1], none⟩,
  ⟨some 84, .lens, [.t 83], none⟩,
  ⟨some 85, (.call Zdo), [.t 81, .t 82, .t 84], none⟩,
  ⟨some 11, .mov, [.t 85], none⟩]
def Z25j : List Z2a := [
  ⟨some 87, (.load true 6), [.t 2], none⟩,
  ⟨some 88, .mov, [.t 5], none⟩,
  ⟨some 89, .mov, [.t 1], none⟩,
  ⟨some 90, .lens, [.t 89], none⟩,
  ⟨some 91, (.call Zdp), [.t 87, .t 88, .t 90, .c (.slc 0 [] true)], none⟩,
  ⟨some 86, .mov, [.t 91], none⟩,
  ⟨some 92, (.ext 0), [.t 86], none⟩,
  ⟨some 93, (.ext 1), [.t 86], none⟩,
  ⟨some 12, .mov, [.t 92], none⟩,
  ⟨some 13, .mov, [.t 93], none⟩]
def Z25k : List Z2a := [
  ⟨some 94, .mov, [.t 10], none⟩,
  ⟨some 95, .lens, [.t 94], none⟩,
  ⟨some 96, .mov, [.t 11], none⟩,
  ⟨some 97, .lens, [.t 96], none⟩,
  ⟨some 98, (.bin .neq), [.t 95, .t 97], none⟩,
  ⟨some 99, .mov, [.t 98], none⟩,
  ⟨some 100, .mov, [.t 13], some (99, false)⟩,
  ⟨some 101, (.bin .neq), [.t 100, .c (.int .i64 0)], some (99, false)⟩,
  ⟨some 102, .pick, [.t 99, .c (.bool true), .t 101], none⟩,
  ⟨some 103, .mov, [.t 102], none⟩,
  ⟨some 104, .mov, [.t 12], some (103, false)⟩,
  ⟨some 105, .mov, [.t 1], some (103, false)⟩,
  ⟨some 106, (.call Zdq), [.t 104, .t 105], some (103, false)⟩,
  ⟨some 107, .unot, [.t 106], some (103, false)⟩,
  ⟨some 108, .pick, [.t 103, .c (.bool true), .t 107], none⟩]
def Z25l : List Z2a := [
  ⟨some 4, .mov, [.c (.bool false)], none⟩]
def Z25m : List Z2a := [
  ⟨some 14, .mov, [.c (.int .i64 0)], none⟩]
def Z25n : List Z2a := [
  ⟨some 109, .mov, [.t 14], none⟩,
  ⟨some 110, .mov, [.t 10], none⟩,
  ⟨some 111, .lens, [.t 110], none⟩,
  ⟨some 112, (.bin .lss), [.t 109, .t 111], none⟩]
def Z25o : List Z2a := [
  ⟨some 115, .mov, [.t 10], none⟩,
  ⟨some 116, .mov, [.t 14], none⟩,
  ⟨some 117, (.iad 1), [.t 115, .t 116], none⟩,
  ⟨some 118, (.load false 1), [.t 117], none⟩,
  ⟨some 119, .mov, [.t 11], none⟩,
  ⟨some 120, .mov, [.t 14], none⟩,
  ⟨some 121, (.iad 1), [.t 119, .t 120], none⟩,
  ⟨some 122, (.load false 1), [.t 121], none⟩,
  ⟨some 123, (.bin .neq), [.t 118, .t 122], none⟩,
  ⟨some 124, .mov, [.t 123], none⟩,
  ⟨some 125, .mov, [.t 10], some (124, false)⟩,
  ⟨some 126, .mov, [.t 14], some (124, false)⟩,
  ⟨some 127, (.iad 1), [.t 125, .t 126], some (124, false)⟩,
  ⟨some 128, (.load false 1), [.t 127], some (124, false)⟩,
  ⟨some 129, .mov, [.t 5], some (124, false)⟩,
  ⟨some 130, .mov, [.t 14], some (124, false)⟩,
  ⟨some 131, (.iad 5), [.t 129, .t 130], some (124, false)⟩,
  ⟨some 132, (.fad 0), [.t 131], some (124, false)⟩,
  ⟨some 133, (.load false 1), [.t 132], some (124, false)⟩,
  ⟨some 134, .lens, [.t 133], some (124, false)⟩,
  ⟨some 135, (.bin .neq), [.t 128, .t 134], some (124, false)⟩,
  ⟨some 136, .pick, [.t 124, .c (.bool true), .t 135], none⟩]
def Z25p : List Z2a := [
  ⟨some 4, .mov, [.c (.bool false)], none⟩]
def Z25q : List Z2a := [
  ⟨some 113, .mov, [.t 14], none⟩,
  ⟨some 114, (.bin .add), [.t 113, .c (.int .i64 1)], none⟩,
  ⟨some 14, .mov, [.t 114], none⟩]
def Z25r : Z2b := (.seq (.seq (.region Z25n [5, 10, 11, 14, 112]) (.cond (.t 112) .skip (.exit 2))) (.seq (.block 3 (.seq (.region Z25o [5, 10, 11, 14, 136]) (.cond (.t 136) (.seq (.region Z25p [4]) .ret) .skip))) (.region Z25q [5, 10, 11, 14])))
def Z25s : List Z2a := [
  ⟨some 4, .mov, [.c (.bool true)], none⟩]
def Z25t : Z2y := ⟨137, (.seq (.region Z250 [1, 2]) (.seq (.seq (.region Z251 [1, 2, 16]) (.cond (.t 16) (.seq (.region Z252 [4]) .ret) .skip)) (.seq (.seq (.region Z253 [1, 2, 20]) (.cond (.t 20) (.seq (.region Z254 [4]) .ret) .skip)) (.seq (.region Z255 [1, 2, 5, 6]) (.seq (.region Z256 [1, 2, 5, 6, 7, 8]) (.seq (.seq (.region Z257 [1, 2, 5, 7, 8, 42]) (.cond (.t 42) (.seq (.region Z258 [4]) .ret) .skip)) (.seq (.seq (.region Z259 [1, 2, 5, 7, 8, 9]) (.block 0 (.loop Z25e))) (.seq (.seq (.region Z25f [1, 2, 5, 7, 73]) (.cond (.t 73) (.seq (.region Z25g [4]) .ret) .skip)) (.seq (.region Z25h [1, 2, 5, 7, 10]) (.seq (.region Z25i [1, 2, 5, 10, 11]) (.seq (.region Z25j [1, 5, 10, 11, 12, 13]) (.seq (.seq (.region Z25k [5, 10, 11, 108]) (.cond (.t 108) (.seq (.region Z25l [4]) .ret) .skip)) (.seq (.seq (.region Z25m [5, 10, 11, 14]) (.block 2 (.loop Z25r))) (.seq (.region Z25s [4]) .ret)))))))))))))), [.t 4]⟩
def Z20y : List Z2a := [
  ⟨some 0, .mov, [.c (.bool false)], none⟩]
def Z20z : List Z2a := [
  ⟨some 8, (.bsl 1), [.c (.str [97])], none⟩,
  ⟨some 9, (.bld [(.int .i64 0), (.slc 0 [] true), (.slc 0 [] true), (.int .i64 0), (.int .i64 0), (.int .i64 0)] [(0, 1)]), [.c (.int .i64 3)], none⟩,
  ⟨some 10, (.bsl 6), [.t 9], none⟩,
  ⟨some 11, (.bld [(.int .i64 0), (.slc 0 [] true), (.slc 0 [] true), (.int .i64 0), (.int .i64 0), (.int .i64 0)] [(0, 1), (2, 1)]), [.c (.int .i64 10), .t 10], none⟩,
  ⟨some 12, (.bsl 6), [.t 11], none⟩,
  ⟨some 13, (.bld [(.int .i64 0), (.slc 0 [] true), (.slc 0 [] true), (.int .i64 0), (.int .i64 0), (.int .i64 0)] [(0, 1), (1, 1), (2, 1)]), [.c (.int .i64 12), .t 8, .t 12], none⟩,
  ⟨some 1, (.alloc (.agg [(.int .i64 0), (.slc 0 [] true), (.slc 0 [] true), (.int .i64 0), (.int .i64 0), (.int .i64 0)])), [], none⟩,
  ⟨none, (.store 6), [.t 1, .t 13], none⟩]
def Z210 : List Z2a := [
  ⟨some 14, (.bld [(.bool false), (.int .i64 0), (.int .i64 0), (.slc 0 [] true), (.slc 0 [] true)] [(1, 1)]), [.c (.int .i64 1)], none⟩,
  ⟨some 15, (.bld [(.bool false), (.int .i64 0), (.int .i64 0), (.slc 0 [] true), (.slc 0 [] true)] [(0, 1)]), [.c (.bool true)], none⟩,
  ⟨some 16, (.bsl 5), [.t 14, .t 15], none⟩,
  ⟨some 17, (.bld [(.bool false), (.int .i64 0), (.int .i64 0), (.slc 0 [] true), (.slc 0 [] true)] [(4, 1)]), [.t 16], none⟩,
  ⟨some 18, (.bsl 5), [.t 17], none⟩,
  ⟨some 19, (.bld [(.bool false), (.int .i64 0), (.int .i64 0), (.slc 0 [] true), (.slc 0 [] true)] [(4, 1)]), [.t 18], none⟩,
  ⟨some 20, (.bld [(.bool false), (.int .i64 0), (.int .i64 0), (.slc 0 [] true), (.slc 0 [] true)] [(0, 1)]), [.c (.bool true)], none⟩,
  ⟨some 21, (.bsl 5), [.t 20], none⟩,
  ⟨some 22, (.bld [(.bool false), (.int .i64 0), (.int .i64 0), (.slc 0 [] true), (.slc 0 [] true)] [(4, 1)]), [.t 21], none⟩,
  ⟨some 23, (.bsl 5), [.t 19, .t 22], none⟩,
  ⟨some 2, .mov, [.t 23], none⟩]
def Z211 : List Z2a := [
  ⟨some 25, (.load true 6), [.t 1], none⟩,
  ⟨some 26, .mov, [.t 2], none⟩,
  ⟨some 27, (.call Zdj), [.t 25, .t 26], none⟩,
  ⟨some 24, .mov, [.t 27], none⟩,
  ⟨some 28, (.ext 0), [.t 24], none⟩,
  ⟨some 29, (.ext 1), [.t 24], none⟩,
  ⟨some 3, .mov, [.t 28], none⟩,
  ⟨some 4, .mov, [.t 29], none⟩]
def Z212 : List Z2a := [
  ⟨some 30, .mov, [.t 4], none⟩,
  ⟨some 31, (.bin .neq), [.t 30, .c (.int .i64 0)], none⟩,
  ⟨some 32, .mov, [.t 31], none⟩,
  ⟨some 33, .mov, [.t 3], some (32, false)⟩,
  ⟨some 34, .lens, [.t 33], some (32, false)⟩,
  ⟨some 35, (.bin .neq), [.t 34, .c (.int .i64 3)], some (32, false)⟩,
  ⟨some 36, .pick, [.t 32, .c (.bool true), .t 35], none⟩]
def Z213 : List Z2a := [
  ⟨some 0, .mov, [.c (.bool false)], none⟩]
def Z214 : List Z2a := [
  ⟨some 38, (.load true 6), [.t 1], none⟩,
  ⟨some 39, .mov, [.t 3], none⟩,
  ⟨some 40, (.call Zdp), [.t 38, .t 39, .c (.int .i64 2), .c (.slc 0 [] true)], none⟩,
  ⟨some 37, .mov, [.t 40], none⟩,
  ⟨some 41, (.ext 0), [.t 37], none⟩,
  ⟨some 42, (.ext 1), [.t 37], none⟩,
  ⟨some 5, .mov, [.t 41], none⟩,
  ⟨some 6, .mov, [.t 42], none⟩]
def Z215 : List Z2a := [
  ⟨some 43, (.load true 6), [.t 1], none⟩,
  ⟨some 44, (.call Zcs), [.t 43], none⟩,
  ⟨some 45, .mov, [.t 3], none⟩,
  ⟨some 46, (.call Zdn), [.t 44, .t 45, .c (.int .i64 2)], none⟩,
  ⟨some 7, .mov, [.t 46], none⟩]
def Z216 : List Z2a := [
  ⟨some 47, .mov, [.t 6], none⟩,
  ⟨some 48, (.bin .eql), [.t 47, .c (.int .i64 0)], none⟩,
  ⟨some 49, .mov, [.t 48], none⟩,
  ⟨some 50, .mov, [.t 5], some (49, true)⟩,
  ⟨some 51, .lens, [.t 50], some (49, true)⟩,
  ⟨some 52, (.bin .eql), [.t 51, .c (.int .i64 2)], some (49, true)⟩,
  ⟨some 53, .pick, [.t 49, .t 52, .c (.bool false)], none⟩,
  ⟨some 54, .mov, [.t 53], none⟩,
  ⟨some 55, .mov, [.t 5], some (54, true)⟩,
  ⟨some 56, (.iad 5), [.t 55, .c (.int .i64 0)], some (54, true)⟩,
  ⟨some 57, (.load true 5), [.t 56], some (54, true)⟩,
  ⟨some 58, .mov, [.t 2], some (54, true)⟩,
  ⟨some 59, (.iad 5), [.t 58, .c (.int .i64 0)], some (54, true)⟩,
  ⟨some 60, (.load true 5), [.t 59], some (54, true)⟩,
  ⟨some 61, (.call Zd2), [.t 57, .t 60], some (54, true)⟩,
  ⟨some 62, .pick, [.t 54, .t 61, .c (.bool false)], none⟩,
  ⟨some 63, .mov, [.t 62], none⟩,
  ⟨some 64, .mov, [.t 5], some (63, true)⟩,
  ⟨some 65, (.iad 5), [.t 64, .c (.int .i64 1)], some (63, true)⟩,
  ⟨some 66, (.load true 5), [.t 65], some (63, true)⟩,
  ⟨some 67, .mov, [.t 2], some (63, true)⟩,
  ⟨some 68, (.iad 5), [.t 67, .c (.int .i64 1)], some (63, true)⟩,
  ⟨some 69, (.load true 5), [.t 68], some (63, true)⟩,
  ⟨some 70, (.call Zd2), [.t 66, .t 69], some (63, true)⟩,
  ⟨some 71, .pick, [.t 63, .t 70, .c (.bool false)], none⟩,
  ⟨some 72, .mov, [.t 71], none⟩,
  ⟨some 73, .mov, [.t 7], some (72, true)⟩,
  ⟨some 74, .lens, [.t 73], some (72, true)⟩,
  ⟨some 75, (.bin .eql), [.t 74, .c (.int .i64 3)], some (72, true)⟩,
  ⟨some 76, .pick, [.t 72, .t 75, .c (.bool false)], none⟩,
  ⟨some 77, .mov, [.t 76], none⟩,
  ⟨some 78, .mov, [.t 7], some (77, true)⟩,
  ⟨some 79, (.iad 1), [.t 78, .c (.int .i64 2)], some (77, true)⟩,
  ⟨some 80, (.load false 1), [.t 79], some (77, true)⟩,
  ⟨some 81, (.bin .eql), [.t 80, .c (.int .i64 2)], some (77, true)⟩,
  ⟨some 82, .pick, [.t 77, .t 81, .c (.bool false)], none⟩,
  ⟨some 83, .mov, [.t 82], none⟩,
  ⟨some 84, .mov, [.t 3], some (83, true)⟩,
  ⟨some 85, (.iad 5), [.t 84, .c (.int .i64 1)], some (83, true)⟩,
  ⟨some 86, (.load true 5), [.t 85], some (83, true)⟩,
  ⟨some 87, (.call Zdl), [.t 86], some (83, true)⟩,
  ⟨some 88, .pick, [.t 83, .t 87, .c (.bool false)], none⟩,
  ⟨some 89, .mov, [.t 88], none⟩,
  ⟨some 90, .mov, [.t 3], some (89, true)⟩,
  ⟨some 91, (.iad 5), [.t 90, .c (.int .i64 0)], some (89, true)⟩,
  ⟨some 92, (.load true 5), [.t 91], some (89, true)⟩,
  ⟨some 93, (.call Zdl), [.t 92], some (89, true)⟩,
  ⟨some 94, .unot, [.t 93], some (89, true)⟩,
  ⟨some 95, .pick, [.t 89, .t 94, .c (.bool false)], none⟩,
  ⟨some 96, .mov, [.t 95], none⟩,
  ⟨some 97, .mov, [.t 3], some (96, true)⟩,
  ⟨some 98, (.iad 5), [.t 97, .c (.int .i64 2)], some (96, true)⟩,
  ⟨some 99, (.fad 1), [.t 98], some (96, true)⟩,
  ⟨some 100, (.load false 1), [.t 99], some (96, true)⟩,
  ⟨some 101, .lens, [.t 100], some (96, true)⟩,
  ⟨some 102, (.bin .eql), [.t 101, .c (.int .i64 1)], some (96, true)⟩,
  ⟨some 103, .pick, [.t 96, .t 102, .c (.bool false)], none⟩,
  ⟨some 0, .mov, [.t 103], none⟩]
def Z217 : Z2y := ⟨104, (.seq (.region Z20y []) (.seq (.region Z20z [1]) (.seq (.region Z210 [1, 2]) (.seq (.region Z211 [1, 2, 3, 4]) (.seq (.seq (.region Z212 [1, 2, 3, 36]) (.cond (.t 36) (.seq (.region Z213 [0]) .ret) .skip)) (.seq (.region Z214 [1, 2, 3, 5, 6]) (.seq (.region Z215 [2, 3, 5, 6, 7]) (.seq (.region Z216 [0]) .ret)))))))), [.t 0]⟩
def Z25u : List Z2a := [
  ⟨some 2, (.box 5), [.t 0], none⟩,
  ⟨some 3, (.box 5), [.t 1], none⟩,
  ⟨some 4, .mov, [.c (.bool false)], none⟩]
def Z25v : List Z2a := [
  ⟨some 8, (.fad 0), [.t 2], none⟩,
  ⟨some 9, (.load false 1), [.t 8], none⟩,
  ⟨some 10, .lens, [.t 9], none⟩,
  ⟨some 11, (.fad 0), [.t 3], none⟩,
  ⟨some 12, (.load false 1), [.t 11], none⟩,
  ⟨some 13, .lens, [.t 12], none⟩,
  ⟨some 14, (.bin .neq), [.t 10, .t 13], none⟩,
  ⟨some 15, .mov, [.t 14], none⟩,
  ⟨some 16, (.fad 2), [.t 2], some (15, false)⟩,
  ⟨some 17, (.load false 1), [.t 16], some (15, false)⟩,
  ⟨some 18, .lens, [.t 17], some (15, false)⟩,
  ⟨some 19, (.fad 2), [.t 3], some (15, false)⟩,
  ⟨some 20, (.load false 1), [.t 19], some (15, false)⟩,
  ⟨some 21, .lens, [.t 20], some (15, false)⟩,
  ⟨some 22, (.bin .neq), [.t 18, .t 21], some (15, false)⟩,
  ⟨some 23, .pick, [.t 15, .c (.bool true), .t 22], none⟩,
  ⟨some 24, .mov, [.t 23], none⟩,
  ⟨some 25, (.fad 3), [.t 2], some (24, false)⟩,
  ⟨some 26, (.load false 1), [.t 25], some (24, false)⟩,
  ⟨some 27, .lens, [.t 26], some (24, false)⟩,
  ⟨some 28, (.fad 3), [.t 3], some (24, false)⟩,
  ⟨some 29, (.load false 1), [.t 28], some (24, false)⟩,
  ⟨some 30, .lens, [.t 29], some (24, false)⟩,
  ⟨some 31, (.bin .neq), [.t 27, .t 30], some (24, false)⟩,
  ⟨some 32, .pick, [.t 24, .c (.bool true), .t 31], none⟩,
  ⟨some 33, .mov, [.t 32], none⟩,
  ⟨some 34, (.fad 1), [.t 2], some (33, false)⟩,
  ⟨some 35, (.load false 1), [.t 34], some (33, false)⟩,
  ⟨some 36, (.fad 1), [.t 3], some (33, false)⟩,
  ⟨some 37, (.load false 1), [.t 36], some (33, false)⟩,
  ⟨some 38, (.call Zev), [.t 35, .t 37], some (33, false)⟩,
  ⟨some 39, .unot, [.t 38], some (33, false)⟩,
  ⟨some 40, .pick, [.t 33, .c (.bool true), .t 39], none⟩,
  ⟨some 41, .mov, [.t 40], none⟩,
  ⟨some 42, (.fad 4), [.t 2], some (41, false)⟩,
  ⟨some 43, (.load false 1), [.t 42], some (41, false)⟩,
  ⟨some 44, (.fad 4), [.t 3], some (41, false)⟩,
  ⟨some 45, (.load false 1), [.t 44], some (41, false)⟩,
  ⟨some 46, (.call Zev), [.t 43, .t 45], some (41, false)⟩,
  ⟨some 47, .unot, [.t 46], some (41, false)⟩,
  ⟨some 48, .pick, [.t 41, .c (.bool true), .t 47], none⟩]
def Z25w : List Z2a := [
  ⟨some 4, .mov, [.c (.bool false)], none⟩]
def Z25x : List Z2a := [
  ⟨some 5, .mov, [.c (.int .i64 0)], none⟩]
def Z25y : List Z2a := [
  ⟨some 49, .mov, [.t 5], none⟩,
  ⟨some 50, (.fad 0), [.t 2], none⟩,
  ⟨some 51, (.load false 1), [.t 50], none⟩,
  ⟨some 52, .lens, [.t 51], none⟩,
  ⟨some 53, (.bin .lss), [.t 49, .t 52], none⟩]
def Z25z : List Z2a := [
  ⟨some 56, (.fad 0), [.t 2], none⟩,
  ⟨some 57, (.load false 1), [.t 56], none⟩,
  ⟨some 58, .mov, [.t 5], none⟩,
  ⟨some 59, (.iad 1), [.t 57, .t 58], none⟩,
  ⟨some 60, (.load false 1), [.t 59], none⟩,
  ⟨some 61, (.fad 0), [.t 3], none⟩,
  ⟨some 62, (.load false 1), [.t 61], none⟩,
  ⟨some 63, .mov, [.t 5], none⟩,
  ⟨some 64, (.iad 1), [.t 62, .t 63], none⟩,
  ⟨some 65, (.load false 1), [.t 64], none⟩,
  ⟨some 66, (.binb .neq), [.t 60, .t 65], none⟩]
def Z260 : List Z2a := [
  ⟨some 4, .mov, [.c (.bool false)], none⟩]
def Z261 : List Z2a := [
  ⟨some 54, .mov, [.t 5], none⟩,
  ⟨some 55, (.bin .add), [.t 54, .c (.int .i64 1)], none⟩,
  ⟨some 5, .mov, [.t 55], none⟩]
def Z262 : Z2b := (.seq (.seq (.region Z25y [2, 3, 5, 53]) (.cond (.t 53) .skip (.exit 0))) (.seq (.block 1 (.seq (.region Z25z [2, 3, 5, 66]) (.cond (.t 66) (.seq (.region Z260 [4]) .ret) .skip))) (.region Z261 [2, 3, 5])))
def Z263 : List Z2a := [
  ⟨some 6, .mov, [.c (.int .i64 0)], none⟩]
def Z264 : List Z2a := [
  ⟨some 67, .mov, [.t 6], none⟩,
  ⟨some 68, (.fad 2), [.t 2], none⟩,
  ⟨some 69, (.load false 1), [.t 68], none⟩,
  ⟨some 70, .lens, [.t 69], none⟩,
  ⟨some 71, (.bin .lss), [.t 67, .t 70], none⟩]
def Z265 : List Z2a := [
  ⟨some 74, (.fad 2), [.t 2], none⟩,
  ⟨some 75, (.load false 1), [.t 74], none⟩,
  ⟨some 76, .mov, [.t 6], none⟩,
  ⟨some 77, (.iad 1), [.t 75, .t 76], none⟩,
  ⟨some 78, (.load false 1), [.t 77], none⟩,
  ⟨some 79, (.fad 2), [.t 3], none⟩,
  ⟨some 80, (.load false 1), [.t 79], none⟩,
  ⟨some 81, .mov, [.t 6], none⟩,
  ⟨some 82, (.iad 1), [.t 80, .t 81], none⟩,
  ⟨some 83, (.load false 1), [.t 82], none⟩,
  ⟨some 84, (.bin .neq), [.t 78, .t 83], none⟩]
def Z266 : List Z2a := [
  ⟨some 4, .mov, [.c (.bool false)], none⟩]
def Z267 : List Z2a := [
  ⟨some 72, .mov, [.t 6], none⟩,
  ⟨some 73, (.bin .add), [.t 72, .c (.int .i64 1)], none⟩,
  ⟨some 6, .mov, [.t 73], none⟩]
def Z268 : Z2b := (.seq (.seq (.region Z264 [2, 3, 6, 71]) (.cond (.t 71) .skip (.exit 2))) (.seq (.block 3 (.seq (.region Z265 [2, 3, 6, 84]) (.cond (.t 84) (.seq (.region Z266 [4]) .ret) .skip))) (.region Z267 [2, 3, 6])))
def Z269 : List Z2a := [
  ⟨some 7, .mov, [.c (.int .i64 0)], none⟩]
def Z26a : List Z2a := [
  ⟨some 85, .mov, [.t 7], none⟩,
  ⟨some 86, (.fad 3), [.t 2], none⟩,
  ⟨some 87, (.load false 1), [.t 86], none⟩,
  ⟨some 88, .lens, [.t 87], none⟩,
  ⟨some 89, (.bin .lss), [.t 85, .t 88], none⟩]
def Z26b : List Z2a := [
  ⟨some 92, (.fad 3), [.t 2], none⟩,
  ⟨some 93, (.load false 1), [.t 92], none⟩,
  ⟨some 94, .mov, [.t 7], none⟩,
  ⟨some 95, (.iad 1), [.t 93, .t 94], none⟩,
  ⟨some 96, (.load false 1), [.t 95], none⟩,
  ⟨some 97, .b2s, [.t 96], none⟩,
  ⟨some 98, (.fad 3), [.t 3], none⟩,
  ⟨some 99, (.load false 1), [.t 98], none⟩,
  ⟨some 100, .mov, [.t 7], none⟩,
  ⟨some 101, (.iad 1), [.t 99, .t 100], none⟩,
  ⟨some 102, (.load false 1), [.t 101], none⟩,
  ⟨some 103, .b2s, [.t 102], none⟩,
  ⟨some 104, (.bin .neq), [.t 97, .t 103], none⟩]
def Z26c : List Z2a := [
  ⟨some 4, .mov, [.c (.bool false)], none⟩]
def Z26d : List Z2a := [
  ⟨some 90, .mov, [.t 7], none⟩,
  ⟨some 91, (.bin .add), [.t 90, .c (.int .i64 1)], none⟩,
  ⟨some 7, .mov, [.t 91], none⟩]
def Z26e : Z2b := (.seq (.seq (.region Z26a [2, 3, 7, 89]) (.cond (.t 89) .skip (.exit 4))) (.seq (.block 5 (.seq (.region Z26b [2, 3, 7, 104]) (.cond (.t 104) (.seq (.region Z26c [4]) .ret) .skip))) (.region Z26d [2, 3, 7])))
def Z26f : List Z2a := [
  ⟨some 4, .mov, [.c (.bool true)], none⟩]
def Z26g : Z2y := ⟨105, (.seq (.region Z25u [2, 3]) (.seq (.seq (.region Z25v [2, 3, 48]) (.cond (.t 48) (.seq (.region Z25w [4]) .ret) .skip)) (.seq (.seq (.region Z25x [2, 3, 5]) (.block 0 (.loop Z262))) (.seq (.seq (.region Z263 [2, 3, 6]) (.block 2 (.loop Z268))) (.seq (.seq (.region Z269 [2, 3, 7]) (.block 4 (.loop Z26e))) (.seq (.region Z26f [4]) .ret)))))), [.t 4]⟩
def Z26h : List Z2a := [
  ⟨some 4, .mov, [.c (.bool false)], none⟩]
def Z26i : List Z2a := [
  ⟨some 6, .mov, [.t 0], none⟩,
  ⟨some 7, .lens, [.t 6], none⟩,
  ⟨some 8, .mov, [.t 1], none⟩,
  ⟨some 9, .lens, [.t 8], none⟩,
  ⟨some 10, (.bin .neq), [.t 7, .t 9], none⟩]
def Z26j : List Z2a := [
  ⟨some 4, .mov, [.c (.bool false)], none⟩]
def Z26k : List Z2a := [
  ⟨some 5, .mov, [.c (.int .i64 0)], none⟩]
def Z26l : List Z2a := [
  ⟨some 11, .mov, [.t 5], none⟩,
  ⟨some 12, .mov, [.t 0], none⟩,
  ⟨some 13, .lens, [.t 12], none⟩,
  ⟨some 14, (.bin .lss), [.t 11, .t 13], none⟩]
def Z26m : List Z2a := [
  ⟨some 17, .mov, [.t 0], none⟩,
  ⟨some 18, .mov, [.t 5], none⟩,
  ⟨some 19, (.iad 1), [.t 17, .t 18], none⟩,
  ⟨some 20, (.load false 1), [.t 19], none⟩,
  ⟨some 21, .mov, [.t 1], none⟩,
  ⟨some 22, .mov, [.t 5], none⟩,
  ⟨some 23, (.iad 1), [.t 21, .t 22], none⟩,
  ⟨some 24, (.load false 1), [.t 23], none⟩,
  ⟨some 25, (.bin .neq), [.t 20, .t 24], none⟩]
def Z26n : List Z2a := [
  ⟨some 4, .mov, [.c (.bool false)], none⟩]
def Z26o : List Z2a := [
  ⟨some 15, .mov, [.t 5], none⟩,
  ⟨some 16, (.bin .add), [.t 15, .c (.int .i64 1)], none⟩,
  ⟨some 5, .mov, [.t 16], none⟩]
def Z26p : Z2b := (.seq (.seq (.region Z26l [0, 1, 5, 14]) (.cond (.t 14) .skip (.exit 0))) (.seq (.block 1 (.seq (.region Z26m [0, 1, 5, 25]) (.cond (.t 25) (.seq (.region Z26n [4]) .ret) .skip))) (.region Z26o [0, 1, 5])))
def Z26q : List Z2a := [
  ⟨some 4, .mov, [.c (.bool true)], none⟩]
def Z26r : Z2y := ⟨26, (.seq (.region Z26h [0, 1]) (.seq (.seq (.region Z26i [0, 1, 10]) (.cond (.t 10) (.seq (.region Z26j [4]) .ret) .skip)) (.seq (.seq (.region Z26k [0, 1, 5]) (.block 0 (.loop Z26p))) (.seq (.region Z26q [4]) .ret)))), [.t 4]⟩
end Go.Abs
namespace Go.Abs
open Go Go.Proofs
theorem Z218 : Z2z Try.prog [] Zdj = some Z1zd.erase := by kernel_rfl
theorem Z26s : Z2z Try.prog [(12, 15)] Zch = some Z25t.erase := by kernel_rfl
theorem Z21b : Z2z Try.prog [] Zdi = some Z217.erase := by kernel_rfl
theorem Z26t : Z2z Try.prog [] Zdk = some Z26g.erase := by kernel_rfl
theorem Z26u : Z2z Try.prog [] Zev = some Z26r.erase := by kernel_rfl
end Go.Abs
namespace Go.Abs
open Go Go.Proofs
set_option linter.unusedVariables false
set_option linter.unusedSimpArgs false
set_option maxHeartbeats 4000000
attribute [local irreducible] AWp aops KP
theorem Z21j (t : Ty) (ht : t.Fit) (rows : List Vl) (hr : ∀ v ∈ rows, v.Fit) (hl : rows.length ≤ 140737488355328) (σ : Zc) :
    Z1q Try.prog Zdj [encT t, .slc 5 (Zm5 rows) false] σ fun r σ' => r = .tup [.slc 5 ((Z1i6 t rows).1.map encC) false, .int .i64 ((Z1i6 t rows).2 : Int)] ∧ σ' = σ := by
  have hcT := Zn1 t ht
  have hfl := Znk t ht
  have hrl := Zm9 rows
  generalize hX : Z1i6 t rows = X
  rw [Zlp] at hcT hfl ⊢
  refine Z8t rfl Z218 (Nat.le_of_ble_eq_true rfl) ?_
  refine Z9z ?_
  refine Z9j rfl (Kfi rfl) fun b2 hb2 => ?_
  (repeat (refine st_q rfl rfl rfl ?_))
  (refine Z8y ?_; (repeat (first | refine Z9v rfl ?_ | refine Z9w ?_)); refine Z9u ?_)
  refine Zb3 (d := 2) (cs := Zlo t) rfl ?_
  (repeat (first | refine st_q rfl rfl rfl ?_ | refine awp_seq ?_ | refine Zbm (fun _ _ => rfl) ?_))
  refine Z9t rfl (hcT _) ?_
  by_cases h0 : Zlx t = 0
  rotate_left
  · rw [Z1i6, if_pos h0] at hX
    subst hX
    (repeat (first | refine st_q rfl rfl rfl ?_ | (refine Z8y ?_; (repeat (first | refine Z9v rfl ?_ | refine Z9w ?_)); refine Z9u ?_) | refine awp_seq ?_ | refine Zbm (fun _ _ => rfl) ?_))
    (rw [decide_eq_true (p := (Zlx t : Int) ≠ 0) (by omega)])
    (repeat (first | refine st_q rfl rfl rfl ?_ | (refine Z8y ?_; (repeat (first | refine Z9v rfl ?_ | refine Z9w ?_)); refine Z9u ?_) | refine awp_seq ?_ | refine Zbm (fun _ _ => rfl) ?_ | refine Kc1 rfl ?_))
    refine Z8d ?_
    exact Zau rfl (VRle.tup (VRle.cons (VRle.nilF _ _) (VRle.refl _))) (HSub.refl _) ⟨rfl, rfl⟩
  have hTok : t.Ok := Ztu t _ _ h0
  rw [Z1i6, if_neg (by omega)] at hX
  (repeat (first | refine st_q rfl rfl rfl ?_ | (refine Z8y ?_; (repeat (first | refine Z9v rfl ?_ | refine Z9w ?_)); refine Z9u ?_) | refine awp_seq ?_ | refine Zbm (fun _ _ => rfl) ?_))
  (rw [decide_eq_false (p := (Zlx t : Int) ≠ 0) (by omega)])
  (repeat (first | refine st_q rfl rfl rfl ?_ | (refine Z8y ?_; (repeat (first | refine Z9v rfl ?_ | refine Z9w ?_)); refine Z9u ?_) | refine awp_seq ?_ | refine Zbm (fun _ _ => rfl) ?_ | refine Z8h ?_ | refine Zbn (fun _ _ => rfl) ?_ | refine Kc2 rfl ?_))
  rw [hrl]
  refine Zaa (fun m F σ' => ∃ (j : Nat), F = fset 1 (some (.slc 5 (Zm5 rows) false)) (fset 2 (some (.iptr (Zlo t))) (fset 18 (some (.slc 5 (Zm5 rows) false)) (fset 19 (some (.int .i64 (rows.length : Nat))) (fset 20 (some (.int .i64 (j : Int))) Z27)))) ∧
    σ = σ' ∧ j ≤ rows.length ∧ rowsE t (rows.drop j) = rowsE t rows ∧ m = rows.length - j) (n := rows.length) ⟨0, rfl, rfl, by omega, rfl, rfl⟩ ?_
  rintro m F σ' ⟨j, rfl, rfl, hj, hE, rfl⟩
  (repeat (first | refine st_q rfl rfl rfl ?_ | (refine Z8y ?_; (repeat (first | refine Z9v rfl ?_ | refine Z9w ?_)); refine Z9u ?_) | refine awp_seq ?_ | refine Zbm (fun _ _ => rfl) ?_))
  refine Za3 (p := (j : Int) < (rows.length : Nat)) rfl (fun h5 => ?_) (fun h5 => ?_)
  · have hjl : j < rows.length := by omega
    have hxv : (Zm5 rows)[((j : Nat) : Int).toNat]? = some (encV rows[j]) := Zma (by rw [Int.toNat_natCast, List.getElem?_eq_getElem hjl])
    have hcv := Z138 rows[j] (hr _ (List.getElem_mem hjl)) t hTok
    rw [Z1i7 t hjl, rowE] at hE
    generalize rows[j] = v at hxv hcv hE
    rw [Zm7] at hxv
    simp only [Zm7, Zlp] at hcv
    (repeat (first | refine awp_seq ?_ | refine Zbm (fun _ _ => rfl) ?_ | refine Z8h ?_ | refine Zbn (fun _ _ => rfl) ?_))
    refine Z93 rfl (by omega) hxv ?_
    (repeat (refine st_q rfl rfl rfl ?_))
    refine Z9k (by simp [Z0.cells, Z0.one]) fun b8 hb8 => ?_
    (first | refine Z9a rfl Z8z rfl (by decide) (Kfi rfl) (fun h => by cases h) Z9b ?_ | refine Z8v rfl (Z9a rfl Z8z rfl (by decide) (Kfi rfl) (fun h => by cases h) Z9b ?_))
    (refine Z8y ?_; (repeat (first | refine Z9v rfl ?_ | refine Z9w ?_)); refine Z9u ?_)
    refine Zb3 (d := 8) (cs := Zm6 v) rfl ?_
    (refine Z9y (keep := [1, 2, 8, 18, 19, 20]) ?_; ((repeat (first | refine Z9v rfl ?_ | refine Z9w ?_)); refine Z9u ?_))
    (repeat (first | refine st_q rfl rfl rfl ?_ | refine awp_seq ?_ | refine Zbm (fun _ _ => rfl) ?_))
    refine Z9t rfl (hcv _) ?_
    generalize vchk t v = x at hE
    by_cases hx : x = 0
    · subst hx
      (repeat (first | refine st_q rfl rfl rfl ?_ | (refine Z8y ?_; (repeat (first | refine Z9v rfl ?_ | refine Z9w ?_)); refine Z9u ?_) | refine awp_seq ?_ | refine Zbm (fun _ _ => rfl) ?_ | refine Zbn (fun _ _ => rfl) ?_ | refine Kc2 rfl ?_))
      cases hn : v.null with
      | true =>
        rw [hn] at hE
        simp at hE
        rw [← hE, if_pos (by decide)] at hX
        subst hX
        (repeat (first | refine st_q rfl rfl rfl ?_ | (refine Z8y ?_; (repeat (first | refine Z9v rfl ?_ | refine Z9w ?_)); refine Z9u ?_) | refine awp_seq ?_ | refine Zbm (fun _ _ => rfl) ?_ | refine Kc1 rfl ?_))
        refine Z8d ?_
        exact Zau rfl (VRle.tup (VRle.cons (VRle.nilF _ _) (VRle.refl _))) (HSub.refl _) ⟨rfl, rfl⟩
      | false =>
        rw [hn] at hE
        simp at hE
        (repeat (first | refine Zbn (fun _ _ => rfl) ?_ | refine Kc2 rfl ?_))
        refine Zbp ?_
        (repeat (refine st_q rfl rfl rfl ?_))
        rw [show IntKind.wrap .i64 ((j : Int) + 1) = ((j + 1 : Nat) : Int) by rw [w64 _ (by omega) (by omega)]; omega]
        (refine Z8y ?_; (repeat (first | refine Z9v rfl ?_ | refine Z9w ?_)); refine Z9u ?_)
        exact ⟨_, rows.length - (j + 1), HSub.refl _, ⟨j + 1, rfl, rfl, by omega, hE, rfl⟩, by omega⟩
    · have hx2 : ¬ (x = 0 ∧ v.null = true) := fun h => hx h.1
      rw [if_neg hx2, if_pos hx] at hE
      rw [← hE, if_pos hx] at hX
      subst hX
      (repeat (first | refine st_q rfl rfl rfl ?_ | (refine Z8y ?_; (repeat (first | refine Z9v rfl ?_ | refine Z9w ?_)); refine Z9u ?_) | refine awp_seq ?_ | refine Zbm (fun _ _ => rfl) ?_))
      (rw [decide_eq_true (p := ((x : Nat) : Int) ≠ 0) (by omega)])
      (repeat (first | refine st_q rfl rfl rfl ?_ | (refine Z8y ?_; (repeat (first | refine Z9v rfl ?_ | refine Z9w ?_)); refine Z9u ?_) | refine awp_seq ?_ | refine Zbm (fun _ _ => rfl) ?_ | refine Kc1 rfl ?_))
      refine Z8d ?_
      exact Zau rfl (VRle.tup (VRle.cons (VRle.nilF _ _) (VRle.refl _))) (HSub.refl _) ⟨rfl, rfl⟩
  rw [List.drop_of_length_le (by omega), rowsE] at hE
  rw [if_neg (by omega)] at hX
  have hok := Z1i8 hE.symm
  have hat := Zym t h0
  have hn100 : (Zm4 t).length ≤ 100 := by
    rw [Zm4, if_pos h0, Zm1]
    have := (Znd t _ _ h0).2.2
    omega
  generalize Zm4 t = l at *
  have hll : (l.map encN).length = l.length := List.length_map ..
  (repeat (first | refine st_q rfl rfl rfl ?_ | refine awp_seq ?_ | refine Zbm (fun _ _ => rfl) ?_ | refine Zbo (fun _ _ => rfl) ?_))
  refine Z9t rfl (hfl _) ?_
  (repeat (refine st_q rfl rfl rfl ?_))
  refine Z9j rfl (Kfi rfl) fun bw hbw => ?_
  (repeat (refine st_q rfl rfl rfl ?_))
  (refine Z8y ?_; (repeat (first | refine Z9v rfl ?_ | refine Z9w ?_)); refine Z9u ?_)
  refine Z9z ?_
  (repeat (refine st_q rfl rfl rfl ?_))
  refine Z92 rfl Z8z rfl rfl ?_
  (repeat (refine st_q rfl rfl rfl ?_))
  rw [hll]
  refine Z9l rfl (Kfi rfl) (by omega) (by omega) (by omega) (by omega) fun b hb => ?_
  rw [Int.toNat_natCast]
  have hne : b ≠ bw := fun e => hb (by rw [e]; simp [Zh])
  (repeat (refine st_q rfl rfl rfl ?_))
  refine Z9a rfl (Z90 hne Z8z) rfl (by decide) (Kfi rfl) (fun h => by cases h) (Z9c hne Z9b) ?_
  (refine Z8y ?_; (repeat (first | refine Z9v rfl ?_ | refine Z9w ?_)); refine Z9u ?_)
  refine Z8a (FSub.refl _) (HSub.swap _ _ _) ?_
  refine Zb3 (d := 10) (cs := [.slc 8 (l.map encN) true, .arr 5 b 0 l.length]) rfl ?_
  (refine Z9y (keep := [1, 10]) ?_; ((repeat (first | refine Z9v rfl ?_ | refine Z9w ?_)); refine Z9u ?_))
  (repeat (first | refine st_q rfl rfl rfl ?_ | (refine Z8y ?_; (repeat (first | refine Z9v rfl ?_ | refine Z9w ?_)); refine Z9u ?_) | refine awp_seq ?_ | refine Zbm (fun _ _ => rfl) ?_ | refine Z8h ?_))
  rw [hrl]
  generalize hY : Z1i5 l rows (List.replicate l.length col0) = Y at hX
  have hz : ∀ x ∈ List.replicate l.length col0, x.Sm := fun x hx => by
    rw [List.eq_of_mem_replicate hx]
    exact ⟨by simp [col0], by simp [col0], by simp [col0], by simp [col0], by simp [col0]⟩
  refine Zaa (fun m F σ' => ∃ (j : Nat) (ws : List Z0) (cs : List Col) (β : Zc), F = fset 10 (some (.iptr [.slc 8 (l.map encN) true, .arr 5 b 0 l.length])) (fset 46 (some (.slc 5 (Zm5 rows) false)) (fset 47 (some (.int .i64 (rows.length : Nat))) (fset 48 (some (.int .i64 (j : Int))) Z27))) ∧
    (b, Zb.cells 5 ws) :: (β ++ σ) = σ' ∧ Zy9 ws cs β ∧ cs.length = l.length ∧ (∀ x ∈ cs, x.Sm) ∧ j ≤ rows.length ∧ Z1i5 l (rows.drop j) cs = Y ∧ m = rows.length - j) (n := rows.length)
    ⟨0, _, _, [], rfl, rfl, Zy9.nil l.length, List.length_replicate, hz, by omega, hY, rfl⟩ ?_
  rintro m F σ' ⟨j, ws, cs, β, rfl, rfl, hG, hcl, hS, hj, hYj, rfl⟩
  (repeat (first | refine st_q rfl rfl rfl ?_ | (refine Z8y ?_; (repeat (first | refine Z9v rfl ?_ | refine Z9w ?_)); refine Z9u ?_) | refine awp_seq ?_ | refine Zbm (fun _ _ => rfl) ?_))
  refine Za3 (p := (j : Int) < (rows.length : Int)) rfl (fun h5 => ?_) (fun h5 => ?_)
  · have hjl : j < rows.length := by omega
    have hm := List.getElem_mem hjl
    have hxv : (Zm5 rows)[((j : Nat) : Int).toNat]? = some (encV rows[j]) := Zma (by rw [Int.toNat_natCast, List.getElem?_eq_getElem hjl])
    have hput := Z21i l rows[j] (hr _ hm) t 0 hat hTok (hok _ hm).1 ws cs β b σ hG hcl (by omega) hS
    rw [List.drop_eq_getElem_cons hjl, Z1i5] at hYj
    generalize rows[j] = v at hxv hput hYj
    rw [Zm7] at hxv
    rw [Zm7, hcl] at hput
    (repeat (first | refine awp_seq ?_ | refine Zbm (fun _ _ => rfl) ?_ | refine Z8h ?_ | refine Zbn (fun _ _ => rfl) ?_))
    refine Z93 rfl (by omega) hxv ?_
    (repeat (refine st_q rfl rfl rfl ?_))
    refine Z9k (by simp [Z0.cells, Z0.one]) fun b12 hb12 => ?_
    (first | refine Z9a rfl Z8z rfl (by decide) (Kfi rfl) (fun h => by cases h) Z9b ?_ | refine Z8v rfl (Z9a rfl Z8z rfl (by decide) (Kfi rfl) (fun h => by cases h) Z9b ?_))
    (refine Z8y ?_; (repeat (first | refine Z9v rfl ?_ | refine Z9w ?_)); refine Z9u ?_)
    refine Zb3 (d := 12) (cs := Zm6 v) rfl ?_
    (refine Z9y (keep := [10, 12, 46, 47, 48]) ?_; ((repeat (first | refine Z9v rfl ?_ | refine Z9w ?_)); refine Z9u ?_))
    refine Z9z ?_
    (repeat (refine st_q rfl rfl rfl ?_))
    obtain ⟨wsx, βx, hx⟩ := Zy9.ex (putF l 0 v cs).1
    refine Z9s rfl hput ⟨_, _, wsx, βx, hx, rfl, rfl⟩ ?_
    rintro r σ2 ⟨ws2, β5, hG2, rfl, rfl⟩
    (repeat (refine st_q rfl rfl rfl ?_))
    (refine Z8y ?_; (repeat (first | refine Z9v rfl ?_ | refine Z9w ?_)); refine Z9u ?_)
    have hlen2 := Z1i3 l v 0 cs
    have hSm2 := Z1i4 l v 0 cs hS
    generalize putF l 0 v cs = pr at hYj hG2 hlen2 hSm2
    obtain ⟨cs2, ok⟩ := pr
    cases ok with
    | true =>
      rw [if_pos rfl] at hYj
      (repeat (first | refine Zbn (fun _ _ => rfl) ?_ | refine Kc2 rfl ?_))
      refine Zbp ?_
      (repeat (refine st_q rfl rfl rfl ?_))
      rw [show IntKind.wrap .i64 ((j : Int) + 1) = ((j + 1 : Nat) : Int) by rw [w64 _ (by omega) (by omega)]; omega]
      (refine Z8y ?_; (repeat (first | refine Z9v rfl ?_ | refine Z9w ?_)); refine Z9u ?_)
      exact ⟨_, rows.length - (j + 1), HSub.refl _, ⟨j + 1, ws2, cs2, β5, rfl, rfl, hG2, by rw [← hcl, ← hlen2], hSm2, by omega, hYj, rfl⟩, by omega⟩
    | false =>
      rw [if_neg (by simp)] at hYj
      subst hYj
      rw [if_neg (by simp)] at hX
      subst hX
      (repeat (first | refine st_q rfl rfl rfl ?_ | (refine Z8y ?_; (repeat (first | refine Z9v rfl ?_ | refine Z9w ?_)); refine Z9u ?_) | refine awp_seq ?_ | refine Zbm (fun _ _ => rfl) ?_ | refine Kc1 rfl ?_))
      refine Z8d ?_
      exact Zau rfl (VRle.tup (VRle.cons (VRle.nilF _ _) (VRle.refl _))) (HSub.of_sublist (List.Sublist.cons _ (List.sublist_append_right _ _))) ⟨rfl, rfl⟩
  · rw [List.drop_of_length_le (by omega), Z1i5] at hYj
    subst hYj
    rw [if_pos rfl] at hX
    subst hX
    (repeat (first | refine st_q rfl rfl rfl ?_ | (refine Z8y ?_; (repeat (first | refine Z9v rfl ?_ | refine Z9w ?_)); refine Z9u ?_) | refine awp_seq ?_ | refine Zbm (fun _ _ => rfl) ?_ | refine Zbo (fun _ _ => rfl) ?_))
    refine Zby (by simpa using hG.freeze [] (by simp) b σ) ?_
    have e : l.length = (cs.map encC).length := by simp [hcl]
    rw [e]
    refine Zb1 (d := 4) rfl ?_
    refine Z8d ?_
    exact Kar rfl ⟨rfl, rfl⟩
end Go.Abs
namespace Go.Abs
open Go Go.Proofs
set_option linter.unusedVariables false
set_option linter.unusedSimpArgs false
set_option maxHeartbeats 4000000
attribute [local irreducible] AWp aops KP
def tI5 : Ty := .mk 3 [] [] 0 0 0
def tL5 : Ty := .mk 10 [] [tI5] 0 0 0
def tK5 : Ty := .mk 12 [[97]] [tL5] 0 0 0
def rowA5 : Vl := .mk false 0 0 [] [.mk false 0 0 [] [.mk false 1 0 [] [], .mk true 0 0 [] []]]
def rowB5 : Vl := .mk false 0 0 [] [.mk true 0 0 [] []]
def Z21k : List Col := [⟨[true, true], [], [], [], []⟩, ⟨[true, false], [], [], [], [2]⟩, ⟨[true, false], [1], [], [], []⟩]
def Z21l : List Nd := [⟨tK5, [1], -1, 1⟩, ⟨tL5, [2], 0, 2⟩, ⟨tI5, [], 1, 3⟩]
theorem Z21m : Zlx tK5 = 0 := by decide
theorem Z21n : Zm4 tK5 = Z21l := by rfl
theorem Z21o : Z1i6 tK5 [rowA5, rowB5] = (Z21k, 0) := by rfl
theorem Z21p : takeR Z21k [true, true, true] tK5 2 ⟨[0, 0, 0], [0, 0, 0]⟩ = some ([rowA5, rowB5], ⟨[2, 2, 2], [2, 1, 1]⟩) := by rfl
theorem Z21q : Z1va Z21l Z21k 2 = [2, 2, 2] := by rfl
theorem Z21r : tI5.Fit := .mk (by simp [tI5, Ty.kids]) (by simp [tI5, Ty.names]) (by simp [tI5, Ty.names]) (by simp [tI5, Ty.kids])
theorem Z21s : tL5.Fit := .mk (by simp [tL5, Ty.kids]) (by simp [tL5, Ty.names]) (by simp [tL5, Ty.names]) fun u hu => by
  simp only [tL5, Ty.kids, List.mem_singleton] at hu
  subst hu
  exact Z21r
theorem Z21t : tK5.Fit := .mk (by simp [tK5, Ty.kids]) (by simp [tK5, Ty.names]) (by simp [tK5, Ty.names, maxLen]) fun u hu => by
  simp only [tK5, Ty.kids, List.mem_singleton] at hu
  subst hu
  exact Z21s
theorem Z21u : ∀ v ∈ [rowA5, rowB5], v.Fit := by
  intro v hv
  simp only [List.mem_cons, List.not_mem_nil, or_false] at hv
  rcases hv with rfl | rfl
  · refine Z1rw _ (.mk (by simp [Vl.i]) (by simp [Vl.b]) (by simp [Vl.kids]) fun k hk => ?_)
    simp only [Vl.kids, List.mem_cons, List.not_mem_nil, or_false] at hk
    rcases hk with rfl | rfl
    · exact Z1rv _ _ (by omega)
    · exact Z1rv _ _ (by omega)
  · exact Z1rw _ (Z1rv _ _ (by omega))
theorem Z21v : ColsT Z21l Z21k [true, true, true] := by
  have h : ∀ i c, Z21k[i]? = some c → c ∈ Z21k := fun i c h => List.mem_of_getElem? h
  refine ⟨rfl, fun i c hc _ => ?_, fun i c hc _ => ?_, fun i c hc _ => ?_⟩
  all_goals
    have := h i c hc
    simp only [Z21k, List.mem_cons, List.not_mem_nil, or_false] at this
    rcases this with rfl | rfl | rfl
    all_goals first | (constructor <;> simp) | simp
theorem Z21w : Whole Z21l [true, true, true] := by
  intro i n hn x hx
  match i, hn with
  | 0, hn => cases hn; simp at hx; subst hx; exact ⟨fun _ => rfl, fun _ => .inl rfl⟩
  | 1, hn => cases hn; simp at hx; subst hx; exact ⟨fun _ => rfl, fun _ => .inl rfl⟩
  | 2, hn => cases hn; simp at hx
  | k + 3, hn => simp [Z21l] at hn
theorem Z21x : tK5.Ok := Ztu _ _ _ Z21m
theorem Z21y : tL5.Ok := by
  have := Z21x
  cases this with
  | mk _ h => exact h tL5 (by simp [tK5, Ty.kids])
theorem Z21z : tI5.Ok := by
  have := Z21y
  cases this with
  | mk _ h => exact h tI5 (by simp [tL5, Ty.kids])
theorem Z220 : Asks Z21l Z21k [true, true, true] 2 (fun _ => 2) (fun i => i == 0) := by
  refine ⟨rfl, rfl, fun i nd hn _ j x hx => ?_, fun i nd hn _ => ?_⟩
  · match i, hn with
    | 0, hn =>
      cases hn
      match j, hx with
      | 0, hx => cases hx; exact ⟨rfl, rfl⟩
      | k + 1, hx => simp at hx
    | 1, hn =>
      cases hn
      match j, hx with
      | 0, hx => cases hx; exact ⟨rfl, rfl⟩
      | k + 1, hx => simp at hx
    | 2, hn => cases hn; simp at hx
    | k + 3, hn => simp [Z21l] at hn
  · match i, hn with
    | 0, hn =>
      cases hn
      refine ⟨by constructor <;> simp [Z21k], by constructor <;> simp [Z21k], by constructor <;> rfl, rfl, by simp, Z21x, rfl, by simp [Z21k], by simp [Z21k], by simp [Z21k], fun _ => rfl, fun h => by cases h⟩
    | 1, hn =>
      cases hn
      refine ⟨by constructor <;> simp [Z21k], by constructor <;> simp [Z21k], by constructor <;> rfl, rfl, by simp, Z21y, rfl, by simp [Z21k], by simp [Z21k], by simp [Z21k], (fun h => by cases h), fun h => by decide⟩
    | 2, hn =>
      cases hn
      refine ⟨by constructor <;> simp [Z21k], by constructor <;> simp [Z21k], by constructor <;> rfl, rfl, by simp, Z21z, rfl, fun i v hv => ?_, by simp [Z21k], by simp [Z21k], (fun h => by cases h), fun h => by cases h⟩
      match i, hv with
      | 0, hv => cases hv; rfl
      | k + 1, hv => simp [Z21k] at hv
    | k + 3, hn => simp [Z21l] at hn
theorem Z221 (σ : Zc) : Z1q Try.prog Zdi [] σ fun r σ' => r = .bool true ∧ σ' = σ := by
  have hS := Z21j tK5 Z21t [rowA5, rowB5] Z21u (by simp)
  rw [Z21o, Zlp] at hS
  have hFl := Znk tK5 Z21t
  rw [Z21n, Zlp] at hFl
  have hB := fun f σ => Z1yo tK5 Z21t Z21m Z21k 2 (by omega) [] [true, true, true] (.inl ⟨rfl, rfl⟩) rfl rfl (by rw [Z21n]; exact Z21v) (by rw [Z21n]; exact Z21w) _ _ (by rw [Z21n]; exact Z220) _ _ (by rw [Z21n]; exact Z21p) false f σ
  rw [Zlp] at hB
  have hC := Z1vd Z21l (by rw [← Z21n]; exact Z1yn _) (by decide) Z21k rfl (fun c hc => by obtain ⟨i, hi⟩ := List.getElem?_of_mem hc; exact Z21v.sm i c hi (by match i, hi with | 0, _ => rfl | 1, _ => rfl | 2, _ => rfl | k + 3, hi => simp [Z21k] at hi)) 2 true false
  rw [Z21q] at hC
  refine Z8t rfl Z21b (Nat.le_of_ble_eq_true rfl) ?_
  refine Z9z ?_
  (repeat (refine st_q rfl rfl rfl ?_))
  (refine Z8y ?_; (repeat (first | refine Z9v rfl ?_ | refine Z9w ?_)); refine Z9u ?_)
  refine Z9z ?_
  (repeat (refine st_q rfl rfl rfl ?_))
  refine Z9k (by simp [Z0.cells, Z0.one]) fun b1 hb1 => ?_
  (first | refine Z9a rfl Z8z rfl (by decide) (Kfi rfl) (fun h => by cases h) Z9b ?_ | refine Z8v rfl (Z9a rfl Z8z rfl (by decide) (Kfi rfl) (fun h => by cases h) Z9b ?_))
  (refine Z8y ?_; (repeat (first | refine Z9v rfl ?_ | refine Z9w ?_)); refine Z9u ?_)
  refine Zby (Zbx.view (ys := [.agg (Zlo tK5)]) rfl rfl (by
    simp only [Zlo, tK5, tL5, tI5, Ty.kind, Ty.names, Ty.kids, Ty.len, Ty.prec, Ty.scale, Zln, encT, List.map_cons, List.map_nil]
    (repeat (first | exact VRle.refl _ | exact Zc5 | refine Zc6 rfl rfl ?_ | refine Zc7 rfl ?_ | refine Zc4 ?_ ?_)))) ?_
  refine Zb3 (d := 1) (cs := Zlo tK5) rfl ?_
  have hfb := Z21u rowA5 (by simp)
  have hfc := Z21u rowB5 (by simp)
  have hsA := Z1b3 rowA5 hfb rowA5
  have hsB := Z1b3 rowB5 hfc rowB5
  rw [Z1b1, Zm7] at hsA hsB
  refine Z9z ?_
  (repeat (refine st_q rfl rfl rfl ?_))
  (refine Z8y ?_; (repeat (first | refine Z9v rfl ?_ | refine Z9w ?_)); refine Z9u ?_)
  refine Zbt (d := 2) (v' := .slc 5 (Zm5 [rowA5, rowB5]) false) rfl (Zb6.le (by
    simp only [Zm5, encV, rowA5, rowB5, bytes, List.map_nil]
    (repeat (first | exact VRle.refl _ | exact Zc5 | refine Zc6 rfl rfl ?_ | refine Zc7 rfl ?_ | refine Zc4 ?_ ?_))) (HSub.refl _)) ?_
  (repeat (first | refine st_q rfl rfl rfl ?_ | refine awp_seq ?_ | refine Zbm (fun _ _ => rfl) ?_))
  refine Z9t rfl (hS _) ?_
  (repeat (first | refine st_q rfl rfl rfl ?_ | refine Z8v rfl (st_q rfl rfl rfl ?_) | (refine Z8y ?_; (repeat (first | refine Z9v rfl ?_ | refine Z9w ?_)); refine Z9u ?_) | refine awp_seq ?_ | refine Zbm (fun _ _ => rfl) ?_ | refine Zbn (fun _ _ => rfl) ?_ | refine Kc2 rfl ?_))
  refine Z9t rfl (Z1q.args (VRle.cons (VRle.refl _) (VRle.cons (VRle.refl _) (VRle.cons (VRle.refl _) (VRle.nil_slc 0 1 true)))) (hB true _)) ?_
  (repeat (first | refine st_q rfl rfl rfl ?_ | (refine Z8y ?_; (repeat (first | refine Z9v rfl ?_ | refine Z9w ?_)); refine Z9u ?_) | refine awp_seq ?_ | refine Zbm (fun _ _ => rfl) ?_))
  refine Z9t rfl (hFl _) ?_
  (repeat refine st_q rfl rfl rfl ?_)
  refine Z9t rfl (hC _) ?_
  (repeat (first | refine st_q rfl rfl rfl ?_ | refine Z8v rfl (st_q rfl rfl rfl ?_) | (refine Z8y ?_; (repeat (first | refine Z9v rfl ?_ | refine Z9w ?_)); refine Z9u ?_) | refine awp_seq ?_ | refine Zbm (fun _ _ => rfl) ?_))
  refine Z8v rfl (Z9t rfl (hsA _) ?_)
  (repeat (first | refine st_q rfl rfl rfl ?_ | refine Z8v rfl (st_q rfl rfl rfl ?_)))
  refine Z8v rfl (Z9t rfl (hsB _) ?_)
  (repeat (first | refine st_q rfl rfl rfl ?_ | refine Z8v rfl (st_q rfl rfl rfl ?_)))
  refine Z8v rfl (Z9t rfl (Zxz ⟨[true, false], [], [], [], [2]⟩ (by simp) _) ?_)
  (repeat (first | refine st_q rfl rfl rfl ?_ | refine Z8v rfl (st_q rfl rfl rfl ?_)))
  refine Z8v rfl (Z9t rfl (Zxz ⟨[true, true], [], [], [], []⟩ (by simp) _) ?_)
  (repeat (first | refine st_q rfl rfl rfl ?_ | refine Z8v rfl (st_q rfl rfl rfl ?_) | (refine Z8y ?_; (repeat (first | refine Z9v rfl ?_ | refine Z9w ?_)); refine Z9u ?_)))
  refine Z8d ?_
  exact Kar rfl ⟨rfl, rfl⟩
end Go.Abs
namespace Go.Abs
open Go Go.Proofs
set_option linter.unusedVariables false
set_option linter.unusedSimpArgs false
set_option maxHeartbeats 4000000
attribute [local irreducible] AWp aops KP
theorem ab2sF {σ : Zc} {xs : List UInt8} {f : Bool} : ab2s σ [.slc 1 (bytes xs) f] = some (.str xs) := by
  simp [ab2s, Z1m, Zar]
theorem Z26v (xs : List Int) (hl : xs.length ≤ 1000000) (f g : Bool) (σ : Zc) : Z1q Try.prog Zev [.slc 1 (xs.map (.int .i64)) f, .slc 1 (xs.map (.int .i64)) g] σ fun r σ' => r = .bool true ∧ σ' = σ := by
  have hml : (xs.map (Z0.int .i64)).length = xs.length := List.length_map ..
  refine Z8t rfl Z26u (Nat.le_of_ble_eq_true rfl) ?_
  (repeat (first | refine st_q rfl rfl rfl ?_ | (refine Z8y ?_; (repeat (first | refine Z9v rfl ?_ | refine Z9w ?_)); refine Z9u ?_) | refine awp_seq ?_ | refine Zbm (fun _ _ => rfl) ?_))
  rw [hml]
  (rw [decide_eq_false (p := (xs.length : Int) ≠ (xs.length : Int)) (by omega)])
  (repeat (first | refine st_q rfl rfl rfl ?_ | (refine Z8y ?_; (repeat (first | refine Z9v rfl ?_ | refine Z9w ?_)); refine Z9u ?_) | refine awp_seq ?_ | refine Zbm (fun _ _ => rfl) ?_ | refine Z8h ?_ | refine Zbn (fun _ _ => rfl) ?_ | refine Kc2 rfl ?_))
  refine Zaa (fun m F σ' => ∃ i : Nat, F = fset 0 (some (.slc 1 (xs.map (.int .i64)) f)) (fset 1 (some (.slc 1 (xs.map (.int .i64)) g)) (fset 5 (some (.int .i64 i)) Z27)) ∧ σ = σ' ∧ i ≤ xs.length ∧ m = xs.length - i) (n := xs.length)
    ⟨0, rfl, rfl, by omega, by omega⟩ ?_
  rintro m F σ' ⟨i, rfl, rfl, hi, rfl⟩
  (repeat (first | refine st_q rfl rfl rfl ?_ | (refine Z8y ?_; (repeat (first | refine Z9v rfl ?_ | refine Z9w ?_)); refine Z9u ?_) | refine awp_seq ?_ | refine Zbm (fun _ _ => rfl) ?_))
  rw [hml]
  refine Za3 (p := (i : Int) < (xs.length : Nat)) rfl (fun h3 => ?_) (fun h3 => ?_)
  · have hil : i < xs.length := by omega
    have hx := Zxw (f := Z0.int .i64) hil
    generalize xs[i] = y at hx
    (repeat (first | refine st_q rfl rfl rfl ?_ | refine awp_seq ?_ | refine Zbm (fun _ _ => rfl) ?_ | refine Z8h ?_ | refine Zbn (fun _ _ => rfl) ?_))
    refine Z93 rfl (by omega) hx ?_
    (repeat refine st_q rfl rfl rfl ?_)
    refine Z93 rfl (by omega) hx ?_
    (repeat (first | refine st_q rfl rfl rfl ?_ | (refine Z8y ?_; (repeat (first | refine Z9v rfl ?_ | refine Z9w ?_)); refine Z9u ?_)))
    (rw [decide_eq_false (p := y ≠ y) (by omega)])
    (repeat (first | refine Zbn (fun _ _ => rfl) ?_ | refine Kc2 rfl ?_))
    refine Zbp ?_
    (repeat (refine st_q rfl rfl rfl ?_))
    rw [show IntKind.wrap .i64 ((i : Int) + 1) = ((i + 1 : Nat) : Int) by rw [w64 _ (by omega) (by omega)]; omega]
    (refine Z8y ?_; (repeat (first | refine Z9v rfl ?_ | refine Z9w ?_)); refine Z9u ?_)
    exact ⟨_, xs.length - (i + 1), HSub.refl _, ⟨i + 1, rfl, rfl, by omega, rfl⟩, by omega⟩
  · (repeat (first | refine st_q rfl rfl rfl ?_ | (refine Z8y ?_; (repeat (first | refine Z9v rfl ?_ | refine Z9w ?_)); refine Z9u ?_) | refine awp_seq ?_ | refine Zbm (fun _ _ => rfl) ?_ | refine Zbo (fun _ _ => rfl) ?_))
    refine Z8d ?_
    exact Kar rfl ⟨rfl, rfl⟩
theorem Z26w (c : Col) (hl : c.Sm) (σ : Zc) : Z1q Try.prog Zdk [encC c, encC c] σ fun r σ' => r = .bool true ∧ σ' = σ := by
  obtain ⟨l1, l2, l3, l4, l5⟩ := hl
  have el : ∀ {α : Type} (f : α → Z0) (l : List α), (l.map f).length = l.length := fun f l => List.length_map ..
  refine Z8t rfl Z26t (Nat.le_of_ble_eq_true rfl) ?_
  refine Z9z ?_
  refine Z9j rfl (Kfi rfl) fun b2 hb2 => ?_
  refine Z9j rfl (Kfi rfl) fun b3 hb3 => ?_
  (repeat (refine st_q rfl rfl rfl ?_))
  (refine Z8y ?_; (repeat (first | refine Z9v rfl ?_ | refine Z9w ?_)); refine Z9u ?_)
  refine Zb3 (d := 3) (cs := Zxu c) rfl ?_
  refine Zb3 (d := 2) (cs := Zxu c) rfl ?_
  (repeat (first | refine st_q rfl rfl rfl ?_ | refine awp_seq ?_ | refine Zbm (fun _ _ => rfl) ?_))
  rw [el]
  (rw [decide_eq_false (p := (c.here.length : Int) ≠ (c.here.length : Int)) (by omega)])
  (repeat (first | refine st_q rfl rfl rfl ?_ | refine Z8v rfl (st_q rfl rfl rfl ?_)))
  rw [el]
  (rw [decide_eq_false (p := (c.ns.length : Int) ≠ (c.ns.length : Int)) (by omega)])
  (repeat (first | refine st_q rfl rfl rfl ?_ | refine Z8v rfl (st_q rfl rfl rfl ?_)))
  rw [el]
  (rw [decide_eq_false (p := (c.texts.length : Int) ≠ (c.texts.length : Int)) (by omega)])
  (repeat refine Z8v rfl (st_q rfl rfl rfl ?_))
  refine Z8v rfl (Z9t rfl (Z26v c.ints (by omega) false false _) ?_)
  (repeat (first | refine st_q rfl rfl rfl ?_ | refine Z8v rfl (st_q rfl rfl rfl ?_)))
  refine Z8v rfl (Z9t rfl (Z26v c.lens (by omega) false false _) ?_)
  (repeat (first | refine st_q rfl rfl rfl ?_ | refine Z8v rfl (st_q rfl rfl rfl ?_) | (refine Z8y ?_; (repeat (first | refine Z9v rfl ?_ | refine Z9w ?_)); refine Z9u ?_) | refine awp_seq ?_ | refine Zbm (fun _ _ => rfl) ?_ | refine Z8h ?_ | refine Zbn (fun _ _ => rfl) ?_ | refine Kc2 rfl ?_))
  refine Zaa (fun m F σ' => ∃ i : Nat, F = fset 2 (some (.iptr (Zxu c))) (fset 3 (some (.iptr (Zxu c))) (fset 5 (some (.int .i64 i)) Z27)) ∧ σ = σ' ∧ i ≤ c.here.length ∧ m = c.here.length - i) (n := c.here.length)
    ⟨0, rfl, rfl, by omega, by omega⟩ ?_
  rintro m F σ' ⟨i, rfl, rfl, hi, rfl⟩
  (repeat (first | refine st_q rfl rfl rfl ?_ | (refine Z8y ?_; (repeat (first | refine Z9v rfl ?_ | refine Z9w ?_)); refine Z9u ?_) | refine awp_seq ?_ | refine Zbm (fun _ _ => rfl) ?_))
  rw [el]
  refine Za3 (p := (i : Int) < (c.here.length : Nat)) rfl (fun h3 => ?_) (fun h3 => ?_)
  · have hil : i < c.here.length := by omega
    have hx := Zxw (f := Z0.bool) hil
    generalize c.here[i] = y at hx
    (repeat (first | refine st_q rfl rfl rfl ?_ | refine awp_seq ?_ | refine Zbm (fun _ _ => rfl) ?_ | refine Z8h ?_ | refine Zbn (fun _ _ => rfl) ?_))
    refine Z93 rfl (by omega) hx ?_
    (repeat refine st_q rfl rfl rfl ?_)
    refine Z93 rfl (by omega) hx ?_
    cases y
    all_goals
      (repeat (first | refine st_q rfl rfl rfl ?_ | (refine Z8y ?_; (repeat (first | refine Z9v rfl ?_ | refine Z9w ?_)); refine Z9u ?_) | refine Zbn (fun _ _ => rfl) ?_ | refine Kc2 rfl ?_))
      refine Zbp ?_
      (repeat (refine st_q rfl rfl rfl ?_))
      rw [show IntKind.wrap .i64 ((i : Int) + 1) = ((i + 1 : Nat) : Int) by rw [w64 _ (by omega) (by omega)]; omega]
      (refine Z8y ?_; (repeat (first | refine Z9v rfl ?_ | refine Z9w ?_)); refine Z9u ?_)
      exact ⟨_, c.here.length - (i + 1), HSub.refl _, ⟨i + 1, rfl, rfl, by omega, rfl⟩, by omega⟩
  (repeat (first | refine st_q rfl rfl rfl ?_ | (refine Z8y ?_; (repeat (first | refine Z9v rfl ?_ | refine Z9w ?_)); refine Z9u ?_) | refine awp_seq ?_ | refine Zbm (fun _ _ => rfl) ?_ | refine Z8h ?_ | refine Zbo (fun _ _ => rfl) ?_))
  refine Zaa (fun m F σ' => ∃ i : Nat, F = fset 2 (some (.iptr (Zxu c))) (fset 3 (some (.iptr (Zxu c))) (fset 6 (some (.int .i64 i)) Z27)) ∧ σ = σ' ∧ i ≤ c.ns.length ∧ m = c.ns.length - i) (n := c.ns.length)
    ⟨0, rfl, rfl, by omega, by omega⟩ ?_
  rintro m F σ' ⟨i, rfl, rfl, hi, rfl⟩
  (repeat (first | refine st_q rfl rfl rfl ?_ | (refine Z8y ?_; (repeat (first | refine Z9v rfl ?_ | refine Z9w ?_)); refine Z9u ?_) | refine awp_seq ?_ | refine Zbm (fun _ _ => rfl) ?_))
  rw [el]
  refine Za3 (p := (i : Int) < (c.ns.length : Nat)) rfl (fun h3 => ?_) (fun h3 => ?_)
  · have hil : i < c.ns.length := by omega
    have hx := Zxw (f := Z0.int .i64) hil
    generalize c.ns[i] = y at hx
    (repeat (first | refine st_q rfl rfl rfl ?_ | refine awp_seq ?_ | refine Zbm (fun _ _ => rfl) ?_ | refine Z8h ?_ | refine Zbn (fun _ _ => rfl) ?_))
    refine Z93 rfl (by omega) hx ?_
    (repeat refine st_q rfl rfl rfl ?_)
    refine Z93 rfl (by omega) hx ?_
    (repeat (first | refine st_q rfl rfl rfl ?_ | (refine Z8y ?_; (repeat (first | refine Z9v rfl ?_ | refine Z9w ?_)); refine Z9u ?_)))
    (rw [decide_eq_false (p := y ≠ y) (by omega)])
    (repeat (first | refine Zbn (fun _ _ => rfl) ?_ | refine Kc2 rfl ?_))
    refine Zbp ?_
    (repeat (refine st_q rfl rfl rfl ?_))
    rw [show IntKind.wrap .i64 ((i : Int) + 1) = ((i + 1 : Nat) : Int) by rw [w64 _ (by omega) (by omega)]; omega]
    (refine Z8y ?_; (repeat (first | refine Z9v rfl ?_ | refine Z9w ?_)); refine Z9u ?_)
    exact ⟨_, c.ns.length - (i + 1), HSub.refl _, ⟨i + 1, rfl, rfl, by omega, rfl⟩, by omega⟩
  (repeat (first | refine st_q rfl rfl rfl ?_ | (refine Z8y ?_; (repeat (first | refine Z9v rfl ?_ | refine Z9w ?_)); refine Z9u ?_) | refine awp_seq ?_ | refine Zbm (fun _ _ => rfl) ?_ | refine Z8h ?_ | refine Zbo (fun _ _ => rfl) ?_))
  refine Zaa (fun m F σ' => ∃ i : Nat, F = fset 2 (some (.iptr (Zxu c))) (fset 3 (some (.iptr (Zxu c))) (fset 7 (some (.int .i64 i)) Z27)) ∧ σ = σ' ∧ i ≤ c.texts.length ∧ m = c.texts.length - i) (n := c.texts.length)
    ⟨0, rfl, rfl, by omega, by omega⟩ ?_
  rintro m F σ' ⟨i, rfl, rfl, hi, rfl⟩
  (repeat (first | refine st_q rfl rfl rfl ?_ | (refine Z8y ?_; (repeat (first | refine Z9v rfl ?_ | refine Z9w ?_)); refine Z9u ?_) | refine awp_seq ?_ | refine Zbm (fun _ _ => rfl) ?_))
  rw [el]
  refine Za3 (p := (i : Int) < (c.texts.length : Nat)) rfl (fun h3 => ?_) (fun h3 => ?_)
  · have hil : i < c.texts.length := by omega
    have hx := Zxw (f := fun b => Z0.slc 1 (bytes b) false) hil
    generalize c.texts[i] = y at hx
    (repeat (first | refine st_q rfl rfl rfl ?_ | refine awp_seq ?_ | refine Zbm (fun _ _ => rfl) ?_ | refine Z8h ?_ | refine Zbn (fun _ _ => rfl) ?_))
    refine Z93 rfl (by omega) hx ?_
    (repeat (refine st_q rfl rfl rfl ?_))
    refine st_q rfl ab2sF rfl ?_
    (repeat (refine st_q rfl rfl rfl ?_))
    refine Z93 rfl (by omega) hx ?_
    (repeat (refine st_q rfl rfl rfl ?_))
    refine st_q rfl ab2sF rfl ?_
    (repeat (refine st_q rfl rfl rfl ?_))
    rw [show decide (y ≠ y) = false from decide_eq_false (fun h => h rfl)]
    (repeat (first | (refine Z8y ?_; (repeat (first | refine Z9v rfl ?_ | refine Z9w ?_)); refine Z9u ?_) | refine Zbn (fun _ _ => rfl) ?_ | refine Kc2 rfl ?_))
    refine Zbp ?_
    (repeat (refine st_q rfl rfl rfl ?_))
    rw [show IntKind.wrap .i64 ((i : Int) + 1) = ((i + 1 : Nat) : Int) by rw [w64 _ (by omega) (by omega)]; omega]
    (refine Z8y ?_; (repeat (first | refine Z9v rfl ?_ | refine Z9w ?_)); refine Z9u ?_)
    exact ⟨_, c.texts.length - (i + 1), HSub.refl _, ⟨i + 1, rfl, rfl, by omega, rfl⟩, by omega⟩
  · (repeat (first | refine st_q rfl rfl rfl ?_ | (refine Z8y ?_; (repeat (first | refine Z9v rfl ?_ | refine Z9w ?_)); refine Z9u ?_) | refine awp_seq ?_ | refine Zbm (fun _ _ => rfl) ?_ | refine Zbo (fun _ _ => rfl) ?_))
    refine Z8d ?_
    exact Kar rfl ⟨rfl, rfl⟩
end Go.Abs
namespace Go.Abs
open Go Go.Proofs
set_option linter.unusedVariables false
set_option linter.unusedSimpArgs false
set_option maxHeartbeats 4000000
attribute [local irreducible] AWp aops KP
theorem Z26x {t : Ty} {rows : List Vl} (h : (Z1i6 t rows).2 ≠ 0) : (Z1i6 t rows).1 = [] := by
  unfold Z1i6 at h ⊢
  split
  · rfl
  · split
    · rfl
    · split
      · rename_i h1 h2 h3
        rw [if_neg h1, if_neg h2, if_pos h3] at h
        exact absurd rfl h
      · rfl
theorem Z26y (t : Ty) (rows : List Vl) (hr : ∀ v ∈ rows, v.Fit) (σ : Zc) : Z1q Try.prog Zch [encT t, .slc 5 (Zm5 rows) false] σ fun r σ' => r = .bool true := by
  have hFew := Z1fl t rows false
  have hrl := Zm9 rows
  rw [Zlp] at hFew ⊢
  refine Z8t rfl Z26s (Nat.le_of_ble_eq_true rfl) ?_
  refine Z9z ?_
  refine Z9j rfl (Kfi rfl) fun b2 hb2 => ?_
  (repeat (refine st_q rfl rfl rfl ?_))
  (refine Z8y ?_; (repeat (first | refine Z9v rfl ?_ | refine Z9w ?_)); refine Z9u ?_)
  refine Zb3 (d := 2) (cs := Zlo t) rfl ?_
  (repeat (first | refine awp_seq ?_ | refine Zbm (fun _ _ => rfl) ?_))
  refine Z9t rfl (Z221 _) ?_
  (repeat (first | refine st_q rfl rfl rfl ?_ | (refine Z8y ?_; (repeat (first | refine Z9v rfl ?_ | refine Z9w ?_)); refine Z9u ?_) | refine awp_seq ?_ | refine Zbm (fun _ _ => rfl) ?_ | refine Zbn (fun _ _ => rfl) ?_ | refine Kc2 rfl ?_))
  refine Z9t rfl (hFew _) ?_
  cases hfw : few15 t rows with
  | false =>
    (repeat (first | refine st_q rfl rfl rfl ?_ | (refine Z8y ?_; (repeat (first | refine Z9v rfl ?_ | refine Z9w ?_)); refine Z9u ?_) | refine awp_seq ?_ | refine Zbm (fun _ _ => rfl) ?_ | refine Kc1 rfl ?_))
    refine Z8d ?_
    exact Kar rfl rfl
  | true =>
  obtain ⟨hfit, hlen⟩ := Z22k hfw
  have hS := Z1i9 t hfit rows hr (by omega)
  have hS2 := Z21j t hfit rows hr (by omega)
  have hRF := Zno t (Zn4 t hfit)
  have hFl := Znk t hfit
  have hcol := fun (he : (Z1i6 t rows).2 = 0) => @Z1l3 t rows hr he
  have hcl := @Z1l2 t rows
  have hnone := @Z26x t rows
  have hB := fun h g f σ => Z24x t hfit rows hr (by omega) h g f σ
  have hRows := Z24z rows hr (by omega)
  rw [Zlp] at hS hS2 hRF hFl hB
  have hZ : ∀ (he : (Z1i6 t rows).2 = 0), (∀ f g σ, Z1q Try.prog Zdn [.slc 8 ((Zm4 t).map encN) f, .slc 5 ((Z1i6 t rows).1.map encC) g, .int .i64 (rows.length : Int)] σ fun r σ' => r = .slc 1 ((List.range (Zm4 t).length).map fun x => Z0.int .i64 ((Z1lm (Zm4 t) x rows).here.length : Int)) false ∧ σ' = σ) ∧
      (∀ f g σ, Z1q Try.prog Zdo [.slc 9 ((Zm4 t).map encR) f, .slc 5 ((Z1i6 t rows).1.map encC) g, .int .i64 (rows.length : Int)] σ fun r σ' => r = .slc 1 ((List.range (Zm4 t).length).map fun x => Z0.int .i64 ((Z1lm (Zm4 t) x rows).here.length : Int)) false ∧ σ' = σ) ∧
      (∀ i, i < (Zm4 t).length → ∃ c, (Z1i6 t rows).1[i]? = some c ∧ c.here.length = (Z1lm (Zm4 t) i rows).here.length) := by
    intro he
    obtain ⟨hck, _, _, _⟩ := Z1l1 he
    obtain ⟨n0, hn0, _⟩ := Z1pf hck
    have hpos := (List.getElem?_eq_some_iff.1 hn0).1
    have hc : ∀ c, c < (Zm4 t).length → (List.replicate (Zm4 t).length true).getD c false = true → (Z1i6 t rows).1.getD c col0 = Z1lm (Zm4 t) c rows := fun c h1 _ => by
      rw [List.getD_eq_getElem?_getD, Z1lv he h1]; rfl
    obtain ⟨hA, hC⟩ := Z24t hr he (Z1l2 he) hc
    have hct := Z24y (Z1m1 t) hpos hA (Z1l2 he)
    have hk : ∀ i, i < (Zm4 t).length → (List.replicate (Zm4 t).length true).getD i false = true := fun i hi => by rw [List.getD_eq_getElem?_getD, List.getElem?_replicate, if_pos hi]; rfl
    have hsm : ∀ c ∈ (Z1i6 t rows).1, c.Sm := fun c hm => by
      obtain ⟨i, hi⟩ := List.getElem?_of_mem hm
      exact (hcol he hi).sm
    have hln : ∀ c ∈ (Z1i6 t rows).1, ∀ v ∈ c.lens, 0 ≤ v := fun c hm => by
      obtain ⟨i, hi⟩ := List.getElem?_of_mem hm
      have hil := (List.getElem?_eq_some_iff.1 hi).1
      rw [Z1l2 he] at hil
      have hR := hA.right i _ (List.getElem?_eq_getElem hil) (hk i hil)
      have e : (Z1i6 t rows).1.getD i col0 = c := by rw [List.getD_eq_getElem?_getD, hi]; rfl
      rw [e] at hR
      exact hR.lens
    refine ⟨fun f g σ => ?_, fun f g σ => ?_, fun i hi => ⟨_, Z1lv he hi, rfl⟩⟩
    · have := Z1vd (Zm4 t) (Z1yn t) hpos _ (Z1l2 he) hsm rows.length f g σ
      rw [hct, List.map_map] at this
      exact this
    · have := Z23q (Zm4 t) (Z1yn t) hpos _ (Z1l2 he) (fun c hm => ⟨hsm c hm, hln c hm⟩) rows.length f g σ
      rw [hct, List.map_map] at this
      exact this
  have hL100 := Z1li t
  generalize Z1i6 t rows = X at hS hS2 hcol hcl hnone hB hZ
  obtain ⟨cols, e⟩ := X
  generalize Zm4 t = L at hRF hFl hcol hcl hZ hL100
  simp only at hS hS2 hcol hcl hnone hB hZ
  have hml : (cols.map encC).length = cols.length := List.length_map ..
  (repeat (first | refine st_q rfl rfl rfl ?_ | (refine Z8y ?_; (repeat (first | refine Z9v rfl ?_ | refine Z9w ?_)); refine Z9u ?_) | refine awp_seq ?_ | refine Zbm (fun _ _ => rfl) ?_ | refine Zbn (fun _ _ => rfl) ?_ | refine Kc2 rfl ?_))
  refine Z9t rfl (hS2 _) ?_
  (repeat (first | refine st_q rfl rfl rfl ?_ | (refine Z8y ?_; (repeat (first | refine Z9v rfl ?_ | refine Z9w ?_)); refine Z9u ?_) | refine awp_seq ?_ | refine Zbm (fun _ _ => rfl) ?_))
  refine Z9t rfl (hS _) ?_
  (repeat (first | refine st_q rfl rfl rfl ?_ | (refine Z8y ?_; (repeat (first | refine Z9v rfl ?_ | refine Z9w ?_)); refine Z9u ?_) | refine awp_seq ?_ | refine Zbm (fun _ _ => rfl) ?_))
  (rw [decide_eq_false (p := (e : Int) ≠ (e : Int)) (by omega)])
  (repeat (first | refine st_q rfl rfl rfl ?_ | refine Z8v rfl (st_q rfl rfl rfl ?_) | (refine Z8y ?_; (repeat (first | refine Z9v rfl ?_ | refine Z9w ?_)); refine Z9u ?_)))
  rw [hml]
  (rw [decide_eq_false (p := (cols.length : Int) ≠ (cols.length : Int)) (by omega)])
  (repeat (first | refine st_q rfl rfl rfl ?_ | (refine Z8y ?_; (repeat (first | refine Z9v rfl ?_ | refine Z9w ?_)); refine Z9u ?_) | refine awp_seq ?_ | refine Zbm (fun _ _ => rfl) ?_ | refine Z8h ?_ | refine Zbn (fun _ _ => rfl) ?_ | refine Kc2 rfl ?_))
  refine Zaa (fun m F σ' => ∃ i : Nat, F = fset 1 (some (.slc 5 (Zm5 rows) false)) (fset 2 (some (.iptr (Zlo t))) (fset 5 (some (.slc 5 (cols.map encC) false)) (fset 7 (some (.slc 5 (cols.map encC) false)) (fset 8 (some (.int .i64 (e : Int))) (fset 9 (some (.int .i64 (i : Nat))) Z27))))) ∧ σ = σ' ∧ i ≤ cols.length ∧ m = cols.length - i) (n := cols.length)
    ⟨0, rfl, rfl, by omega, by omega⟩ ?_
  rintro m F σ' ⟨i, rfl, rfl, hi, rfl⟩
  (repeat (first | refine st_q rfl rfl rfl ?_ | (refine Z8y ?_; (repeat (first | refine Z9v rfl ?_ | refine Z9w ?_)); refine Z9u ?_) | refine awp_seq ?_ | refine Zbm (fun _ _ => rfl) ?_))
  rw [hml]
  refine Za3 (p := (i : Int) < (cols.length : Nat)) rfl (fun h3 => ?_) (fun h3 => ?_)
  · have hil : i < cols.length := by omega
    have he : e = 0 := by
      by_cases h : e = 0
      · exact h
      · have := hnone h; rw [this] at hil; simp at hil
    have hx := Zxw (f := encC) hil
    have hok := hcol he (List.getElem?_eq_getElem hil)
    generalize cols[i] = c at hx hok
    have hh := hok.sm.here
    have hcle := hcl he
    have hH1 := fun σ => Zxz c (by omega) σ
    have hH2 := fun σ => Zy0 c (by omega) σ
    generalize hasF c = y at hH1 hH2
    (repeat (first | refine st_q rfl rfl rfl ?_ | refine awp_seq ?_ | refine Zbm (fun _ _ => rfl) ?_ | refine Z8h ?_ | refine Zbn (fun _ _ => rfl) ?_))
    refine Z93 rfl (by omega) hx ?_
    (repeat refine st_q rfl rfl rfl ?_)
    refine Z93 rfl (by omega) hx ?_
    (repeat refine st_q rfl rfl rfl ?_)
    refine Z9t rfl (Z26w c hok.sm _) ?_
    (repeat (first | refine st_q rfl rfl rfl ?_ | refine Z8v rfl (st_q rfl rfl rfl ?_)))
    refine Z8v rfl (Z93 rfl (by omega) hx ?_)
    (repeat refine Z8v rfl (st_q rfl rfl rfl ?_))
    refine Z8v rfl (Zbw rfl hH1 ?_)
    (repeat refine Z8v rfl (st_q rfl rfl rfl ?_))
    refine Z8v rfl (Z93 rfl (by omega) hx ?_)
    (repeat refine Z8v rfl (st_q rfl rfl rfl ?_))
    refine Z8v rfl (Z9t rfl (hH2 _) ?_)
    cases y
    all_goals
      (repeat (first | refine st_q rfl rfl rfl ?_ | refine Z8v rfl (st_q rfl rfl rfl ?_) | (refine Z8y ?_; (repeat (first | refine Z9v rfl ?_ | refine Z9w ?_)); refine Z9u ?_) | refine Zbn (fun _ _ => rfl) ?_ | refine Kc2 rfl ?_))
      refine Zbp ?_
      (repeat (refine st_q rfl rfl rfl ?_))
      rw [show IntKind.wrap .i64 ((i : Int) + 1) = ((i + 1 : Nat) : Int) by rw [w64 _ (by omega) (by omega)]; omega]
      (refine Z8y ?_; (repeat (first | refine Z9v rfl ?_ | refine Z9w ?_)); refine Z9u ?_)
      exact ⟨_, cols.length - (i + 1), HSub.refl _, ⟨i + 1, rfl, rfl, by omega, rfl⟩, by omega⟩
  (repeat (first | refine st_q rfl rfl rfl ?_ | (refine Z8y ?_; (repeat (first | refine Z9v rfl ?_ | refine Z9w ?_)); refine Z9u ?_) | refine awp_seq ?_ | refine Zbm (fun _ _ => rfl) ?_ | refine Zbo (fun _ _ => rfl) ?_))
  by_cases he : e = 0
  rotate_left
  · (rw [decide_eq_true (p := (e : Int) ≠ 0) (by omega)])
    (repeat (first | refine st_q rfl rfl rfl ?_ | (refine Z8y ?_; (repeat (first | refine Z9v rfl ?_ | refine Z9w ?_)); refine Z9u ?_) | refine awp_seq ?_ | refine Zbm (fun _ _ => rfl) ?_ | refine Kc1 rfl ?_))
    refine Z8d ?_
    exact Kar rfl rfl
  (rw [decide_eq_false (p := (e : Int) ≠ 0) (by omega)])
  obtain ⟨hC1, hC2, hC3⟩ := hZ he
  have hcl := hcl he
  have hB := hB he
  (repeat (first | refine st_q rfl rfl rfl ?_ | refine awp_seq ?_ | refine Zbm (fun _ _ => rfl) ?_ | refine Zbn (fun _ _ => rfl) ?_ | refine Kc2 rfl ?_))
  refine Z9t rfl (hFl _) ?_
  (repeat refine st_q rfl rfl rfl ?_)
  rw [hrl]
  refine Z9t rfl (hC1 _ _ _) ?_
  (repeat (first | refine st_q rfl rfl rfl ?_ | (refine Z8y ?_; (repeat (first | refine Z9v rfl ?_ | refine Z9w ?_)); refine Z9u ?_) | refine awp_seq ?_ | refine Zbm (fun _ _ => rfl) ?_))
  refine Z9t rfl (hRF _) ?_
  (repeat refine st_q rfl rfl rfl ?_)
  rw [hrl]
  refine Z9t rfl (hC2 _ _ _) ?_
  (repeat (first | refine st_q rfl rfl rfl ?_ | (refine Z8y ?_; (repeat (first | refine Z9v rfl ?_ | refine Z9w ?_)); refine Z9u ?_) | refine awp_seq ?_ | refine Zbm (fun _ _ => rfl) ?_))
  rw [hrl]
  refine Z9t rfl (Z1q.args (VRle.cons (VRle.refl _) (VRle.cons (VRle.refl _) (VRle.cons (VRle.refl _) (VRle.nil_slc 0 1 true)))) (hB false true _)) ?_
  (repeat (first | refine st_q rfl rfl rfl ?_ | (refine Z8y ?_; (repeat (first | refine Z9v rfl ?_ | refine Z9w ?_)); refine Z9u ?_) | refine awp_seq ?_ | refine Zbm (fun _ _ => rfl) ?_))
  have hNl : ((List.range L.length).map fun x => Z0.int .i64 ((Z1lm L x rows).here.length : Int)).length = L.length := by rw [List.length_map, List.length_range]
  generalize hN : ((List.range L.length).map fun x => Z0.int .i64 ((Z1lm L x rows).here.length : Int)) = N at *
  rw [hNl]
  (rw [decide_eq_false (p := (L.length : Int) ≠ (L.length : Int)) (by omega)])
  (repeat (first | refine st_q rfl rfl rfl ?_ | refine Z8v rfl (st_q rfl rfl rfl ?_)))
  refine Z8v rfl (Z9t rfl (hRows _ _ _) ?_)
  (repeat (first | refine st_q rfl rfl rfl ?_ | refine Z8v rfl (st_q rfl rfl rfl ?_) | (refine Z8y ?_; (repeat (first | refine Z9v rfl ?_ | refine Z9w ?_)); refine Z9u ?_) | refine awp_seq ?_ | refine Zbm (fun _ _ => rfl) ?_ | refine Z8h ?_ | refine Zbn (fun _ _ => rfl) ?_ | refine Kc2 rfl ?_))
  refine Zaa (fun m F σ' => ∃ i : Nat, F = fset 5 (some (.slc 5 (cols.map encC) false)) (fset 10 (some (.slc 1 N false)) (fset 11 (some (.slc 1 N false)) (fset 14 (some (.int .i64 (i : Nat))) Z27))) ∧ σ = σ' ∧ i ≤ L.length ∧ m = L.length - i) (n := L.length)
    ⟨0, rfl, rfl, by omega, by omega⟩ ?_
  rintro m F σ' ⟨i, rfl, rfl, hi, rfl⟩
  (repeat (first | refine st_q rfl rfl rfl ?_ | (refine Z8y ?_; (repeat (first | refine Z9v rfl ?_ | refine Z9w ?_)); refine Z9u ?_) | refine awp_seq ?_ | refine Zbm (fun _ _ => rfl) ?_))
  rw [hNl]
  refine Za3 (p := (i : Int) < (L.length : Nat)) rfl (fun h3 => ?_) (fun h3 => ?_)
  · have hil : i < L.length := by omega
    obtain ⟨c, hc, hcn⟩ := hC3 i hil
    have hx : (cols.map encC)[(i : Int).toNat]? = some (encC c) := by rw [Int.toNat_natCast, List.getElem?_map, hc]; rfl
    have hy : N[(i : Int).toNat]? = some (.int .i64 (c.here.length : Int)) := by rw [← hN, Int.toNat_natCast, List.getElem?_map, List.getElem?_range hil, hcn]; rfl
    have hm : (c.here.map Z0.bool).length = c.here.length := List.length_map ..
    (repeat (first | refine st_q rfl rfl rfl ?_ | refine awp_seq ?_ | refine Zbm (fun _ _ => rfl) ?_ | refine Z8h ?_ | refine Zbn (fun _ _ => rfl) ?_))
    refine Z93 rfl (by omega) hy ?_
    (repeat refine st_q rfl rfl rfl ?_)
    refine Z93 rfl (by omega) hy ?_
    (repeat refine st_q rfl rfl rfl ?_)
    (rw [decide_eq_false (p := (c.here.length : Int) ≠ (c.here.length : Int)) (by omega)])
    (repeat refine Z8v rfl (st_q rfl rfl rfl ?_))
    refine Z8v rfl (Z93 rfl (by omega) hy ?_)
    (repeat refine Z8v rfl (st_q rfl rfl rfl ?_))
    refine Z8v rfl (Z93 rfl (by omega) hx ?_)
    (repeat (first | refine st_q rfl rfl rfl ?_ | refine Z8v rfl (st_q rfl rfl rfl ?_) | (refine Z8y ?_; (repeat (first | refine Z9v rfl ?_ | refine Z9w ?_)); refine Z9u ?_)))
    rw [hm]
    (rw [decide_eq_false (p := (c.here.length : Int) ≠ (c.here.length : Int)) (by omega)])
    (repeat (first | refine Zbn (fun _ _ => rfl) ?_ | refine Kc2 rfl ?_))
    refine Zbp ?_
    (repeat (refine st_q rfl rfl rfl ?_))
    rw [show IntKind.wrap .i64 ((i : Int) + 1) = ((i + 1 : Nat) : Int) by rw [w64 _ (by omega) (by omega)]; omega]
    (refine Z8y ?_; (repeat (first | refine Z9v rfl ?_ | refine Z9w ?_)); refine Z9u ?_)
    exact ⟨_, L.length - (i + 1), HSub.refl _, ⟨i + 1, rfl, rfl, by omega, rfl⟩, by omega⟩
  · (repeat (first | refine st_q rfl rfl rfl ?_ | (refine Z8y ?_; (repeat (first | refine Z9v rfl ?_ | refine Z9w ?_)); refine Z9u ?_) | refine awp_seq ?_ | refine Zbm (fun _ _ => rfl) ?_ | refine Zbo (fun _ _ => rfl) ?_))
    refine Z8d ?_
    exact Kar rfl rfl
end Go.Abs

