/- Part U of a proof: merged by program. -/
import Derived.Test.YtgmefkhincnajaaPkT
import Derived.Test.YtgmefkhincnajaaProg
import Derived.KernelRfl
namespace Go.Abs
open Go
def Z1yp : List Z2a := [
  ⟨some 2, (.box 6), [.t 0], none⟩,
  ⟨some 4, .mov, [.c (.slc 0 [] true)], none⟩,
  ⟨some 5, .mov, [.c (.int .i64 0)], none⟩]
def Z1yq : List Z2a := [
  ⟨some 13, (.load true 6), [.t 2], none⟩,
  ⟨some 14, (.call Ze2), [.t 13], none⟩,
  ⟨some 6, .mov, [.t 14], none⟩]
def Z1yr : List Z2a := [
  ⟨some 15, .mov, [.t 6], none⟩,
  ⟨some 16, (.bin .neq), [.t 15, .c (.int .i64 0)], none⟩]
def Z1ys : List Z2a := [
  ⟨some 17, .mov, [.t 6], none⟩,
  ⟨some 4, .mov, [.c (.slc 0 [] true)], none⟩,
  ⟨some 5, .mov, [.t 17], none⟩]
def Z1yt : List Z2a := [
  ⟨some 18, .mov, [.t 1], none⟩,
  ⟨some 19, .lens, [.t 18], none⟩,
  ⟨some 20, .mov, [.c (.int .i64 0)], none⟩]
def Z1yu : List Z2a := [
  ⟨some 21, (.bin .lss), [.t 20, .t 19], none⟩]
def Z1yv : List Z2a := [
  ⟨some 22, (.iad 5), [.t 18, .t 20], none⟩,
  ⟨some 23, (.load true 5), [.t 22], none⟩,
  ⟨some 8, (.alloc (.agg [(.bool false), (.int .i64 0), (.int .i64 0), (.slc 0 [] true), (.slc 0 [] true)])), [], none⟩,
  ⟨none, (.store 5), [.t 8, .t 23], none⟩]
def Z1yw : List Z2a := [
  ⟨some 24, (.load true 6), [.t 2], none⟩,
  ⟨some 25, (.load true 5), [.t 8], none⟩,
  ⟨some 26, (.call Zet), [.t 24, .t 25], none⟩,
  ⟨some 9, .mov, [.t 26], none⟩]
def Z1yx : List Z2a := [
  ⟨some 27, .mov, [.t 9], none⟩,
  ⟨some 28, (.bin .neq), [.t 27, .c (.int .i64 0)], none⟩]
def Z1yy : List Z2a := [
  ⟨some 29, .mov, [.t 9], none⟩,
  ⟨some 4, .mov, [.c (.slc 0 [] true)], none⟩,
  ⟨some 5, .mov, [.t 29], none⟩]
def Z1yz : List Z2a := [
  ⟨some 30, (.fad 0), [.t 8], none⟩,
  ⟨some 31, (.load false 1), [.t 30], none⟩]
def Z1z0 : List Z2a := [
  ⟨some 4, .mov, [.c (.slc 0 [] true)], none⟩,
  ⟨some 5, .mov, [.c (.int .i64 1)], none⟩]
def Z1z1 : List Z2a := [
  ⟨some 32, (.bin .add), [.t 20, .c (.int .i64 1)], none⟩,
  ⟨some 20, .mov, [.t 32], none⟩]
def Z1z2 : Z2b := (.seq (.region Z1yu [1, 2, 18, 19, 20, 21]) (.seq (.cond (.t 21) .skip (.exit 0)) (.seq (.block 1 (.seq (.region Z1yv [1, 2, 8, 18, 19, 20]) (.seq (.seq (.region Z1yw [1, 2, 8, 9, 18, 19, 20]) (.seq (.region Z1yx [1, 2, 8, 9, 18, 19, 20, 28]) (.cond (.t 28) (.seq (.region Z1yy [4, 5]) .ret) .skip))) (.seq (.region Z1yz [1, 2, 18, 19, 20, 31]) (.cond (.t 31) (.seq (.region Z1z0 [4, 5]) .ret) .skip))))) (.region Z1z1 [1, 2, 18, 19, 20]))))
def Z1z3 : List Z2a := [
  ⟨some 33, (.load true 6), [.t 2], none⟩,
  ⟨some 34, (.call Zcs), [.t 33], none⟩,
  ⟨some 35, (.bld [(.slc 0 [] true), (.slc 0 [] true)] [(0, 1)]), [.t 34], none⟩,
  ⟨some 36, (.box 2), [.t 35], none⟩,
  ⟨some 10, .mov, [.t 36], none⟩]
def Z1z4 : List Z2a := [
  ⟨some 37, .mov, [.t 10], none⟩,
  ⟨some 38, .mov, [.t 10], none⟩,
  ⟨some 39, .nilc, [.t 38], none⟩,
  ⟨some 40, (.fad 0), [.t 39], none⟩,
  ⟨some 41, (.load false 1), [.t 40], none⟩,
  ⟨some 42, .lens, [.t 41], none⟩,
  ⟨some 43, (.mks 5 120 (.agg [(.slc 0 [] true), (.slc 0 [] true), (.slc 0 [] true), (.slc 0 [] true), (.slc 0 [] true)])), [.t 42, .t 42], none⟩,
  ⟨some 44, .nilc, [.t 37], none⟩,
  ⟨some 45, (.fad 1), [.t 44], none⟩,
  ⟨none, (.store 1), [.t 45, .t 43], none⟩]
def Z1z5 : List Z2a := [
  ⟨some 46, .mov, [.t 1], none⟩,
  ⟨some 47, .lens, [.t 46], none⟩,
  ⟨some 48, .mov, [.c (.int .i64 0)], none⟩]
def Z1z6 : List Z2a := [
  ⟨some 49, (.bin .lss), [.t 48, .t 47], none⟩]
def Z1z7 : List Z2a := [
  ⟨some 50, (.iad 5), [.t 46, .t 48], none⟩,
  ⟨some 51, (.load true 5), [.t 50], none⟩,
  ⟨some 12, (.alloc (.agg [(.bool false), (.int .i64 0), (.int .i64 0), (.slc 0 [] true), (.slc 0 [] true)])), [], none⟩,
  ⟨none, (.store 5), [.t 12, .t 51], none⟩]
def Z1z8 : List Z2a := [
  ⟨some 52, .mov, [.t 10], none⟩,
  ⟨some 53, (.load true 5), [.t 12], none⟩,
  ⟨some 54, (.call Zeu), [.t 52, .c (.int .i64 0), .t 53], none⟩,
  ⟨some 55, .unot, [.t 54], none⟩]
def Z1z9 : List Z2a := [
  ⟨some 4, .mov, [.c (.slc 0 [] true)], none⟩,
  ⟨some 5, .mov, [.c (.int .i64 4)], none⟩]
def Z1za : List Z2a := [
  ⟨some 56, (.bin .add), [.t 48, .c (.int .i64 1)], none⟩,
  ⟨some 48, .mov, [.t 56], none⟩]
def Z1zb : Z2b := (.seq (.region Z1z6 [10, 46, 47, 48, 49]) (.seq (.cond (.t 49) .skip (.exit 2)) (.seq (.block 3 (.seq (.region Z1z7 [10, 12, 46, 47, 48]) (.seq (.region Z1z8 [10, 46, 47, 48, 55]) (.cond (.t 55) (.seq (.region Z1z9 [4, 5]) .ret) .skip)))) (.region Z1za [10, 46, 47, 48]))))
def Z1zc : List Z2a := [
  ⟨some 57, .mov, [.t 10], none⟩,
  ⟨some 58, .nilc, [.t 57], none⟩,
  ⟨some 59, (.fad 1), [.t 58], none⟩,
  ⟨some 60, (.load false 1), [.t 59], none⟩,
  ⟨some 4, .mov, [.t 60], none⟩,
  ⟨some 5, .mov, [.c (.int .i64 0)], none⟩]
def Z1zd : Z2y := ⟨61, (.seq (.region Z1yp [1, 2]) (.seq (.seq (.region Z1yq [1, 2, 6]) (.seq (.region Z1yr [1, 2, 6, 16]) (.cond (.t 16) (.seq (.region Z1ys [4, 5]) .ret) .skip))) (.seq (.seq (.region Z1yt [1, 2, 18, 19, 20]) (.block 0 (.loop Z1z2))) (.seq (.region Z1z3 [1, 10]) (.seq (.region Z1z4 [1, 10]) (.seq (.seq (.region Z1z5 [10, 46, 47, 48]) (.block 2 (.loop Z1zb))) (.seq (.region Z1zc [4, 5]) .ret))))))), [.t 4, .t 5]⟩
def Z23t : List Z2a := [
  ⟨some 4, .mov, [.c (.bool false)], none⟩]
def Z23u : List Z2a := [
  ⟨some 16, (.call Zdi), [], none⟩,
  ⟨some 17, .unot, [.t 16], none⟩]
def Z23v : List Z2a := [
  ⟨some 4, .mov, [.c (.bool false)], none⟩]
def Z23w : List Z2a := [
  ⟨some 18, .mov, [.t 0], none⟩,
  ⟨some 19, .lens, [.t 18], none⟩,
  ⟨some 20, (.bin .gtr), [.t 19, .c (.int .i64 100)], none⟩,
  ⟨some 21, .mov, [.t 20], none⟩,
  ⟨some 22, .mov, [.t 1], some (21, false)⟩,
  ⟨some 23, .lens, [.t 22], some (21, false)⟩,
  ⟨some 24, .mov, [.t 0], some (21, false)⟩,
  ⟨some 25, .lens, [.t 24], some (21, false)⟩,
  ⟨some 26, (.bin .lss), [.t 23, .t 25], some (21, false)⟩,
  ⟨some 27, .pick, [.t 21, .c (.bool true), .t 26], none⟩]
def Z23x : List Z2a := [
  ⟨some 4, .mov, [.c (.bool true)], none⟩]
def Z23y : List Z2a := [
  ⟨some 28, (.bsl 1), [.c (.str [117])], none⟩,
  ⟨some 29, (.bld [(.int .i64 0), (.slc 0 [] true), (.slc 0 [] true), (.int .i64 0), (.int .i64 0), (.int .i64 0)] [(0, 1)]), [.c (.int .i64 1)], none⟩,
  ⟨some 30, (.bld [(.int .i64 0), (.slc 0 [] true), (.slc 0 [] true), (.int .i64 0), (.int .i64 0), (.int .i64 0)] [(0, 1)]), [.c (.int .i64 4)], none⟩,
  ⟨some 31, (.bsl 6), [.t 29, .t 30], none⟩,
  ⟨some 32, (.bld [(.int .i64 0), (.slc 0 [] true), (.slc 0 [] true), (.int .i64 0), (.int .i64 0), (.int .i64 0)] [(0, 1), (2, 1)]), [.c (.int .i64 13), .t 31], none⟩,
  ⟨some 33, (.bsl 6), [.t 32], none⟩,
  ⟨some 34, (.bld [(.int .i64 0), (.slc 0 [] true), (.slc 0 [] true), (.int .i64 0), (.int .i64 0), (.int .i64 0)] [(0, 1), (1, 1), (2, 1)]), [.c (.int .i64 12), .t 28, .t 33], none⟩,
  ⟨some 5, (.alloc (.agg [(.int .i64 0), (.slc 0 [] true), (.slc 0 [] true), (.int .i64 0), (.int .i64 0), (.int .i64 0)])), [], none⟩,
  ⟨none, (.store 6), [.t 5, .t 34], none⟩]
def Z23z : List Z2a := [
  ⟨some 6, .mov, [.c (.slc 0 [] true)], none⟩]
def Z240 : List Z2a := [
  ⟨some 7, .mov, [.c (.slc 0 [] true)], none⟩,
  ⟨some 8, .mov, [.c (.slc 0 [] true)], none⟩,
  ⟨some 9, .mov, [.c (.slc 0 [] true)], none⟩]
def Z241 : List Z2a := [
  ⟨some 10, .mov, [.c (.int .i64 0)], none⟩]
def Z242 : List Z2a := [
  ⟨some 35, .mov, [.t 10], none⟩,
  ⟨some 36, .mov, [.t 0], none⟩,
  ⟨some 37, .lens, [.t 36], none⟩,
  ⟨some 38, (.bin .lss), [.t 35, .t 37], none⟩]
def Z243 : List Z2a := [
  ⟨some 11, .mov, [.c (.int .i64 0)], none⟩]
def Z244 : List Z2a := [
  ⟨some 41, .mov, [.t 0], none⟩,
  ⟨some 42, .mov, [.t 10], none⟩,
  ⟨some 43, (.iad 1), [.t 41, .t 42], none⟩,
  ⟨some 44, (.load false 1), [.t 43], none⟩]
def Z245 : List Z2a := [
  ⟨some 11, .mov, [.c (.int .i64 1)], none⟩]
def Z246 : List Z2a := [
  ⟨some 45, .mov, [.t 8], none⟩,
  ⟨some 46, .mov, [.t 1], none⟩,
  ⟨some 47, .mov, [.t 10], none⟩,
  ⟨some 48, (.iad 1), [.t 46, .t 47], none⟩,
  ⟨some 49, (.load false 1), [.t 48], none⟩,
  ⟨some 50, (.conv .i64), [.t 49], none⟩,
  ⟨some 51, (.bsl 1), [.t 50], none⟩,
  ⟨some 52, (.app 1 8), [.t 45, .t 51], none⟩,
  ⟨some 8, .mov, [.t 52], none⟩]
def Z247 : List Z2a := [
  ⟨some 53, .mov, [.t 7], none⟩,
  ⟨some 54, .mov, [.t 1], none⟩,
  ⟨some 55, .mov, [.t 10], none⟩,
  ⟨some 56, (.iad 1), [.t 54, .t 55], none⟩,
  ⟨some 57, (.load false 1), [.t 56], none⟩,
  ⟨some 58, (.conv .i64), [.t 57], none⟩,
  ⟨some 59, (.bsl 1), [.t 58], none⟩,
  ⟨some 60, (.app 1 8), [.t 53, .t 59], none⟩,
  ⟨some 7, .mov, [.t 60], none⟩]
def Z248 : List Z2a := [
  ⟨some 61, .mov, [.t 9], none⟩,
  ⟨some 62, .mov, [.t 11], none⟩,
  ⟨some 63, (.bsl 1), [.t 62], none⟩,
  ⟨some 64, (.app 1 8), [.t 61, .t 63], none⟩,
  ⟨some 9, .mov, [.t 64], none⟩]
def Z249 : List Z2a := [
  ⟨some 65, .mov, [.t 6], none⟩,
  ⟨some 66, .mov, [.t 11], none⟩,
  ⟨some 67, .mov, [.t 1], none⟩,
  ⟨some 68, .mov, [.t 10], none⟩,
  ⟨some 69, (.iad 1), [.t 67, .t 68], none⟩,
  ⟨some 70, (.load false 1), [.t 69], none⟩,
  ⟨some 71, (.conv .i64), [.t 70], none⟩,
  ⟨some 72, (.bld [(.bool false), (.int .i64 0), (.int .i64 0), (.slc 0 [] true), (.slc 0 [] true)] [(1, 1)]), [.t 71], none⟩,
  ⟨some 73, (.bsl 5), [.t 72], none⟩,
  ⟨some 74, (.bld [(.bool false), (.int .i64 0), (.int .i64 0), (.slc 0 [] true), (.slc 0 [] true)] [(1, 1), (4, 1)]), [.t 66, .t 73], none⟩,
  ⟨some 75, (.bsl 5), [.t 74], none⟩,
  ⟨some 76, (.bld [(.bool false), (.int .i64 0), (.int .i64 0), (.slc 0 [] true), (.slc 0 [] true)] [(4, 1)]), [.t 75], none⟩,
  ⟨some 77, (.bsl 5), [.t 76], none⟩,
  ⟨some 78, (.app 5 72), [.t 65, .t 77], none⟩,
  ⟨some 6, .mov, [.t 78], none⟩]
def Z24a : List Z2a := [
  ⟨some 39, .mov, [.t 10], none⟩,
  ⟨some 40, (.bin .add), [.t 39, .c (.int .i64 1)], none⟩,
  ⟨some 10, .mov, [.t 40], none⟩]
def Z24b : Z2b := (.seq (.seq (.region Z242 [0, 1, 5, 6, 7, 8, 9, 10, 38]) (.cond (.t 38) .skip (.exit 0))) (.seq (.block 1 (.seq (.region Z243 [0, 1, 5, 6, 7, 8, 9, 10, 11]) (.seq (.seq (.region Z244 [0, 1, 5, 6, 7, 8, 9, 10, 11, 44]) (.cond (.t 44) (.seq (.region Z245 [0, 1, 5, 6, 7, 8, 9, 10, 11]) (.region Z246 [0, 1, 5, 6, 7, 8, 9, 10, 11])) (.region Z247 [0, 1, 5, 6, 7, 8, 9, 10, 11]))) (.seq (.region Z248 [0, 1, 5, 6, 7, 8, 9, 10, 11]) (.region Z249 [0, 1, 5, 6, 7, 8, 9, 10]))))) (.region Z24a [0, 1, 5, 6, 7, 8, 9, 10])))
def Z24c : List Z2a := [
  ⟨some 80, (.load true 6), [.t 5], none⟩,
  ⟨some 81, .mov, [.t 6], none⟩,
  ⟨some 82, (.call Zdj), [.t 80, .t 81], none⟩,
  ⟨some 79, .mov, [.t 82], none⟩,
  ⟨some 83, (.ext 0), [.t 79], none⟩,
  ⟨some 84, (.ext 1), [.t 79], none⟩,
  ⟨some 12, .mov, [.t 83], none⟩,
  ⟨some 13, .mov, [.t 84], none⟩]
def Z24d : List Z2a := [
  ⟨some 85, .mov, [.t 13], none⟩,
  ⟨some 86, (.bin .neq), [.t 85, .c (.int .i64 0)], none⟩,
  ⟨some 87, .mov, [.t 86], none⟩,
  ⟨some 88, .mov, [.t 12], some (87, false)⟩,
  ⟨some 89, .lens, [.t 88], some (87, false)⟩,
  ⟨some 90, (.bin .neq), [.t 89, .c (.int .i64 4)], some (87, false)⟩,
  ⟨some 91, .pick, [.t 87, .c (.bool true), .t 90], none⟩]
def Z24e : List Z2a := [
  ⟨some 4, .mov, [.c (.bool false)], none⟩]
def Z24f : List Z2a := [
  ⟨some 93, (.load true 6), [.t 5], none⟩,
  ⟨some 94, .mov, [.t 12], none⟩,
  ⟨some 95, .mov, [.t 6], none⟩,
  ⟨some 96, .lens, [.t 95], none⟩,
  ⟨some 97, (.call Zdp), [.t 93, .t 94, .t 96, .c (.slc 0 [] true)], none⟩,
  ⟨some 92, .mov, [.t 97], none⟩,
  ⟨some 98, (.ext 0), [.t 92], none⟩,
  ⟨some 99, (.ext 1), [.t 92], none⟩,
  ⟨some 14, .mov, [.t 98], none⟩,
  ⟨some 15, .mov, [.t 99], none⟩]
def Z24g : List Z2a := [
  ⟨some 100, .mov, [.t 12], none⟩,
  ⟨some 101, (.iad 5), [.t 100, .c (.int .i64 1)], none⟩,
  ⟨some 102, (.load true 5), [.t 101], none⟩,
  ⟨some 103, .mov, [.t 12], none⟩,
  ⟨some 104, (.iad 5), [.t 103, .c (.int .i64 1)], none⟩,
  ⟨some 105, (.fad 0), [.t 104], none⟩,
  ⟨some 106, (.load false 1), [.t 105], none⟩,
  ⟨some 107, .mov, [.t 9], none⟩,
  ⟨some 108, (.bld [(.slc 0 [] true), (.slc 0 [] true), (.slc 0 [] true), (.slc 0 [] true), (.slc 0 [] true)] [(0, 1), (1, 1)]), [.t 106, .t 107], none⟩,
  ⟨some 109, (.call Zdk), [.t 102, .t 108], none⟩,
  ⟨some 110, .mov, [.t 109], none⟩,
  ⟨some 111, .mov, [.t 12], some (110, true)⟩,
  ⟨some 112, (.iad 5), [.t 111, .c (.int .i64 2)], some (110, true)⟩,
  ⟨some 113, (.load true 5), [.t 112], some (110, true)⟩,
  ⟨some 114, .mov, [.t 12], some (110, true)⟩,
  ⟨some 115, (.iad 5), [.t 114, .c (.int .i64 2)], some (110, true)⟩,
  ⟨some 116, (.fad 0), [.t 115], some (110, true)⟩,
  ⟨some 117, (.load false 1), [.t 116], some (110, true)⟩,
  ⟨some 118, .mov, [.t 7], some (110, true)⟩,
  ⟨some 119, (.bld [(.slc 0 [] true), (.slc 0 [] true), (.slc 0 [] true), (.slc 0 [] true), (.slc 0 [] true)] [(0, 1), (1, 1)]), [.t 117, .t 118], some (110, true)⟩,
  ⟨some 120, (.call Zdk), [.t 113, .t 119], some (110, true)⟩,
  ⟨some 121, .pick, [.t 110, .t 120, .c (.bool false)], none⟩,
  ⟨some 122, .mov, [.t 121], none⟩,
  ⟨some 123, .mov, [.t 12], some (122, true)⟩,
  ⟨some 124, (.iad 5), [.t 123, .c (.int .i64 3)], some (122, true)⟩,
  ⟨some 125, (.load true 5), [.t 124], some (122, true)⟩,
  ⟨some 126, .mov, [.t 12], some (122, true)⟩,
  ⟨some 127, (.iad 5), [.t 126, .c (.int .i64 3)], some (122, true)⟩,
  ⟨some 128, (.fad 0), [.t 127], some (122, true)⟩,
  ⟨some 129, (.load false 1), [.t 128], some (122, true)⟩,
  ⟨some 130, .mov, [.t 8], some (122, true)⟩,
  ⟨some 131, (.bld [(.slc 0 [] true), (.slc 0 [] true), (.slc 0 [] true), (.slc 0 [] true), (.slc 0 [] true)] [(0, 1), (1, 1)]), [.t 129, .t 130], some (122, true)⟩,
  ⟨some 132, (.call Zdk), [.t 125, .t 131], some (122, true)⟩,
  ⟨some 133, .pick, [.t 122, .t 132, .c (.bool false)], none⟩,
  ⟨some 134, .mov, [.t 133], none⟩,
  ⟨some 135, .mov, [.t 15], some (134, true)⟩,
  ⟨some 136, (.bin .eql), [.t 135, .c (.int .i64 0)], some (134, true)⟩,
  ⟨some 137, .pick, [.t 134, .t 136, .c (.bool false)], none⟩,
  ⟨some 138, .mov, [.t 137], none⟩,
  ⟨some 139, .mov, [.t 14], some (138, true)⟩,
  ⟨some 140, .mov, [.t 6], some (138, true)⟩,
  ⟨some 141, (.call Zdq), [.t 139, .t 140], some (138, true)⟩,
  ⟨some 142, .pick, [.t 138, .t 141, .c (.bool false)], none⟩,
  ⟨some 4, .mov, [.t 142], none⟩]
def Z24h : Z2y := ⟨143, (.seq (.region Z23t [0, 1]) (.seq (.seq (.region Z23u [0, 1, 17]) (.cond (.t 17) (.seq (.region Z23v [4]) .ret) .skip)) (.seq (.seq (.region Z23w [0, 1, 27]) (.cond (.t 27) (.seq (.region Z23x [4]) .ret) .skip)) (.seq (.region Z23y [0, 1, 5]) (.seq (.region Z23z [0, 1, 5, 6]) (.seq (.region Z240 [0, 1, 5, 6, 7, 8, 9]) (.seq (.seq (.region Z241 [0, 1, 5, 6, 7, 8, 9, 10]) (.block 0 (.loop Z24b))) (.seq (.region Z24c [5, 6, 7, 8, 9, 12, 13]) (.seq (.seq (.region Z24d [5, 6, 7, 8, 9, 12, 91]) (.cond (.t 91) (.seq (.region Z24e [4]) .ret) .skip)) (.seq (.region Z24f [6, 7, 8, 9, 12, 14, 15]) (.seq (.region Z24g [4]) .ret))))))))))), [.t 4]⟩
def Z20y : List Z2a := [
  ⟨some 0, .mov, [.c (.bool false)], none⟩]
def Z20z : List Z2a := [
  ⟨some 8, (.bsl 1), [.c (.str [97])], none⟩,
  ⟨some 9, (.bld [(.int .i64 0), (.slc 0 [] true), (.slc 0 [] true), (.int .i64 0), (.int .i64 0), (.int .i64 0)] [(0, 1)]), [.c (.int .i64 3)], none⟩,
  ⟨some 10, (.bsl 6), [.t 9], none⟩,
  ⟨some 11, (.bld [(.int .i64 0), (.slc 0 [] true), (.slc 0 [] true), (.int .i64 0), (.int .i64 0), (.int .i64 0)] [(0, 1), (2, 1)]), [.c (.int .i64 10), .t 10], none⟩,
  ⟨some 12, (.bsl 6), [.t 11], none⟩,
  ⟨some 13, (.bld [(.int .i64 0), (.slc 0 [] true), (.slc 0 [] true), (.int .i64 0), (.int .i64 0), (.int .i64 0)] [(0, 1), (1, 1), (2, 1)]), [.c (.int .i64 12), .t 8, .t 12], none⟩,
  ⟨some 1, (.alloc (.agg [(.int .i64 0), (.slc 0 [] true), (.slc 0 [] true), (.int .i64 0), (.int .i64 0), (.int .i64 0)])), [], none⟩,
  ⟨none, (.store 6), [.t 1, .t 13], none⟩]
def Z210 : List Z2a := [
  ⟨some 14, (.bld [(.bool false), (.int .i64 0), (.int .i64 0), (.slc 0 [] true), (.slc 0 [] true)] [(1, 1)]), [.c (.int .i64 1)], none⟩,
  ⟨some 15, (.bld [(.bool false), (.int .i64 0), (.int .i64 0), (.slc 0 [] true), (.slc 0 [] true)] [(0, 1)]), [.c (.bool true)], none⟩,
  ⟨some 16, (.bsl 5), [.t 14, .t 15], none⟩,
  ⟨some 17, (.bld [(.bool false), (.int .i64 0), (.int .i64 0), (.slc 0 [] true), (.slc 0 [] true)] [(4, 1)]), [.t 16], none⟩,
  ⟨some 18, (.bsl 5), [.t 17], none⟩,
  ⟨some 19, (.bld [(.bool false), (.int .i64 0), (.int .i64 0), (.slc 0 [] true), (.slc 0 [] true)] [(4, 1)]), [.t 18], none⟩,
  ⟨some 20, (.bld [(.bool false), (.int .i64 0), (.int .i64 0), (.slc 0 [] true), (.slc 0 [] true)] [(0, 1)]), [.c (.bool true)], none⟩,
  ⟨some 21, (.bsl 5), [.t 20], none⟩,
  ⟨some 22, (.bld [(.bool false), (.int .i64 0), (.int .i64 0), (.slc 0 [] true), (.slc 0 [] true)] [(4, 1)]), [.t 21], none⟩,
  ⟨some 23, (.bsl 5), [.t 19, .t 22], none⟩,
  ⟨some 2, .mov, [.t 23], none⟩]
def Z211 : List Z2a := [
  ⟨some 25, (.load true 6), [.t 1], none⟩,
  ⟨some 26, .mov, [.t 2], none⟩,
  ⟨some 27, (.call Zdj), [.t 25, .t 26], none⟩,
  ⟨some 24, .mov, [.t 27], none⟩,
  ⟨some 28, (.ext 0), [.t 24], none⟩,
  ⟨some 29, (.ext 1), [.t 24], none⟩,
  ⟨some 3, .mov, [.t 28], none⟩,
  ⟨some 4, .mov, [.t 29], none⟩]
def Z212 : List Z2a := [
  ⟨some 30, .mov, [.t 4], none⟩,
  ⟨some 31, (.bin .neq), [.t 30, .c (.int .i64 0)], none⟩,
  ⟨some 32, .mov, [.t 31], none⟩,
  ⟨some 33, .mov, [.t 3], some (32, false)⟩,
  ⟨some 34, .lens, [.t 33], some (32, false)⟩,
  ⟨some 35, (.bin .neq), [.t 34, .c (.int .i64 3)], some (32, false)⟩,
  ⟨some 36, .pick, [.t 32, .c (.bool true), .t 35], none⟩]
def Z213 : List Z2a := [
  ⟨some 0, .mov, [.c (.bool false)], none⟩]
def Z214 : List Z2a := [
  ⟨some 38, (.load true 6), [.t 1], none⟩,
  ⟨some 39, .mov, [.t 3], none⟩,
  ⟨some 40, (.call Zdp), [.t 38, .t 39, .c (.int .i64 2), .c (.slc 0 [] true)], none⟩,
  ⟨some 37, .mov, [.t 40], none⟩,
  ⟨some 41, (.ext 0), [.t 37], none⟩,
  ⟨some 42, (.ext 1), [.t 37], none⟩,
  ⟨some 5, .mov, [.t 41], none⟩,
  ⟨some 6, .mov, [.t 42], none⟩]
def Z215 : List Z2a := [
  ⟨some 43, (.load true 6), [.t 1], none⟩,
  ⟨some 44, (.call Zcs), [.t 43], none⟩,
  ⟨some 45, .mov, [.t 3], none⟩,
  ⟨some 46, (.call Zdn), [.t 44, .t 45, .c (.int .i64 2)], none⟩,
  ⟨some 7, .mov, [.t 46], none⟩]
def Z216 : List Z2a := [
  ⟨some 47, .mov, [.t 6], none⟩,
  ⟨some 48, (.bin .eql), [.t 47, .c (.int .i64 0)], none⟩,
  ⟨some 49, .mov, [.t 48], none⟩,
  ⟨some 50, .mov, [.t 5], some (49, true)⟩,
  ⟨some 51, .lens, [.t 50], some (49, true)⟩,
  ⟨some 52, (.bin .eql), [.t 51, .c (.int .i64 2)], some (49, true)⟩,
  ⟨some 53, .pick, [.t 49, .t 52, .c (.bool false)], none⟩,
  ⟨some 54, .mov, [.t 53], none⟩,
  ⟨some 55, .mov, [.t 5], some (54, true)⟩,
  ⟨some 56, (.iad 5), [.t 55, .c (.int .i64 0)], some (54, true)⟩,
  ⟨some 57, (.load true 5), [.t 56], some (54, true)⟩,
  ⟨some 58, .mov, [.t 2], some (54, true)⟩,
  ⟨some 59, (.iad 5), [.t 58, .c (.int .i64 0)], some (54, true)⟩,
  ⟨some 60, (.load true 5), [.t 59], some (54, true)⟩,
  ⟨some 61, (.call Zd2), [.t 57, .t 60], some (54, true)⟩,
  ⟨some 62, .pick, [.t 54, .t 61, .c (.bool false)], none⟩,
  ⟨some 63, .mov, [.t 62], none⟩,
  ⟨some 64, .mov, [.t 5], some (63, true)⟩,
  ⟨some 65, (.iad 5), [.t 64, .c (.int .i64 1)], some (63, true)⟩,
  ⟨some 66, (.load true 5), [.t 65], some (63, true)⟩,
  ⟨some 67, .mov, [.t 2], some (63, true)⟩,
  ⟨some 68, (.iad 5), [.t 67, .c (.int .i64 1)], some (63, true)⟩,
  ⟨some 69, (.load true 5), [.t 68], some (63, true)⟩,
  ⟨some 70, (.call Zd2), [.t 66, .t 69], some (63, true)⟩,
  ⟨some 71, .pick, [.t 63, .t 70, .c (.bool false)], none⟩,
  ⟨some 72, .mov, [.t 71], none⟩,
  ⟨some 73, .mov, [.t 7], some (72, true)⟩,
  ⟨some 74, .lens, [.t 73], some (72, true)⟩,
  ⟨some 75, (.bin .eql), [.t 74, .c (.int .i64 3)], some (72, true)⟩,
  ⟨some 76, .pick, [.t 72, .t 75, .c (.bool false)], none⟩,
  ⟨some 77, .mov, [.t 76], none⟩,
  ⟨some 78, .mov, [.t 7], some (77, true)⟩,
  ⟨some 79, (.iad 1), [.t 78, .c (.int .i64 2)], some (77, true)⟩,
  ⟨some 80, (.load false 1), [.t 79], some (77, true)⟩,
  ⟨some 81, (.bin .eql), [.t 80, .c (.int .i64 2)], some (77, true)⟩,
  ⟨some 82, .pick, [.t 77, .t 81, .c (.bool false)], none⟩,
  ⟨some 83, .mov, [.t 82], none⟩,
  ⟨some 84, .mov, [.t 3], some (83, true)⟩,
  ⟨some 85, (.iad 5), [.t 84, .c (.int .i64 1)], some (83, true)⟩,
  ⟨some 86, (.load true 5), [.t 85], some (83, true)⟩,
  ⟨some 87, (.call Zdl), [.t 86], some (83, true)⟩,
  ⟨some 88, .pick, [.t 83, .t 87, .c (.bool false)], none⟩,
  ⟨some 89, .mov, [.t 88], none⟩,
  ⟨some 90, .mov, [.t 3], some (89, true)⟩,
  ⟨some 91, (.iad 5), [.t 90, .c (.int .i64 0)], some (89, true)⟩,
  ⟨some 92, (.load true 5), [.t 91], some (89, true)⟩,
  ⟨some 93, (.call Zdl), [.t 92], some (89, true)⟩,
  ⟨some 94, .unot, [.t 93], some (89, true)⟩,
  ⟨some 95, .pick, [.t 89, .t 94, .c (.bool false)], none⟩,
  ⟨some 96, .mov, [.t 95], none⟩,
  ⟨some 97, .mov, [.t 3], some (96, true)⟩,
  ⟨some 98, (.iad 5), [.t 97, .c (.int .i64 2)], some (96, true)⟩,
  ⟨some 99, (.fad 1), [.t 98], some (96, true)⟩,
  ⟨some 100, (.load false 1), [.t 99], some (96, true)⟩,
  ⟨some 101, .lens, [.t 100], some (96, true)⟩,
  ⟨some 102, (.bin .eql), [.t 101, .c (.int .i64 1)], some (96, true)⟩,
  ⟨some 103, .pick, [.t 96, .t 102, .c (.bool false)], none⟩,
  ⟨some 0, .mov, [.t 103], none⟩]
def Z217 : Z2y := ⟨104, (.seq (.region Z20y []) (.seq (.region Z20z [1]) (.seq (.region Z210 [1, 2]) (.seq (.region Z211 [1, 2, 3, 4]) (.seq (.seq (.region Z212 [1, 2, 3, 36]) (.cond (.t 36) (.seq (.region Z213 [0]) .ret) .skip)) (.seq (.region Z214 [1, 2, 3, 5, 6]) (.seq (.region Z215 [2, 3, 5, 6, 7]) (.seq (.region Z216 [0]) .ret)))))))), [.t 0]⟩
def Z24i : List Z2a := [
  ⟨some 2, (.box 5), [.t 0], none⟩,
  ⟨some 3, (.box 5), [.t 1], none⟩,
  ⟨some 4, .mov, [.c (.bool false)], none⟩]
def Z24j : List Z2a := [
  ⟨some 8, (.fad 0), [.t 2], none⟩,
  ⟨some 9, (.load false 1), [.t 8], none⟩,
  ⟨some 10, .lens, [.t 9], none⟩,
  ⟨some 11, (.fad 0), [.t 3], none⟩,
  ⟨some 12, (.load false 1), [.t 11], none⟩,
  ⟨some 13, .lens, [.t 12], none⟩,
  ⟨some 14, (.bin .neq), [.t 10, .t 13], none⟩,
  ⟨some 15, .mov, [.t 14], none⟩,
  ⟨some 16, (.fad 2), [.t 2], some (15, false)⟩,
  ⟨some 17, (.load false 1), [.t 16], some (15, false)⟩,
  ⟨some 18, .lens, [.t 17], some (15, false)⟩,
  ⟨some 19, (.fad 2), [.t 3], some (15, false)⟩,
  ⟨some 20, (.load false 1), [.t 19], some (15, false)⟩,
  ⟨some 21, .lens, [.t 20], some (15, false)⟩,
  ⟨some 22, (.bin .neq), [.t 18, .t 21], some (15, false)⟩,
  ⟨some 23, .pick, [.t 15, .c (.bool true), .t 22], none⟩,
  ⟨some 24, .mov, [.t 23], none⟩,
  ⟨some 25, (.fad 3), [.t 2], some (24, false)⟩,
  ⟨some 26, (.load false 1), [.t 25], some (24, false)⟩,
  ⟨some 27, .lens, [.t 26], some (24, false)⟩,
  ⟨some 28, (.fad 3), [.t 3], some (24, false)⟩,
  ⟨some 29, (.load false 1), [.t 28], some (24, false)⟩,
  ⟨some 30, .lens, [.t 29], some (24, false)⟩,
  ⟨some 31, (.bin .neq), [.t 27, .t 30], some (24, false)⟩,
  ⟨some 32, .pick, [.t 24, .c (.bool true), .t 31], none⟩,
  ⟨some 33, .mov, [.t 32], none⟩,
  ⟨some 34, (.fad 1), [.t 2], some (33, false)⟩,
  ⟨some 35, (.load false 1), [.t 34], some (33, false)⟩,
  ⟨some 36, (.fad 1), [.t 3], some (33, false)⟩,
  ⟨some 37, (.load false 1), [.t 36], some (33, false)⟩,
  ⟨some 38, (.call Zev), [.t 35, .t 37], some (33, false)⟩,
  ⟨some 39, .unot, [.t 38], some (33, false)⟩,
  ⟨some 40, .pick, [.t 33, .c (.bool true), .t 39], none⟩,
  ⟨some 41, .mov, [.t 40], none⟩,
  ⟨some 42, (.fad 4), [.t 2], some (41, false)⟩,
  ⟨some 43, (.load false 1), [.t 42], some (41, false)⟩,
  ⟨some 44, (.fad 4), [.t 3], some (41, false)⟩,
  ⟨some 45, (.load false 1), [.t 44], some (41, false)⟩,
  ⟨some 46, (.call Zev), [.t 43, .t 45], some (41, false)⟩,
  ⟨some 47, .unot, [.t 46], some (41, false)⟩,
  ⟨some 48, .pick, [.t 41, .c (.bool true), .t 47], none⟩]
def Z24k : List Z2a := [
  ⟨some 4, .mov, [.c (.bool false)], none⟩]
def Z24l : List Z2a := [
  ⟨some 5, .mov, [.c (.int .i64 0)], none⟩]
def Z24m : List Z2a := [
  ⟨some 49, .mov, [.t 5], none⟩,
  ⟨some 50, (.fad 0), [.t 2], none⟩,
  ⟨some 51, (.load false 1), [.t 50], none⟩,
  ⟨some 52, .lens, [.t 51], none⟩,
  ⟨some 53, (.bin .lss), [.t 49, .t 52], none⟩]
def Z24n : List Z2a := [
  ⟨some 56, (.fad 0), [.t 2], none⟩,
  ⟨some 57, (.load false 1), [.t 56], none⟩,
  ⟨some 58, .mov, [.t 5], none⟩,
  ⟨some 59, (.iad 1), [.t 57, .t 58], none⟩,
  ⟨some 60, (.load false 1), [.t 59], none⟩,
  ⟨some 61, (.fad 0), [.t 3], none⟩,
  ⟨some 62, (.load false 1), [.t 61], none⟩,
  ⟨some 63, .mov, [.t 5], none⟩,
  ⟨some 64, (.iad 1), [.t 62, .t 63], none⟩,
  ⟨some 65, (.load false 1), [.t 64], none⟩,
  ⟨some 66, (.binb .neq), [.t 60, .t 65], none⟩]
def Z24o : List Z2a := [
  ⟨some 4, .mov, [.c (.bool false)], none⟩]
def Z24p : List Z2a := [
  ⟨some 54, .mov, [.t 5], none⟩,
  ⟨some 55, (.bin .add), [.t 54, .c (.int .i64 1)], none⟩,
  ⟨some 5, .mov, [.t 55], none⟩]
def Z24q : Z2b := (.seq (.seq (.region Z24m [2, 3, 5, 53]) (.cond (.t 53) .skip (.exit 0))) (.seq (.block 1 (.seq (.region Z24n [2, 3, 5, 66]) (.cond (.t 66) (.seq (.region Z24o [4]) .ret) .skip))) (.region Z24p [2, 3, 5])))
def Z24r : List Z2a := [
  ⟨some 6, .mov, [.c (.int .i64 0)], none⟩]
def Z24s : List Z2a := [
  ⟨some 67, .mov, [.t 6], none⟩,
  ⟨some 68, (.fad 2), [.t 2], none⟩,
  ⟨some 69, (.load false 1), [.t 68], none⟩,
  ⟨some 70, .lens, [.t 69], none⟩,
  ⟨some 71, (.bin .lss), [.t 67, .t 70], none⟩]
def Z24t : List Z2a := [
  ⟨some 74, (.fad 2), [.t 2], none⟩,
  ⟨some 75, (.load false 1), [.t 74], none⟩,
  ⟨some 76, .mov, [.t 6], none⟩,
  ⟨some 77, (.iad 1), [.t 75, .t 76], none⟩,
  ⟨some 78, (.load false 1), [.t 77], none⟩,
  ⟨some 79, (.fad 2), [.t 3], none⟩,
  ⟨some 80, (.load false 1), [.t 79], none⟩,
  ⟨some 81, .mov, [.t 6], none⟩,
  ⟨some 82, (.iad 1), [.t 80, .t 81], none⟩,
  ⟨some 83, (.load false 1), [.t 82], none⟩,
  ⟨some 84, (.bin .neq), [.t 78, .t 83], none⟩]
def Z24u : List Z2a := [
  ⟨some 4, .mov, [.c (.bool false)], none⟩]
def Z24v : List Z2a := [
  ⟨some 72, .mov, [.t 6], none⟩,
  ⟨some 73, (.bin .add), [.t 72, .c (.int .i64 1)], none⟩,
  ⟨some 6, .mov, [.t 73], none⟩]
def Z24w : Z2b := (.seq (.seq (.region Z24s [2, 3, 6, 71]) (.cond (.t 71) .skip (.exit 2))) (.seq (.block 3 (.seq (.region Z24t [2, 3, 6, 84]) (.cond (.t 84) (.seq (.region Z24u [4]) .ret) .skip))) (.region Z24v [2, 3, 6])))
def Z24x : List Z2a := [
  ⟨some 7, .mov, [.c (.int .i64 0)], none⟩]
def Z24y : List Z2a := [
  ⟨some 85, .mov, [.t 7], none⟩,
  ⟨some 86, (.fad 3), [.t 2], none⟩,
  ⟨some 87, (.load false 1), [.t 86], none⟩,
  ⟨some 88, .lens, [.t 87], none⟩,
  ⟨some 89, (.bin .lss), [.t 85, .t 88], none⟩]
def Z24z : List Z2a := [
  ⟨some 92, (.fad 3), [.t 2], none⟩,
  ⟨some 93, (.load false 1), [.t 92], none⟩,
  ⟨some 94, .mov, [.t 7], none⟩,
  ⟨some 95, (.iad 1), [.t 93, .t 94], none⟩,
  ⟨some 96, (.load false 1), [.t 95], none⟩,
  ⟨some 97, .b2s, [.t 96], none⟩,
  ⟨some 98, (.fad 3), [.t 3], none⟩,
  ⟨some 99, (.load false 1), [.t 98], none⟩,
  ⟨some 100, .mov, [.t 7], none⟩,
  ⟨some 101, (.iad 1), [.t 99, .t 100], none⟩,
  ⟨some 102, (.load false 1), [.t 101], none⟩,
  ⟨some 103, .b2s, [.t 102], none⟩,
  ⟨some 104, (.bin .neq), [.t 97, .t 103], none⟩]
def Z250 : List Z2a := [
  ⟨some 4, .mov, [.c (.bool false)], none⟩]
def Z251 : List Z2a := [
  ⟨some 90, .mov, [.t 7], none⟩,
  ⟨some 91, (.bin .add), [.t 90, .c (.int .i64 1)], none⟩,
  ⟨some 7, .mov, [.t 91], none⟩]
def Z252 : Z2b := (.seq (.seq (.region Z24y [2, 3, 7, 89]) (.cond (.t 89) .skip (.exit 4))) (.seq (.block 5 (.seq (.region Z24z [2, 3, 7, 104]) (.cond (.t 104) (.seq (.region Z250 [4]) .ret) .skip))) (.region Z251 [2, 3, 7])))
def Z253 : List Z2a := [
  ⟨some 4, .mov, [.c (.bool true)], none⟩]
def Z254 : Z2y := ⟨105, (.seq (.region Z24i [2, 3]) (.seq (.seq (.region Z24j [2, 3, 48]) (.cond (.t 48) (.seq (.region Z24k [4]) .ret) .skip)) (.seq (.seq (.region Z24l [2, 3, 5]) (.block 0 (.loop Z24q))) (.seq (.seq (.region Z24r [2, 3, 6]) (.block 2 (.loop Z24w))) (.seq (.seq (.region Z24x [2, 3, 7]) (.block 4 (.loop Z252))) (.seq (.region Z253 [4]) .ret)))))), [.t 4]⟩
def Z255 : List Z2a := [
  ⟨some 4, .mov, [.c (.bool false)], none⟩]
def Z256 : List Z2a := [
  ⟨some 6, .mov, [.t 0], none⟩,
  ⟨some 7, .lens, [.t 6], none⟩,
  ⟨some 8, .mov, [.t 1], none⟩,
  ⟨some 9, .lens, [.t 8], none⟩,
  ⟨some 10, (.bin .neq), [.t 7, .t 9], none⟩]
def Z257 : List Z2a := [
  ⟨some 4, .mov, [.c (.bool false)], none⟩]
def Z258 : List Z2a := [
  ⟨some 5, .mov, [.c (.int .i64 0)], none⟩]
def Z259 : List Z2a := [
  ⟨some 11, .mov, [.t 5], none⟩,
  ⟨some 12, .mov, [.t 0], none⟩,
  ⟨some 13, .lens, [.t 12], none⟩,
  ⟨some 14, (.bin .lss), [.t 11, .t 13], none⟩]
def Z25a : List Z2a := [
  ⟨some 17, .mov, [.t 0], none⟩,
  ⟨some 18, .mov, [.t 5], none⟩,
  ⟨some 19, (.iad 1), [.t 17, .t 18], none⟩,
  ⟨some 20, (.load false 1), [.t 19], none⟩,
  ⟨some 21, .mov, [.t 1], none⟩,
  ⟨some 22, .mov, [.t 5], none⟩,
  ⟨some 23, (.iad 1), [.t 21, .t 22], none⟩,
  ⟨some 24, (.load false 1), [.t 23], none⟩,
  ⟨some 25, (.bin .neq), [.t 20, .t 24], none⟩]
def Z25b : List Z2a := [
  ⟨some 4, .mov, [.c (.bool false)], none⟩]
def Z25c : List Z2a := [
  ⟨some 15, .mov, [.t 5], none⟩,
  ⟨some 16, (.bin .add), [.t 15, .c (.int .i64 1)], none⟩,
  ⟨some 5, .mov, [.t 16], none⟩]
def Z25d : Z2b := (.seq (.seq (.region Z259 [0, 1, 5, 14]) (.cond (.t 14) .skip (.exit 0))) (.seq (.block 1 (.seq (.region Z25a [0, 1, 5, 25]) (.cond (.t 25) (.seq (.region Z25b [4]) .ret) .skip))) (.region Z25c [0, 1, 5])))
def Z25e : List Z2a := [
  ⟨some 4, .mov, [.c (.bool true)], none⟩]
def Z25f : Z2y := ⟨26, (.seq (.region Z255 [0, 1]) (.seq (.seq (.region Z256 [0, 1, 10]) (.cond (.t 10) (.seq (.region Z257 [4]) .ret) .skip)) (.seq (.seq (.region Z258 [0, 1, 5]) (.block 0 (.loop Z25d))) (.seq (.region Z25e [4]) .ret)))), [.t 4]⟩
end Go.Abs
namespace Go.Abs
open Go Go.Proofs
theorem Z218 : Z2z Try.prog [] Zdj = some Z1zd.erase := by kernel_rfl
theorem Z25g : Z2z Try.prog [] Zcm = some Z24h.erase := by kernel_rfl
theorem Z21b : Z2z Try.prog [] Zdi = some Z217.erase := by kernel_rfl
theorem Z25h : Z2z Try.prog [] Zdk = some Z254.erase := by kernel_rfl
theorem Z25i : Z2z Try.prog [] Zev = some Z25f.erase := by kernel_rfl
end Go.Abs
namespace Go.Abs
open Go Go.Proofs
set_option linter.unusedVariables false
set_option linter.unusedSimpArgs false
set_option maxHeartbeats 4000000
attribute [local irreducible] AWp aops KP
theorem Z21j (t : Ty) (ht : t.Fit) (rows : List Vl) (hr : ∀ v ∈ rows, v.Fit) (hl : rows.length ≤ 140737488355328) (σ : Zc) :
    Z1q Try.prog Zdj [encT t, .slc 5 (Zm5 rows) false] σ fun r σ' => r = .tup [.slc 5 ((Z1i6 t rows).1.map encC) false, .int .i64 ((Z1i6 t rows).2 : Int)] ∧ σ' = σ := by
  have hcT := Zn1 t ht
  have hfl := Znk t ht
  have hrl := Zm9 rows
  generalize hX : Z1i6 t rows = X
  rw [Zlp] at hcT hfl ⊢
  refine Z8t rfl Z218 (Nat.le_of_ble_eq_true rfl) ?_
  refine Z9z ?_
  refine Z9j rfl (Z0.fit_iff.1 rfl) fun b2 hb2 => ?_
  (repeat (refine st_q rfl rfl rfl ?_))
  (refine Z8y ?_; (repeat (first | refine Z9v rfl ?_ | refine Z9w ?_)); refine Z9u ?_)
  refine Zb3 (d := 2) (cs := Zlo t) rfl ?_
  (repeat (first | refine st_q rfl rfl rfl ?_ | refine awp_seq ?_ | refine Zbm (fun _ _ => rfl) ?_))
  refine Z9t rfl (hcT _) ?_
  by_cases h0 : Zlx t = 0
  rotate_left
  · rw [Z1i6, if_pos h0] at hX
    subst hX
    (repeat (first | refine st_q rfl rfl rfl ?_ | (refine Z8y ?_; (repeat (first | refine Z9v rfl ?_ | refine Z9w ?_)); refine Z9u ?_) | refine awp_seq ?_ | refine Zbm (fun _ _ => rfl) ?_))
    (rw [show decide ((Zlx t : Int) ≠ 0) = true from decide_eq_true (by omega)])
    (repeat (first | refine st_q rfl rfl rfl ?_ | (refine Z8y ?_; (repeat (first | refine Z9v rfl ?_ | refine Z9w ?_)); refine Z9u ?_) | refine awp_seq ?_ | refine Zbm (fun _ _ => rfl) ?_ | refine Z8f (t := true) rfl (fun _ => ?_) (fun e => by cases e)))
    refine Z8d ?_
    exact Zau rfl (VRle.tup (VRle.cons (VRle.nilF _ _) (VRle.refl _))) (HSub.refl _) ⟨rfl, rfl⟩
  have hTok : t.Ok := Ztu t _ _ h0
  rw [Z1i6, if_neg (by omega)] at hX
  (repeat (first | refine st_q rfl rfl rfl ?_ | (refine Z8y ?_; (repeat (first | refine Z9v rfl ?_ | refine Z9w ?_)); refine Z9u ?_) | refine awp_seq ?_ | refine Zbm (fun _ _ => rfl) ?_))
  (rw [show decide ((Zlx t : Int) ≠ 0) = false from decide_eq_false (by omega)])
  (repeat (first | refine st_q rfl rfl rfl ?_ | (refine Z8y ?_; (repeat (first | refine Z9v rfl ?_ | refine Z9w ?_)); refine Z9u ?_) | refine awp_seq ?_ | refine Zbm (fun _ _ => rfl) ?_ | refine Z8h ?_ | refine Zbn (fun _ _ => rfl) ?_ | refine Z8f (t := false) rfl (fun e => by cases e) (fun _ => ?_)))
  rw [hrl]
  refine Zaa (fun m F σ' => ∃ (j : Nat), F = fset 1 (some (.slc 5 (Zm5 rows) false)) (fset 2 (some (.iptr (Zlo t))) (fset 18 (some (.slc 5 (Zm5 rows) false)) (fset 19 (some (.int .i64 (rows.length : Nat))) (fset 20 (some (.int .i64 (j : Int))) Z27)))) ∧
    σ = σ' ∧ j ≤ rows.length ∧ rowsE t (rows.drop j) = rowsE t rows ∧ m = rows.length - j) (n := rows.length) ⟨0, rfl, rfl, by omega, rfl, rfl⟩ ?_
  rintro m F σ' ⟨j, rfl, rfl, hj, hE, rfl⟩
  (repeat (first | refine st_q rfl rfl rfl ?_ | (refine Z8y ?_; (repeat (first | refine Z9v rfl ?_ | refine Z9w ?_)); refine Z9u ?_) | refine awp_seq ?_ | refine Zbm (fun _ _ => rfl) ?_))
  refine Za3 (p := (j : Int) < (rows.length : Nat)) rfl (fun h5 => ?_) (fun h5 => ?_)
  · have hjl : j < rows.length := by omega
    have hxv : (Zm5 rows)[((j : Nat) : Int).toNat]? = some (encV rows[j]) := Zma (by rw [Int.toNat_natCast, List.getElem?_eq_getElem hjl])
    have hcv := Z138 rows[j] (hr _ (List.getElem_mem hjl)) t hTok
    rw [Z1i7 t hjl, rowE] at hE
    generalize rows[j] = v at hxv hcv hE
    rw [Zm7] at hxv
    simp only [Zm7, Zlp] at hcv
    (repeat (first | refine awp_seq ?_ | refine Zbm (fun _ _ => rfl) ?_ | refine Z8h ?_ | refine Zbn (fun _ _ => rfl) ?_))
    refine Z93 rfl (by omega) hxv ?_
    (repeat (refine st_q rfl rfl rfl ?_))
    refine Z9k (by simp [Z0.cells, Z0.one]) fun b8 hb8 => ?_
    (first | refine Z9a rfl Z8z rfl (by decide) (Z0.fit_iff.1 rfl) (fun h => by cases h) Z9b ?_ | refine Z8v rfl (Z9a rfl Z8z rfl (by decide) (Z0.fit_iff.1 rfl) (fun h => by cases h) Z9b ?_))
    (refine Z8y ?_; (repeat (first | refine Z9v rfl ?_ | refine Z9w ?_)); refine Z9u ?_)
    refine Zb3 (d := 8) (cs := Zm6 v) rfl ?_
    (refine Z9y (keep := [1, 2, 8, 18, 19, 20]) ?_; ((repeat (first | refine Z9v rfl ?_ | refine Z9w ?_)); refine Z9u ?_))
    (repeat (first | refine st_q rfl rfl rfl ?_ | refine awp_seq ?_ | refine Zbm (fun _ _ => rfl) ?_))
    refine Z9t rfl (hcv _) ?_
    generalize vchk t v = x at hE
    by_cases hx : x = 0
    · subst hx
      (repeat (first | refine st_q rfl rfl rfl ?_ | (refine Z8y ?_; (repeat (first | refine Z9v rfl ?_ | refine Z9w ?_)); refine Z9u ?_) | refine awp_seq ?_ | refine Zbm (fun _ _ => rfl) ?_ | refine Zbn (fun _ _ => rfl) ?_ | refine Z8f (t := false) rfl (fun e => by cases e) (fun _ => ?_)))
      cases hn : v.null with
      | true =>
        rw [hn] at hE
        simp at hE
        rw [← hE, if_pos (by decide)] at hX
        subst hX
        (repeat (first | refine st_q rfl rfl rfl ?_ | (refine Z8y ?_; (repeat (first | refine Z9v rfl ?_ | refine Z9w ?_)); refine Z9u ?_) | refine awp_seq ?_ | refine Zbm (fun _ _ => rfl) ?_ | refine Z8f (t := true) rfl (fun _ => ?_) (fun e => by cases e)))
        refine Z8d ?_
        exact Zau rfl (VRle.tup (VRle.cons (VRle.nilF _ _) (VRle.refl _))) (HSub.refl _) ⟨rfl, rfl⟩
      | false =>
        rw [hn] at hE
        simp at hE
        (repeat (first | refine Zbn (fun _ _ => rfl) ?_ | refine Z8f (t := false) rfl (fun e => by cases e) (fun _ => ?_)))
        refine Zbp ?_
        (repeat (refine st_q rfl rfl rfl ?_))
        rw [show IntKind.wrap .i64 ((j : Int) + 1) = ((j + 1 : Nat) : Int) by rw [w64 _ (by omega) (by omega)]; omega]
        (refine Z8y ?_; (repeat (first | refine Z9v rfl ?_ | refine Z9w ?_)); refine Z9u ?_)
        exact ⟨_, rows.length - (j + 1), HSub.refl _, ⟨j + 1, rfl, rfl, by omega, hE, rfl⟩, by omega⟩
    · have hx2 : ¬ (x = 0 ∧ v.null = true) := fun h => hx h.1
      rw [if_neg hx2, if_pos hx] at hE
      rw [← hE, if_pos hx] at hX
      subst hX
      (repeat (first | refine st_q rfl rfl rfl ?_ | (refine Z8y ?_; (repeat (first | refine Z9v rfl ?_ | refine Z9w ?_)); refine Z9u ?_) | refine awp_seq ?_ | refine Zbm (fun _ _ => rfl) ?_))
      (rw [show decide (((x : Nat) : Int) ≠ 0) = true from decide_eq_true (by omega)])
      (repeat (first | refine st_q rfl rfl rfl ?_ | (refine Z8y ?_; (repeat (first | refine Z9v rfl ?_ | refine Z9w ?_)); refine Z9u ?_) | refine awp_seq ?_ | refine Zbm (fun _ _ => rfl) ?_ | refine Z8f (t := true) rfl (fun _ => ?_) (fun e => by cases e)))
      refine Z8d ?_
      exact Zau rfl (VRle.tup (VRle.cons (VRle.nilF _ _) (VRle.refl _))) (HSub.refl _) ⟨rfl, rfl⟩
  rw [List.drop_of_length_le (by omega), rowsE] at hE
  rw [if_neg (by omega)] at hX
  have hok := Z1i8 hE.symm
  have hat := Zym t h0
  have hn100 : (Zm4 t).length ≤ 100 := by
    rw [Zm4, if_pos h0, Zm1]
    have := (Znd t _ _ h0).2.2
    omega
  generalize Zm4 t = l at *
  have hll : (l.map encN).length = l.length := List.length_map ..
  (repeat (first | refine st_q rfl rfl rfl ?_ | refine awp_seq ?_ | refine Zbm (fun _ _ => rfl) ?_ | refine Zbo (fun _ _ => rfl) ?_))
  refine Z9t rfl (hfl _) ?_
  (repeat (refine st_q rfl rfl rfl ?_))
  refine Z9j rfl (Z0.fit_iff.1 rfl) fun bw hbw => ?_
  (repeat (refine st_q rfl rfl rfl ?_))
  (refine Z8y ?_; (repeat (first | refine Z9v rfl ?_ | refine Z9w ?_)); refine Z9u ?_)
  refine Z9z ?_
  (repeat (refine st_q rfl rfl rfl ?_))
  refine Z92 rfl Z8z rfl rfl ?_
  (repeat (refine st_q rfl rfl rfl ?_))
  rw [hll]
  refine Z9l rfl (Z0.fit_iff.1 rfl) (by omega) (by omega) (by omega) (by omega) fun b hb => ?_
  rw [Int.toNat_natCast]
  have hne : b ≠ bw := fun e => hb (by rw [e]; simp [Zh])
  (repeat (refine st_q rfl rfl rfl ?_))
  refine Z9a rfl (Z90 hne Z8z) rfl (by decide) (Z0.fit_iff.1 rfl) (fun h => by cases h) (Z9c hne Z9b) ?_
  (refine Z8y ?_; (repeat (first | refine Z9v rfl ?_ | refine Z9w ?_)); refine Z9u ?_)
  refine Z8a (FSub.refl _) (HSub.swap _ _ _) ?_
  refine Zb3 (d := 10) (cs := [.slc 8 (l.map encN) true, .arr 5 b 0 l.length]) rfl ?_
  (refine Z9y (keep := [1, 10]) ?_; ((repeat (first | refine Z9v rfl ?_ | refine Z9w ?_)); refine Z9u ?_))
  (repeat (first | refine st_q rfl rfl rfl ?_ | (refine Z8y ?_; (repeat (first | refine Z9v rfl ?_ | refine Z9w ?_)); refine Z9u ?_) | refine awp_seq ?_ | refine Zbm (fun _ _ => rfl) ?_ | refine Z8h ?_))
  rw [hrl]
  generalize hY : Z1i5 l rows (List.replicate l.length col0) = Y at hX
  have hz : ∀ x ∈ List.replicate l.length col0, x.Sm := fun x hx => by
    rw [List.eq_of_mem_replicate hx]
    exact ⟨by simp [col0], by simp [col0], by simp [col0], by simp [col0], by simp [col0]⟩
  refine Zaa (fun m F σ' => ∃ (j : Nat) (ws : List Z0) (cs : List Col) (β : Zc), F = fset 10 (some (.iptr [.slc 8 (l.map encN) true, .arr 5 b 0 l.length])) (fset 46 (some (.slc 5 (Zm5 rows) false)) (fset 47 (some (.int .i64 (rows.length : Nat))) (fset 48 (some (.int .i64 (j : Int))) Z27))) ∧
    (b, Zb.cells 5 ws) :: (β ++ σ) = σ' ∧ Zy9 ws cs β ∧ cs.length = l.length ∧ (∀ x ∈ cs, x.Sm) ∧ j ≤ rows.length ∧ Z1i5 l (rows.drop j) cs = Y ∧ m = rows.length - j) (n := rows.length)
    ⟨0, _, _, [], rfl, rfl, Zy9.nil l.length, List.length_replicate, hz, by omega, hY, rfl⟩ ?_
  rintro m F σ' ⟨j, ws, cs, β, rfl, rfl, hG, hcl, hS, hj, hYj, rfl⟩
  (repeat (first | refine st_q rfl rfl rfl ?_ | (refine Z8y ?_; (repeat (first | refine Z9v rfl ?_ | refine Z9w ?_)); refine Z9u ?_) | refine awp_seq ?_ | refine Zbm (fun _ _ => rfl) ?_))
  refine Za3 (p := (j : Int) < (rows.length : Int)) rfl (fun h5 => ?_) (fun h5 => ?_)
  · have hjl : j < rows.length := by omega
    have hm := List.getElem_mem hjl
    have hxv : (Zm5 rows)[((j : Nat) : Int).toNat]? = some (encV rows[j]) := Zma (by rw [Int.toNat_natCast, List.getElem?_eq_getElem hjl])
    have hput := Z21i l rows[j] (hr _ hm) t 0 hat hTok (hok _ hm).1 ws cs β b σ hG hcl (by omega) hS
    rw [List.drop_eq_getElem_cons hjl, Z1i5] at hYj
    generalize rows[j] = v at hxv hput hYj
    rw [Zm7] at hxv
    rw [Zm7, hcl] at hput
    (repeat (first | refine awp_seq ?_ | refine Zbm (fun _ _ => rfl) ?_ | refine Z8h ?_ | refine Zbn (fun _ _ => rfl) ?_))
    refine Z93 rfl (by omega) hxv ?_
    (repeat (refine st_q rfl rfl rfl ?_))
    refine Z9k (by simp [Z0.cells, Z0.one]) fun b12 hb12 => ?_
    (first | refine Z9a rfl Z8z rfl (by decide) (Z0.fit_iff.1 rfl) (fun h => by cases h) Z9b ?_ | refine Z8v rfl (Z9a rfl Z8z rfl (by decide) (Z0.fit_iff.1 rfl) (fun h => by cases h) Z9b ?_))
    (refine Z8y ?_; (repeat (first | refine Z9v rfl ?_ | refine Z9w ?_)); refine Z9u ?_)
    refine Zb3 (d := 12) (cs := Zm6 v) rfl ?_
    (refine Z9y (keep := [10, 12, 46, 47, 48]) ?_; ((repeat (first | refine Z9v rfl ?_ | refine Z9w ?_)); refine Z9u ?_))
    refine Z9z ?_
    (repeat (refine st_q rfl rfl rfl ?_))
    obtain ⟨wsx, βx, hx⟩ := Zy9.ex (putF l 0 v cs).1
    refine Z9s rfl hput ⟨_, _, wsx, βx, hx, rfl, rfl⟩ ?_
    rintro r σ2 ⟨ws2, β5, hG2, rfl, rfl⟩
    (repeat (refine st_q rfl rfl rfl ?_))
    (refine Z8y ?_; (repeat (first | refine Z9v rfl ?_ | refine Z9w ?_)); refine Z9u ?_)
    have hlen2 := Z1i3 l v 0 cs
    have hSm2 := Z1i4 l v 0 cs hS
    generalize putF l 0 v cs = pr at hYj hG2 hlen2 hSm2
    obtain ⟨cs2, ok⟩ := pr
    cases ok with
    | true =>
      rw [if_pos rfl] at hYj
      (repeat (first | refine Zbn (fun _ _ => rfl) ?_ | refine Z8f (t := false) rfl (fun e => by cases e) (fun _ => ?_)))
      refine Zbp ?_
      (repeat (refine st_q rfl rfl rfl ?_))
      rw [show IntKind.wrap .i64 ((j : Int) + 1) = ((j + 1 : Nat) : Int) by rw [w64 _ (by omega) (by omega)]; omega]
      (refine Z8y ?_; (repeat (first | refine Z9v rfl ?_ | refine Z9w ?_)); refine Z9u ?_)
      exact ⟨_, rows.length - (j + 1), HSub.refl _, ⟨j + 1, ws2, cs2, β5, rfl, rfl, hG2, by rw [← hcl, ← hlen2], hSm2, by omega, hYj, rfl⟩, by omega⟩
    | false =>
      rw [if_neg (by simp)] at hYj
      subst hYj
      rw [if_neg (by simp)] at hX
      subst hX
      (repeat (first | refine st_q rfl rfl rfl ?_ | (refine Z8y ?_; (repeat (first | refine Z9v rfl ?_ | refine Z9w ?_)); refine Z9u ?_) | refine awp_seq ?_ | refine Zbm (fun _ _ => rfl) ?_ | refine Z8f (t := true) rfl (fun _ => ?_) (fun e => by cases e)))
      refine Z8d ?_
      exact Zau rfl (VRle.tup (VRle.cons (VRle.nilF _ _) (VRle.refl _))) (HSub.of_sublist (List.Sublist.cons _ (List.sublist_append_right _ _))) ⟨rfl, rfl⟩
  · rw [List.drop_of_length_le (by omega), Z1i5] at hYj
    subst hYj
    rw [if_pos rfl] at hX
    subst hX
    (repeat (first | refine st_q rfl rfl rfl ?_ | (refine Z8y ?_; (repeat (first | refine Z9v rfl ?_ | refine Z9w ?_)); refine Z9u ?_) | refine awp_seq ?_ | refine Zbm (fun _ _ => rfl) ?_ | refine Zbo (fun _ _ => rfl) ?_))
    refine Zby (by simpa using hG.freeze [] (by simp) b σ) ?_
    have e : l.length = (cs.map encC).length := by simp [hcl]
    rw [e]
    refine Zb1 (d := 4) rfl ?_
    refine Z8d ?_
    exact ares rfl (HSub.refl _) ⟨rfl, rfl⟩
end Go.Abs
namespace Go.Abs
open Go Go.Proofs
set_option linter.unusedVariables false
set_option linter.unusedSimpArgs false
set_option maxHeartbeats 4000000
attribute [local irreducible] AWp aops KP
def tI5 : Ty := .mk 3 [] [] 0 0 0
def tL5 : Ty := .mk 10 [] [tI5] 0 0 0
def tK5 : Ty := .mk 12 [[97]] [tL5] 0 0 0
def rowA5 : Vl := .mk false 0 0 [] [.mk false 0 0 [] [.mk false 1 0 [] [], .mk true 0 0 [] []]]
def rowB5 : Vl := .mk false 0 0 [] [.mk true 0 0 [] []]
def Z21k : List Col := [⟨[true, true], [], [], [], []⟩, ⟨[true, false], [], [], [], [2]⟩, ⟨[true, false], [1], [], [], []⟩]
def Z21l : List Nd := [⟨tK5, [1], -1, 1⟩, ⟨tL5, [2], 0, 2⟩, ⟨tI5, [], 1, 3⟩]
theorem Z21m : Zlx tK5 = 0 := by decide
theorem Z21n : Zm4 tK5 = Z21l := by rfl
theorem Z21o : Z1i6 tK5 [rowA5, rowB5] = (Z21k, 0) := by rfl
theorem Z21p : takeR Z21k [true, true, true] tK5 2 ⟨[0, 0, 0], [0, 0, 0]⟩ = some ([rowA5, rowB5], ⟨[2, 2, 2], [2, 1, 1]⟩) := by rfl
theorem Z21q : Z1va Z21l Z21k 2 = [2, 2, 2] := by rfl
theorem Z21r : tI5.Fit := .mk (by simp [tI5, Ty.kids]) (by simp [tI5, Ty.names]) (by simp [tI5, Ty.names]) (by simp [tI5, Ty.kids])
theorem Z21s : tL5.Fit := .mk (by simp [tL5, Ty.kids]) (by simp [tL5, Ty.names]) (by simp [tL5, Ty.names]) fun u hu => by
  simp only [tL5, Ty.kids, List.mem_singleton] at hu
  subst hu
  exact Z21r
theorem Z21t : tK5.Fit := .mk (by simp [tK5, Ty.kids]) (by simp [tK5, Ty.names]) (by simp [tK5, Ty.names, maxLen]) fun u hu => by
  simp only [tK5, Ty.kids, List.mem_singleton] at hu
  subst hu
  exact Z21s
theorem Z21u : ∀ v ∈ [rowA5, rowB5], v.Fit := by
  intro v hv
  simp only [List.mem_cons, List.not_mem_nil, or_false] at hv
  rcases hv with rfl | rfl
  · refine Z1rw _ (.mk (by simp [Vl.i]) (by simp [Vl.b]) (by simp [Vl.kids]) fun k hk => ?_)
    simp only [Vl.kids, List.mem_cons, List.not_mem_nil, or_false] at hk
    rcases hk with rfl | rfl
    · exact Z1rv _ _ (by omega)
    · exact Z1rv _ _ (by omega)
  · exact Z1rw _ (Z1rv _ _ (by omega))
theorem Z21v : ColsT Z21l Z21k [true, true, true] := by
  have h : ∀ i c, Z21k[i]? = some c → c ∈ Z21k := fun i c h => List.mem_of_getElem? h
  refine ⟨rfl, fun i c hc _ => ?_, fun i c hc _ => ?_, fun i c hc _ => ?_⟩
  all_goals
    have := h i c hc
    simp only [Z21k, List.mem_cons, List.not_mem_nil, or_false] at this
    rcases this with rfl | rfl | rfl
    all_goals first | (constructor <;> simp) | simp
theorem Z21w : Whole Z21l [true, true, true] := by
  intro i n hn x hx
  match i, hn with
  | 0, hn => cases hn; simp at hx; subst hx; exact ⟨fun _ => rfl, fun _ => .inl rfl⟩
  | 1, hn => cases hn; simp at hx; subst hx; exact ⟨fun _ => rfl, fun _ => .inl rfl⟩
  | 2, hn => cases hn; simp at hx
  | k + 3, hn => simp [Z21l] at hn
theorem Z21x : tK5.Ok := Ztu _ _ _ Z21m
theorem Z21y : tL5.Ok := by
  have := Z21x
  cases this with
  | mk _ h => exact h tL5 (by simp [tK5, Ty.kids])
theorem Z21z : tI5.Ok := by
  have := Z21y
  cases this with
  | mk _ h => exact h tI5 (by simp [tL5, Ty.kids])
theorem Z220 : Asks Z21l Z21k [true, true, true] 2 (fun _ => 2) (fun i => i == 0) := by
  refine ⟨rfl, rfl, fun i nd hn _ j x hx => ?_, fun i nd hn _ => ?_⟩
  · match i, hn with
    | 0, hn =>
      cases hn
      match j, hx with
      | 0, hx => cases hx; exact ⟨rfl, rfl⟩
      | k + 1, hx => simp at hx
    | 1, hn =>
      cases hn
      match j, hx with
      | 0, hx => cases hx; exact ⟨rfl, rfl⟩
      | k + 1, hx => simp at hx
    | 2, hn => cases hn; simp at hx
    | k + 3, hn => simp [Z21l] at hn
  · match i, hn with
    | 0, hn =>
      cases hn
      refine ⟨by constructor <;> simp [Z21k], by constructor <;> simp [Z21k], by constructor <;> rfl, rfl, by simp, Z21x, rfl, by simp [Z21k], by simp [Z21k], by simp [Z21k], fun _ => rfl, fun h => by cases h⟩
    | 1, hn =>
      cases hn
      refine ⟨by constructor <;> simp [Z21k], by constructor <;> simp [Z21k], by constructor <;> rfl, rfl, by simp, Z21y, rfl, by simp [Z21k], by simp [Z21k], by simp [Z21k], (fun h => by cases h), fun h => by decide⟩
    | 2, hn =>
      cases hn
      refine ⟨by constructor <;> simp [Z21k], by constructor <;> simp [Z21k], by constructor <;> rfl, rfl, by simp, Z21z, rfl, fun i v hv => ?_, by simp [Z21k], by simp [Z21k], (fun h => by cases h), fun h => by cases h⟩
      match i, hv with
      | 0, hv => cases hv; rfl
      | k + 1, hv => simp [Z21k] at hv
    | k + 3, hn => simp [Z21l] at hn
theorem Z221 (σ : Zc) : Z1q Try.prog Zdi [] σ fun r σ' => r = .bool true ∧ σ' = σ := by
  have hS := Z21j tK5 Z21t [rowA5, rowB5] Z21u (by simp)
  rw [Z21o, Zlp] at hS
  have hFl := Znk tK5 Z21t
  rw [Z21n, Zlp] at hFl
  have hB := fun f σ => Z1yo tK5 Z21t Z21m Z21k 2 (by omega) [] [true, true, true] (.inl ⟨rfl, rfl⟩) rfl rfl (by rw [Z21n]; exact Z21v) (by rw [Z21n]; exact Z21w) _ _ (by rw [Z21n]; exact Z220) _ _ (by rw [Z21n]; exact Z21p) false f σ
  rw [Zlp] at hB
  have hC := Z1vd Z21l (by rw [← Z21n]; exact Z1yn _) (by decide) Z21k rfl (fun c hc => by obtain ⟨i, hi⟩ := List.getElem?_of_mem hc; exact Z21v.sm i c hi (by match i, hi with | 0, _ => rfl | 1, _ => rfl | 2, _ => rfl | k + 3, hi => simp [Z21k] at hi)) 2 true false
  rw [Z21q] at hC
  refine Z8t rfl Z21b (Nat.le_of_ble_eq_true rfl) ?_
  refine Z9z ?_
  (repeat (refine st_q rfl rfl rfl ?_))
  (refine Z8y ?_; (repeat (first | refine Z9v rfl ?_ | refine Z9w ?_)); refine Z9u ?_)
  refine Z9z ?_
  (repeat (refine st_q rfl rfl rfl ?_))
  refine Z9k (by simp [Z0.cells, Z0.one]) fun b1 hb1 => ?_
  (first | refine Z9a rfl Z8z rfl (by decide) (Z0.fit_iff.1 rfl) (fun h => by cases h) Z9b ?_ | refine Z8v rfl (Z9a rfl Z8z rfl (by decide) (Z0.fit_iff.1 rfl) (fun h => by cases h) Z9b ?_))
  (refine Z8y ?_; (repeat (first | refine Z9v rfl ?_ | refine Z9w ?_)); refine Z9u ?_)
  refine Zby (Zbx.view (ys := [.agg (Zlo tK5)]) rfl rfl (by
    simp only [Zlo, tK5, tL5, tI5, Ty.kind, Ty.names, Ty.kids, Ty.len, Ty.prec, Ty.scale, Zln, encT, List.map_cons, List.map_nil]
    (repeat (first | exact VRle.refl _ | exact Zc5 | refine Zc6 rfl rfl ?_ | refine Zc7 rfl ?_ | refine Zc4 ?_ ?_)))) ?_
  refine Zb3 (d := 1) (cs := Zlo tK5) rfl ?_
  have hfb := Z21u rowA5 (by simp)
  have hfc := Z21u rowB5 (by simp)
  have hsA := Z1b3 rowA5 hfb rowA5
  have hsB := Z1b3 rowB5 hfc rowB5
  rw [Z1b1, Zm7] at hsA hsB
  refine Z9z ?_
  (repeat (refine st_q rfl rfl rfl ?_))
  (refine Z8y ?_; (repeat (first | refine Z9v rfl ?_ | refine Z9w ?_)); refine Z9u ?_)
  refine Zbt (d := 2) (v' := .slc 5 (Zm5 [rowA5, rowB5]) false) rfl (Zb6.le (by
    simp only [Zm5, encV, rowA5, rowB5, bytes, List.map_nil]
    (repeat (first | exact VRle.refl _ | exact Zc5 | refine Zc6 rfl rfl ?_ | refine Zc7 rfl ?_ | refine Zc4 ?_ ?_))) (HSub.refl _)) ?_
  (repeat (first | refine st_q rfl rfl rfl ?_ | refine awp_seq ?_ | refine Zbm (fun _ _ => rfl) ?_))
  refine Z9t rfl (hS _) ?_
  (repeat (first | refine st_q rfl rfl rfl ?_ | refine Z8v rfl (st_q rfl rfl rfl ?_) | (refine Z8y ?_; (repeat (first | refine Z9v rfl ?_ | refine Z9w ?_)); refine Z9u ?_) | refine awp_seq ?_ | refine Zbm (fun _ _ => rfl) ?_ | refine Zbn (fun _ _ => rfl) ?_ | refine Z8f (t := false) rfl (fun e => by cases e) (fun _ => ?_)))
  refine Z9t rfl (Z1q.args (VRle.cons (VRle.refl _) (VRle.cons (VRle.refl _) (VRle.cons (VRle.refl _) (VRle.nil_slc 0 1 true)))) (hB true _)) ?_
  (repeat (first | refine st_q rfl rfl rfl ?_ | (refine Z8y ?_; (repeat (first | refine Z9v rfl ?_ | refine Z9w ?_)); refine Z9u ?_) | refine awp_seq ?_ | refine Zbm (fun _ _ => rfl) ?_))
  refine Z9t rfl (hFl _) ?_
  (repeat refine st_q rfl rfl rfl ?_)
  refine Z9t rfl (hC _) ?_
  (repeat (first | refine st_q rfl rfl rfl ?_ | refine Z8v rfl (st_q rfl rfl rfl ?_) | (refine Z8y ?_; (repeat (first | refine Z9v rfl ?_ | refine Z9w ?_)); refine Z9u ?_) | refine awp_seq ?_ | refine Zbm (fun _ _ => rfl) ?_))
  refine Z8v rfl (Z9t rfl (hsA _) ?_)
  (repeat (first | refine st_q rfl rfl rfl ?_ | refine Z8v rfl (st_q rfl rfl rfl ?_)))
  refine Z8v rfl (Z9t rfl (hsB _) ?_)
  (repeat (first | refine st_q rfl rfl rfl ?_ | refine Z8v rfl (st_q rfl rfl rfl ?_)))
  refine Z8v rfl (Z9t rfl (Zxz ⟨[true, false], [], [], [], [2]⟩ (by simp) _) ?_)
  (repeat (first | refine st_q rfl rfl rfl ?_ | refine Z8v rfl (st_q rfl rfl rfl ?_)))
  refine Z8v rfl (Z9t rfl (Zxz ⟨[true, true], [], [], [], []⟩ (by simp) _) ?_)
  (repeat (first | refine st_q rfl rfl rfl ?_ | refine Z8v rfl (st_q rfl rfl rfl ?_) | (refine Z8y ?_; (repeat (first | refine Z9v rfl ?_ | refine Z9w ?_)); refine Z9u ?_)))
  refine Z8d ?_
  exact ares rfl (HSub.refl _) ⟨rfl, rfl⟩
end Go.Abs
namespace Go.Abs
open Go Go.Proofs
set_option linter.unusedVariables false
set_option linter.unusedSimpArgs false
set_option maxHeartbeats 4000000
attribute [local irreducible] AWp aops KP
theorem Z222 {b : Nat} {A : List Vl} {cs : List Z0} {v : Vl} {σ : Zc} (h : VRle cs (Zm6 v)) : Zbx ((b, .cells 5 (Zm5 A ++ [.agg cs])) :: σ) ((b, .cells 5 (Zm5 (A ++ [v]))) :: σ) := by
  have e : Zm5 (A ++ [v]) = Zm5 A ++ [.agg (Zm6 v)] := by rw [Zm8, Zm8, List.map_append, ← Zm7]; rfl
  rw [e]
  refine Zbx.content (by simp) (fun y hy => ?_) ?_
  · rcases List.mem_append.1 hy with hy | hy
    · rw [Zm8] at hy
      obtain ⟨w, _, rfl⟩ := List.mem_map.1 hy
      rw [Zm7]
      exact Z0.fit_iff.1 rfl
    · rw [List.mem_singleton.1 hy]
      exact Z0.fit_iff.1 rfl
  · rw [Z4, Z4]
    refine VRle.app (VRle.refl _) ?_
    simp only [Z3, Z2, Z0.cells, List.append_nil]
    exact h
end Go.Abs
namespace Go.Abs
open Go Go.Proofs
set_option linter.unusedVariables false
set_option linter.unusedSimpArgs false
set_option maxHeartbeats 4000000
attribute [local irreducible] AWp aops KP
theorem ab2sF {σ : Zc} {xs : List UInt8} {f : Bool} : ab2s σ [.slc 1 (bytes xs) f] = some (.str xs) := by
  simp [ab2s, Z1m, Zar]
theorem Z25j (xs : List Int) (hl : xs.length ≤ 1000000) (f g : Bool) (σ : Zc) : Z1q Try.prog Zev [.slc 1 (xs.map (.int .i64)) f, .slc 1 (xs.map (.int .i64)) g] σ fun r σ' => r = .bool true ∧ σ' = σ := by
  have hml : (xs.map (Z0.int .i64)).length = xs.length := List.length_map ..
  refine Z8t rfl Z25i (Nat.le_of_ble_eq_true rfl) ?_
  (repeat (first | refine st_q rfl rfl rfl ?_ | (refine Z8y ?_; (repeat (first | refine Z9v rfl ?_ | refine Z9w ?_)); refine Z9u ?_) | refine awp_seq ?_ | refine Zbm (fun _ _ => rfl) ?_))
  rw [hml]
  (rw [show decide ((xs.length : Int) ≠ (xs.length : Int)) = false from decide_eq_false (by omega)])
  (repeat (first | refine st_q rfl rfl rfl ?_ | (refine Z8y ?_; (repeat (first | refine Z9v rfl ?_ | refine Z9w ?_)); refine Z9u ?_) | refine awp_seq ?_ | refine Zbm (fun _ _ => rfl) ?_ | refine Z8h ?_ | refine Zbn (fun _ _ => rfl) ?_ | refine Z8f (t := false) rfl (fun e => by cases e) (fun _ => ?_)))
  refine Zaa (fun m F σ' => ∃ i : Nat, F = fset 0 (some (.slc 1 (xs.map (.int .i64)) f)) (fset 1 (some (.slc 1 (xs.map (.int .i64)) g)) (fset 5 (some (.int .i64 i)) Z27)) ∧ σ = σ' ∧ i ≤ xs.length ∧ m = xs.length - i) (n := xs.length)
    ⟨0, rfl, rfl, by omega, by omega⟩ ?_
  rintro m F σ' ⟨i, rfl, rfl, hi, rfl⟩
  (repeat (first | refine st_q rfl rfl rfl ?_ | (refine Z8y ?_; (repeat (first | refine Z9v rfl ?_ | refine Z9w ?_)); refine Z9u ?_) | refine awp_seq ?_ | refine Zbm (fun _ _ => rfl) ?_))
  rw [hml]
  refine Za3 (p := (i : Int) < (xs.length : Nat)) rfl (fun h3 => ?_) (fun h3 => ?_)
  · have hil : i < xs.length := by omega
    have hx := Zxw (f := Z0.int .i64) hil
    generalize xs[i] = y at hx
    (repeat (first | refine st_q rfl rfl rfl ?_ | refine awp_seq ?_ | refine Zbm (fun _ _ => rfl) ?_ | refine Z8h ?_ | refine Zbn (fun _ _ => rfl) ?_))
    refine Z93 rfl (by omega) hx ?_
    (repeat refine st_q rfl rfl rfl ?_)
    refine Z93 rfl (by omega) hx ?_
    (repeat (first | refine st_q rfl rfl rfl ?_ | (refine Z8y ?_; (repeat (first | refine Z9v rfl ?_ | refine Z9w ?_)); refine Z9u ?_)))
    (rw [show decide (y ≠ y) = false from decide_eq_false (by omega)])
    (repeat (first | refine Zbn (fun _ _ => rfl) ?_ | refine Z8f (t := false) rfl (fun e => by cases e) (fun _ => ?_)))
    refine Zbp ?_
    (repeat (refine st_q rfl rfl rfl ?_))
    rw [show IntKind.wrap .i64 ((i : Int) + 1) = ((i + 1 : Nat) : Int) by rw [w64 _ (by omega) (by omega)]; omega]
    (refine Z8y ?_; (repeat (first | refine Z9v rfl ?_ | refine Z9w ?_)); refine Z9u ?_)
    exact ⟨_, xs.length - (i + 1), HSub.refl _, ⟨i + 1, rfl, rfl, by omega, rfl⟩, by omega⟩
  · (repeat (first | refine st_q rfl rfl rfl ?_ | (refine Z8y ?_; (repeat (first | refine Z9v rfl ?_ | refine Z9w ?_)); refine Z9u ?_) | refine awp_seq ?_ | refine Zbm (fun _ _ => rfl) ?_ | refine Zbo (fun _ _ => rfl) ?_))
    refine Z8d ?_
    exact ares rfl (HSub.refl _) ⟨rfl, rfl⟩
theorem Z25k (c : Col) (hl : c.Sm) (σ : Zc) : Z1q Try.prog Zdk [encC c, encC c] σ fun r σ' => r = .bool true ∧ σ' = σ := by
  obtain ⟨l1, l2, l3, l4, l5⟩ := hl
  have el : ∀ {α : Type} (f : α → Z0) (l : List α), (l.map f).length = l.length := fun f l => List.length_map ..
  refine Z8t rfl Z25h (Nat.le_of_ble_eq_true rfl) ?_
  refine Z9z ?_
  refine Z9j rfl (Z0.fit_iff.1 rfl) fun b2 hb2 => ?_
  refine Z9j rfl (Z0.fit_iff.1 rfl) fun b3 hb3 => ?_
  (repeat (refine st_q rfl rfl rfl ?_))
  (refine Z8y ?_; (repeat (first | refine Z9v rfl ?_ | refine Z9w ?_)); refine Z9u ?_)
  refine Zb3 (d := 3) (cs := Zxu c) rfl ?_
  refine Zb3 (d := 2) (cs := Zxu c) rfl ?_
  (repeat (first | refine st_q rfl rfl rfl ?_ | refine awp_seq ?_ | refine Zbm (fun _ _ => rfl) ?_))
  rw [el]
  (rw [show decide ((c.here.length : Int) ≠ (c.here.length : Int)) = false from decide_eq_false (by omega)])
  (repeat (first | refine st_q rfl rfl rfl ?_ | refine Z8v rfl (st_q rfl rfl rfl ?_)))
  rw [el]
  (rw [show decide ((c.ns.length : Int) ≠ (c.ns.length : Int)) = false from decide_eq_false (by omega)])
  (repeat (first | refine st_q rfl rfl rfl ?_ | refine Z8v rfl (st_q rfl rfl rfl ?_)))
  rw [el]
  (rw [show decide ((c.texts.length : Int) ≠ (c.texts.length : Int)) = false from decide_eq_false (by omega)])
  (repeat refine Z8v rfl (st_q rfl rfl rfl ?_))
  refine Z8v rfl (Z9t rfl (Z25j c.ints (by omega) false false _) ?_)
  (repeat (first | refine st_q rfl rfl rfl ?_ | refine Z8v rfl (st_q rfl rfl rfl ?_)))
  refine Z8v rfl (Z9t rfl (Z25j c.lens (by omega) false false _) ?_)
  (repeat (first | refine st_q rfl rfl rfl ?_ | refine Z8v rfl (st_q rfl rfl rfl ?_) | (refine Z8y ?_; (repeat (first | refine Z9v rfl ?_ | refine Z9w ?_)); refine Z9u ?_) | refine awp_seq ?_ | refine Zbm (fun _ _ => rfl) ?_ | refine Z8h ?_ | refine Zbn (fun _ _ => rfl) ?_ | refine Z8f (t := false) rfl (fun e => by cases e) (fun _ => ?_)))
  refine Zaa (fun m F σ' => ∃ i : Nat, F = fset 2 (some (.iptr (Zxu c))) (fset 3 (some (.iptr (Zxu c))) (fset 5 (some (.int .i64 i)) Z27)) ∧ σ = σ' ∧ i ≤ c.here.length ∧ m = c.here.length - i) (n := c.here.length)
    ⟨0, rfl, rfl, by omega, by omega⟩ ?_
  rintro m F σ' ⟨i, rfl, rfl, hi, rfl⟩
  (repeat (first | refine st_q rfl rfl rfl ?_ | (refine Z8y ?_; (repeat (first | refine Z9v rfl ?_ | refine Z9w ?_)); refine Z9u ?_) | refine awp_seq ?_ | refine Zbm (fun _ _ => rfl) ?_))
  rw [el]
  refine Za3 (p := (i : Int) < (c.here.length : Nat)) rfl (fun h3 => ?_) (fun h3 => ?_)
  · have hil : i < c.here.length := by omega
    have hx := Zxw (f := Z0.bool) hil
    generalize c.here[i] = y at hx
    (repeat (first | refine st_q rfl rfl rfl ?_ | refine awp_seq ?_ | refine Zbm (fun _ _ => rfl) ?_ | refine Z8h ?_ | refine Zbn (fun _ _ => rfl) ?_))
    refine Z93 rfl (by omega) hx ?_
    (repeat refine st_q rfl rfl rfl ?_)
    refine Z93 rfl (by omega) hx ?_
    cases y
    all_goals
      (repeat (first | refine st_q rfl rfl rfl ?_ | (refine Z8y ?_; (repeat (first | refine Z9v rfl ?_ | refine Z9w ?_)); refine Z9u ?_) | refine Zbn (fun _ _ => rfl) ?_ | refine Z8f (t := false) rfl (fun e => by cases e) (fun _ => ?_)))
      refine Zbp ?_
      (repeat (refine st_q rfl rfl rfl ?_))
      rw [show IntKind.wrap .i64 ((i : Int) + 1) = ((i + 1 : Nat) : Int) by rw [w64 _ (by omega) (by omega)]; omega]
      (refine Z8y ?_; (repeat (first | refine Z9v rfl ?_ | refine Z9w ?_)); refine Z9u ?_)
      exact ⟨_, c.here.length - (i + 1), HSub.refl _, ⟨i + 1, rfl, rfl, by omega, rfl⟩, by omega⟩
  (repeat (first | refine st_q rfl rfl rfl ?_ | (refine Z8y ?_; (repeat (first | refine Z9v rfl ?_ | refine Z9w ?_)); refine Z9u ?_) | refine awp_seq ?_ | refine Zbm (fun _ _ => rfl) ?_ | refine Z8h ?_ | refine Zbo (fun _ _ => rfl) ?_))
  refine Zaa (fun m F σ' => ∃ i : Nat, F = fset 2 (some (.iptr (Zxu c))) (fset 3 (some (.iptr (Zxu c))) (fset 6 (some (.int .i64 i)) Z27)) ∧ σ = σ' ∧ i ≤ c.ns.length ∧ m = c.ns.length - i) (n := c.ns.length)
    ⟨0, rfl, rfl, by omega, by omega⟩ ?_
  rintro m F σ' ⟨i, rfl, rfl, hi, rfl⟩
  (repeat (first | refine st_q rfl rfl rfl ?_ | (refine Z8y ?_; (repeat (first | refine Z9v rfl ?_ | refine Z9w ?_)); refine Z9u ?_) | refine awp_seq ?_ | refine Zbm (fun _ _ => rfl) ?_))
  rw [el]
  refine Za3 (p := (i : Int) < (c.ns.length : Nat)) rfl (fun h3 => ?_) (fun h3 => ?_)
  · have hil : i < c.ns.length := by omega
    have hx := Zxw (f := Z0.int .i64) hil
    generalize c.ns[i] = y at hx
    (repeat (first | refine st_q rfl rfl rfl ?_ | refine awp_seq ?_ | refine Zbm (fun _ _ => rfl) ?_ | refine Z8h ?_ | refine Zbn (fun _ _ => rfl) ?_))
    refine Z93 rfl (by omega) hx ?_
    (repeat refine st_q rfl rfl rfl ?_)
    refine Z93 rfl (by omega) hx ?_
    (repeat (first | refine st_q rfl rfl rfl ?_ | (refine Z8y ?_; (repeat (first | refine Z9v rfl ?_ | refine Z9w ?_)); refine Z9u ?_)))
    (rw [show decide (y ≠ y) = false from decide_eq_false (by omega)])
    (repeat (first | refine Zbn (fun _ _ => rfl) ?_ | refine Z8f (t := false) rfl (fun e => by cases e) (fun _ => ?_)))
    refine Zbp ?_
    (repeat (refine st_q rfl rfl rfl ?_))
    rw [show IntKind.wrap .i64 ((i : Int) + 1) = ((i + 1 : Nat) : Int) by rw [w64 _ (by omega) (by omega)]; omega]
    (refine Z8y ?_; (repeat (first | refine Z9v rfl ?_ | refine Z9w ?_)); refine Z9u ?_)
    exact ⟨_, c.ns.length - (i + 1), HSub.refl _, ⟨i + 1, rfl, rfl, by omega, rfl⟩, by omega⟩
  (repeat (first | refine st_q rfl rfl rfl ?_ | (refine Z8y ?_; (repeat (first | refine Z9v rfl ?_ | refine Z9w ?_)); refine Z9u ?_) | refine awp_seq ?_ | refine Zbm (fun _ _ => rfl) ?_ | refine Z8h ?_ | refine Zbo (fun _ _ => rfl) ?_))
  refine Zaa (fun m F σ' => ∃ i : Nat, F = fset 2 (some (.iptr (Zxu c))) (fset 3 (some (.iptr (Zxu c))) (fset 7 (some (.int .i64 i)) Z27)) ∧ σ = σ' ∧ i ≤ c.texts.length ∧ m = c.texts.length - i) (n := c.texts.length)
    ⟨0, rfl, rfl, by omega, by omega⟩ ?_
  rintro m F σ' ⟨i, rfl, rfl, hi, rfl⟩
  (repeat (first | refine st_q rfl rfl rfl ?_ | (refine Z8y ?_; (repeat (first | refine Z9v rfl ?_ | refine Z9w ?_)); refine Z9u ?_) | refine awp_seq ?_ | refine Zbm (fun _ _ => rfl) ?_))
  rw [el]
  refine Za3 (p := (i : Int) < (c.texts.length : Nat)) rfl (fun h3 => ?_) (fun h3 => ?_)
  · have hil : i < c.texts.length := by omega
    have hx := Zxw (f := fun b => Z0.slc 1 (bytes b) false) hil
    generalize c.texts[i] = y at hx
    (repeat (first | refine st_q rfl rfl rfl ?_ | refine awp_seq ?_ | refine Zbm (fun _ _ => rfl) ?_ | refine Z8h ?_ | refine Zbn (fun _ _ => rfl) ?_))
    refine Z93 rfl (by omega) hx ?_
    (repeat (refine st_q rfl rfl rfl ?_))
    refine st_q rfl ab2sF rfl ?_
    (repeat (refine st_q rfl rfl rfl ?_))
    refine Z93 rfl (by omega) hx ?_
    (repeat (refine st_q rfl rfl rfl ?_))
    refine st_q rfl ab2sF rfl ?_
    (repeat (refine st_q rfl rfl rfl ?_))
    rw [show decide (y ≠ y) = false from decide_eq_false (fun h => h rfl)]
    (repeat (first | (refine Z8y ?_; (repeat (first | refine Z9v rfl ?_ | refine Z9w ?_)); refine Z9u ?_) | refine Zbn (fun _ _ => rfl) ?_ | refine Z8f (t := false) rfl (fun e => by cases e) (fun _ => ?_)))
    refine Zbp ?_
    (repeat (refine st_q rfl rfl rfl ?_))
    rw [show IntKind.wrap .i64 ((i : Int) + 1) = ((i + 1 : Nat) : Int) by rw [w64 _ (by omega) (by omega)]; omega]
    (refine Z8y ?_; (repeat (first | refine Z9v rfl ?_ | refine Z9w ?_)); refine Z9u ?_)
    exact ⟨_, c.texts.length - (i + 1), HSub.refl _, ⟨i + 1, rfl, rfl, by omega, rfl⟩, by omega⟩
  · (repeat (first | refine st_q rfl rfl rfl ?_ | (refine Z8y ?_; (repeat (first | refine Z9v rfl ?_ | refine Z9w ?_)); refine Z9u ?_) | refine awp_seq ?_ | refine Zbm (fun _ _ => rfl) ?_ | refine Zbo (fun _ _ => rfl) ?_))
    refine Z8d ?_
    exact ares rfl (HSub.refl _) ⟨rfl, rfl⟩
end Go.Abs
namespace Go.Abs
open Go Go.Proofs
set_option linter.unusedVariables false
set_option linter.unusedSimpArgs false
set_option maxHeartbeats 4000000
attribute [local irreducible] AWp aops KP
theorem Z25l (k : Int) : (Ty.mk k [] [] 0 0 0).Fit := .mk (by simp [Ty.kids]) (by simp [Ty.names]) (by simp [Ty.names]) (by simp [Ty.kids])
theorem Z25m : tU7.Fit := .mk (by simp [tU7, Ty.kids]) (by simp [tU7, Ty.names]) (by simp [tU7, Ty.names]) fun u hu => by
  simp only [tU7, Ty.kids, List.mem_cons, List.not_mem_nil, or_false] at hu
  rcases hu with rfl | rfl
  · exact Z25l 1
  · exact Z25l 4
theorem Z25n : tN7.Fit := .mk (by simp [tN7, Ty.kids]) (by simp [tN7, Ty.names]) (by simp [tN7, Ty.names, maxLen]) fun u hu => by
  simp only [tN7, Ty.kids, List.mem_singleton] at hu
  subst hu
  exact Z25m
theorem Z25o (p : Bool × Int) (hp : -128 ≤ p.2 ∧ p.2 ≤ 127) : (rowU7 p).Fit := by
  refine Z1rw _ ?_
  unfold inU7
  refine .mk ?_ (by simp [Vl.b]) (by simp [Vl.kids]) fun k hk => ?_
  · simp only [Vl.i, wI]
    split <;> omega
  · simp only [Vl.kids, List.mem_singleton] at hk
    subst hk
    exact Z1rv _ _ (by omega)
theorem Z25p (ws : List Bool) (ns : List Int) (hr : ∀ x ∈ ns, -128 ≤ x ∧ x ≤ 127) (σ : Zc) : Z1q Try.prog Zcm [.slc 1 (ws.map .bool) false, .slc 1 (ns.map (.int .i8)) false] σ fun r σ' => r = .bool true ∧ σ' = σ := by
  have hwl : (ws.map Z0.bool).length = ws.length := List.length_map ..
  have hnl : (ns.map (Z0.int .i8)).length = ns.length := List.length_map ..
  refine Z8t rfl Z25g (Nat.le_of_ble_eq_true rfl) ?_
  (repeat (first | refine st_q rfl rfl rfl ?_ | (refine Z8y ?_; (repeat (first | refine Z9v rfl ?_ | refine Z9w ?_)); refine Z9u ?_) | refine awp_seq ?_ | refine Zbm (fun _ _ => rfl) ?_))
  refine Z9t rfl (Z221 _) ?_
  (repeat (first | refine st_q rfl rfl rfl ?_ | (refine Z8y ?_; (repeat (first | refine Z9v rfl ?_ | refine Z9w ?_)); refine Z9u ?_) | refine awp_seq ?_ | refine Zbm (fun _ _ => rfl) ?_ | refine Zbn (fun _ _ => rfl) ?_ | refine Z8f (t := false) rfl (fun e => by cases e) (fun _ => ?_)))
  rw [hwl]
  by_cases h1 : 100 < ws.length
  · (rw [show decide ((100 : Int) < (ws.length : Int)) = true from decide_eq_true (by omega)])
    (repeat (first | refine st_q rfl rfl rfl ?_ | refine Z8w rfl ?_ | (refine Z8y ?_; (repeat (first | refine Z9v rfl ?_ | refine Z9w ?_)); refine Z9u ?_) | refine awp_seq ?_ | refine Zbm (fun _ _ => rfl) ?_ | refine Z8f (t := true) rfl (fun _ => ?_) (fun e => by cases e)))
    refine Z8d ?_
    exact ares rfl (HSub.refl _) ⟨rfl, rfl⟩
  (rw [show decide ((100 : Int) < (ws.length : Int)) = false from decide_eq_false (by omega)])
  (repeat (first | refine st_q rfl rfl rfl ?_ | refine Z8v rfl (st_q rfl rfl rfl ?_) | (refine Z8y ?_; (repeat (first | refine Z9v rfl ?_ | refine Z9w ?_)); refine Z9u ?_)))
  rw [hnl, hwl]
  by_cases h2 : ns.length < ws.length
  · (rw [show decide ((ns.length : Int) < (ws.length : Int)) = true from decide_eq_true (by omega)])
    (repeat (first | refine st_q rfl rfl rfl ?_ | (refine Z8y ?_; (repeat (first | refine Z9v rfl ?_ | refine Z9w ?_)); refine Z9u ?_) | refine awp_seq ?_ | refine Zbm (fun _ _ => rfl) ?_ | refine Z8f (t := true) rfl (fun _ => ?_) (fun e => by cases e)))
    refine Z8d ?_
    exact ares rfl (HSub.refl _) ⟨rfl, rfl⟩
  (rw [show decide ((ns.length : Int) < (ws.length : Int)) = false from decide_eq_false (by omega)])
  (repeat (first | refine st_q rfl rfl rfl ?_ | refine awp_seq ?_ | refine Zbm (fun _ _ => rfl) ?_ | refine Zbn (fun _ _ => rfl) ?_ | refine Z8f (t := false) rfl (fun e => by cases e) (fun _ => ?_)))
  refine Z9k (by simp [Z0.cells, Z0.one]) fun b5 hb5 => ?_
  (first | refine Z9a rfl Z8z rfl (by decide) (Z0.fit_iff.1 rfl) (fun h => by cases h) Z9b ?_ | refine Z8v rfl (Z9a rfl Z8z rfl (by decide) (Z0.fit_iff.1 rfl) (fun h => by cases h) Z9b ?_))
  (refine Z8y ?_; (repeat (first | refine Z9v rfl ?_ | refine Z9w ?_)); refine Z9u ?_)
  refine Zby (Zbx.view (ys := [.agg (Zlo tN7)]) rfl rfl (by
    simp only [Zlo, tN7, tU7, tB7, tG7, Ty.kind, Ty.names, Ty.kids, Ty.len, Ty.prec, Ty.scale, Zln, encT, List.map_cons, List.map_nil]
    (repeat (first | exact VRle.refl _ | exact Zc5 | refine Zc6 rfl rfl ?_ | refine Zc7 rfl ?_ | refine Zc4 ?_ ?_)))) ?_
  refine Zb3 (d := 5) (cs := Zlo tN7) rfl ?_
  obtain ⟨ps, hps⟩ : ∃ ps, ps = List.zipWith Prod.mk ws ns := ⟨_, rfl⟩
  have hpl : ps.length = ws.length := by rw [hps, List.length_zipWith]; omega
  have hpg : ∀ i (h : i < ws.length) (h' : i < ns.length), ps[i]? = some (ws[i], ns[i]) := fun i h h' => by
    rw [hps, List.getElem?_zipWith, List.getElem?_eq_getElem h, List.getElem?_eq_getElem h']
  have hpr : ∀ p ∈ ps, -128 ≤ p.2 ∧ p.2 ≤ 127 := fun p hp => by
    obtain ⟨i, hi⟩ := List.getElem?_of_mem hp
    have hl := (List.getElem?_eq_some_iff.1 hi).1
    rw [hpg i (by omega) (by omega)] at hi
    cases hi
    exact hr _ (List.getElem_mem _)
  clear hps
  (repeat (first | refine st_q rfl rfl rfl ?_ | (refine Z8y ?_; (repeat (first | refine Z9v rfl ?_ | refine Z9w ?_)); refine Z9u ?_) | refine awp_seq ?_ | refine Zbm (fun _ _ => rfl) ?_ | refine Z8h ?_))
  obtain ⟨I, hI⟩ : ∃ I : Nat → Z26 → Zc → Prop, I = fun m F σ' => ∃ (i : Nat) (v6 v7 v8 v9 : Z0) (β6 β7 β8 β9 : Zc), F = fset 0 (some (.slc 1 (ws.map .bool) false)) (fset 1 (some (.slc 1 (ns.map (.int .i8)) false)) (fset 5 (some (.iptr (Zlo tN7))) (fset 6 (some v6) (fset 7 (some v7) (fset 8 (some v8) (fset 9 (some v9) (fset 10 (some (.int .i64 (i : Nat))) Z27))))))) ∧
    β9 ++ (β8 ++ (β7 ++ (β6 ++ σ))) = σ' ∧ Zbr 5 v6 (Zm5 ((ps.take i).map rowU7)) β6 ∧ Zbr 1 v7 ((aP (ps.take i)).map (.int .i64)) β7 ∧ Zbr 1 v8 ((bP (ps.take i)).map (.int .i64)) β8 ∧ Zbr 1 v9 ((kP (ps.take i)).map (.int .i64)) β9 ∧ i ≤ ws.length ∧ m = ws.length - i := ⟨_, rfl⟩
  refine Zaa I (n := ws.length) (by rw [hI]; exact ⟨0, _, _, _, _, [], [], [], [], rfl, rfl, Zbr.nil 5 0, Zbr.nil 1 0, Zbr.nil 1 0, Zbr.nil 1 0, by omega, by omega⟩) ?_
  intro m0 F σ' hIm
  rw [hI] at hIm
  obtain ⟨i, v6, v7, v8, v9, β6, β7, β8, β9, rfl, rfl, ho6, ho7, ho8, ho9, hi, rfl⟩ := hIm
  (repeat (first | refine st_q rfl rfl rfl ?_ | (refine Z8y ?_; (repeat (first | refine Z9v rfl ?_ | refine Z9w ?_)); refine Z9u ?_) | refine awp_seq ?_ | refine Zbm (fun _ _ => rfl) ?_))
  rw [hwl]
  refine Za3 (p := (i : Int) < (ws.length : Int)) rfl (fun h5 => ?_) (fun h5 => ?_)
  · have hil : i < ws.length := by omega
    have hin : i < ns.length := by omega
    have hgw := Zxw (f := Z0.bool) hil
    have hgn := Zxw (f := Z0.int .i8) hin
    have hg := hpg i hil hin
    have hxr := hr _ (List.getElem_mem hin)
    generalize ws[i] = w at hgw hg
    generalize ns[i] = x at hgn hg hxr
    have hw : IntKind.wrap .i64 x = x := w64 _ (by omega) (by omega)
    have htk : ps.take (i + 1) = ps.take i ++ [(w, x)] := by rw [List.take_add_one, hg]; rfl
    have hAn : aP (ps.take (i + 1)) = aP (ps.take i) ++ (if w = true then [] else [x]) := by rw [htk, Z23l]
    have hBn : bP (ps.take (i + 1)) = bP (ps.take i) ++ (if w = true then [x] else []) := by rw [htk, Z23m]
    have hKn : (kP (ps.take i)).map (Z0.int .i64) ++ [Z0.int .i64 (wI w)] = (kP (ps.take (i + 1))).map (Z0.int .i64) := by rw [htk, kP, kP, List.map_append, List.map_append]; rfl
    have htl : (ps.take i).length ≤ 100 := by rw [List.length_take]; omega
    have hlt : (Zm5 ((ps.take i).map rowU7)).length = i := by rw [Zm9, List.length_map, List.length_take]; omega
    have hl7 : ((aP (ps.take i)).map (Z0.int .i64)).length ≤ 100 := by rw [List.length_map]; exact Nat.le_trans (aP_le _) htl
    have hl8 : ((bP (ps.take i)).map (Z0.int .i64)).length ≤ 100 := by rw [List.length_map]; exact Nat.le_trans (bP_le _) htl
    have hl9 : ((kP (ps.take i)).map (Z0.int .i64)).length ≤ 100 := by rw [List.length_map, kP, List.length_map]; exact htl
    have htk6 : (ps.take (i + 1)).map rowU7 = (ps.take i).map rowU7 ++ [rowU7 (w, x)] := by rw [htk, List.map_append]; rfl
    have hlen1 : (Zm5 ((ps.take (i + 1)).map rowU7)).length = (Zm5 ((ps.take i).map rowU7)).length + 1 := by rw [Zm9, Zm9, htk6, List.length_append]; rfl
    (repeat (first | refine st_q rfl rfl rfl ?_ | (refine Z8y ?_; (repeat (first | refine Z9v rfl ?_ | refine Z9w ?_)); refine Z9u ?_) | refine awp_seq ?_ | refine Zbm (fun _ _ => rfl) ?_ | refine Z8h ?_ | refine Zbn (fun _ _ => rfl) ?_))
    refine Z93 rfl (by omega) hgw ?_
    cases w with
    | true =>
      rw [if_pos rfl] at hAn hBn
      rw [List.append_nil] at hAn
      have hB2 : (bP (ps.take i)).map (Z0.int .i64) ++ [Z0.int .i64 x] = (bP (ps.take (i + 1))).map (Z0.int .i64) := by rw [hBn, List.map_append]; rfl
      (repeat (refine st_q rfl rfl rfl ?_))
      (refine Z8y ?_; (repeat (first | refine Z9v rfl ?_ | refine Z9w ?_)); refine Z9u ?_)
      refine Z8f (t := true) rfl (fun _ => ?_) (fun e => by cases e)
      refine Zb4 (β := β9) (γ := β8) ?_
      (repeat (first | refine st_q rfl rfl rfl ?_ | (refine Z8y ?_; (repeat (first | refine Z9v rfl ?_ | refine Z9w ?_)); refine Z9u ?_) | refine awp_seq ?_ | refine Zbm (fun _ _ => rfl) ?_))
      refine Z93 rfl (by omega) hgn ?_
      (repeat (refine st_q rfl rfl rfl ?_))
      rw [hw]
      refine Zbs ho8 rfl rfl (by simp only [List.length_singleton]; omega) fun b8 hb8 => ?_
      rw [hB2]
      (repeat (refine st_q rfl rfl rfl ?_))
      (refine Z8y ?_; (repeat (first | refine Z9v rfl ?_ | refine Z9w ?_)); refine Z9u ?_)
      refine Zb4 (β := [(b8, _)]) (γ := β9) ?_
      refine Z9z ?_
      (repeat (refine st_q rfl rfl rfl ?_))
      refine Zbs (ys := [.int .i64 (wI true)]) ho9 rfl rfl (by simp only [List.length_singleton]; omega) fun b9 hb9 => ?_
      rw [hKn]
      (repeat (refine st_q rfl rfl rfl ?_))
      (refine Z8y ?_; (repeat (first | refine Z9v rfl ?_ | refine Z9w ?_)); refine Z9u ?_)
      refine Zb4 (β := (b9, _) :: (b8, _) :: β7) (γ := β6) ?_
      refine Zbm (fun _ _ => rfl) ?_
      (repeat (refine st_q rfl rfl rfl ?_))
      refine Z93 rfl (by omega) hgn ?_
      (repeat (refine st_q rfl rfl rfl ?_))
      rw [hw]
      refine Zbs ho6 rfl rfl (by rw [hlt]; simp; omega) fun b6 hb6 => ?_
      (repeat (refine st_q rfl rfl rfl ?_))
      (refine Z8y ?_; (repeat (first | refine Z9v rfl ?_ | refine Z9w ?_)); refine Z9u ?_)
      rw [List.length_append]
      refine Zby (Z222 (v := rowU7 (true, x)) (by
        simp only [Zm6, rowU7, inU7, wI, Vl.null, Vl.i, Vl.n, Vl.b, Vl.kids, Zm5, encV, bytes, List.map_nil, if_true, Bool.false_eq_true, if_false]
        (repeat (first | exact VRle.refl _ | exact Zc5 | refine Zc6 rfl rfl ?_ | refine Zc7 rfl ?_ | refine Zc4 ?_ ?_)))) ?_
      rw [← htk6]
      refine Zb4 (β := [(b6, _)]) (γ := (b9, _) :: (b8, _) :: β7) ?_
      refine Zbp ?_
      (repeat (refine st_q rfl rfl rfl ?_))
      rw [show IntKind.wrap .i64 ((i : Int) + 1) = ((i + 1 : Nat) : Int) by rw [w64 _ (by omega) (by omega)]; omega]
      (refine Z8y ?_; (repeat (first | refine Z9v rfl ?_ | refine Z9w ?_)); refine Z9u ?_)
      refine ⟨_, ws.length - (i + 1), HSub.refl _, ?_, by omega⟩
      rw [hI]
      refine ⟨i + 1, .arr 5 b6 0 (Zm5 ((ps.take (i + 1)).map rowU7)).length, v7, _, _, [(b6, .cells 5 (Zm5 ((ps.take (i + 1)).map rowU7)))], β7, [(b8, Zb.cells 1 ((bP (ps.take (i + 1))).map (.int .i64)))], [(b9, Zb.cells 1 ((kP (ps.take (i + 1))).map (.int .i64)))], ?_, rfl, Zbr.mk, by rw [hAn]; exact ho7, Zbr.mk, Zbr.mk, by omega, rfl⟩
      rw [hlen1]
      rfl
    | false =>
      rw [if_neg (by simp)] at hAn hBn
      rw [List.append_nil] at hBn
      have hA2 : (aP (ps.take i)).map (Z0.int .i64) ++ [Z0.int .i64 x] = (aP (ps.take (i + 1))).map (Z0.int .i64) := by rw [hAn, List.map_append]; rfl
      (repeat (refine st_q rfl rfl rfl ?_))
      (refine Z8y ?_; (repeat (first | refine Z9v rfl ?_ | refine Z9w ?_)); refine Z9u ?_)
      refine Z8f (t := false) rfl (fun e => by cases e) (fun _ => ?_)
      rw [← List.append_assoc]
      refine Zb4 (β := β9 ++ β8) (γ := β7) ?_
      (repeat (first | refine st_q rfl rfl rfl ?_ | refine Zbm (fun _ _ => rfl) ?_))
      refine Z93 rfl (by omega) hgn ?_
      (repeat (refine st_q rfl rfl rfl ?_))
      rw [hw]
      refine Zbs ho7 rfl rfl (by simp only [List.length_singleton]; omega) fun b7 hb7 => ?_
      rw [hA2]
      (repeat (refine st_q rfl rfl rfl ?_))
      (refine Z8y ?_; (repeat (first | refine Z9v rfl ?_ | refine Z9w ?_)); refine Z9u ?_)
      refine Zb4 (β := [(b7, _)]) (γ := β9 ++ β8) ?_
      rw [List.append_assoc β9 β8]
      refine Z9z ?_
      (repeat (refine st_q rfl rfl rfl ?_))
      refine Zbs (ys := [.int .i64 (wI false)]) ho9 rfl rfl (by simp only [List.length_singleton]; omega) fun b9 hb9 => ?_
      rw [hKn]
      (repeat (refine st_q rfl rfl rfl ?_))
      (refine Z8y ?_; (repeat (first | refine Z9v rfl ?_ | refine Z9w ?_)); refine Z9u ?_)
      rw [← List.append_assoc β8]
      refine Zb4 (β := (b9, _) :: (β8 ++ [(b7, _)])) (γ := β6) ?_
      refine Zbm (fun _ _ => rfl) ?_
      (repeat (refine st_q rfl rfl rfl ?_))
      refine Z93 rfl (by omega) hgn ?_
      (repeat (refine st_q rfl rfl rfl ?_))
      rw [hw]
      refine Zbs ho6 rfl rfl (by rw [hlt]; simp; omega) fun b6 hb6 => ?_
      (repeat (refine st_q rfl rfl rfl ?_))
      (refine Z8y ?_; (repeat (first | refine Z9v rfl ?_ | refine Z9w ?_)); refine Z9u ?_)
      rw [List.length_append]
      refine Zby (Z222 (v := rowU7 (false, x)) (by
        simp only [Zm6, rowU7, inU7, wI, Vl.null, Vl.i, Vl.n, Vl.b, Vl.kids, Zm5, encV, bytes, List.map_nil, if_true, Bool.false_eq_true, if_false]
        (repeat (first | exact VRle.refl _ | exact Zc5 | refine Zc6 rfl rfl ?_ | refine Zc7 rfl ?_ | refine Zc4 ?_ ?_)))) ?_
      rw [← htk6]
      refine Zb4 (β := [(b6, _)]) (γ := (b9, _) :: (β8 ++ [(b7, _)])) ?_
      refine Zbp ?_
      (repeat (refine st_q rfl rfl rfl ?_))
      rw [show IntKind.wrap .i64 ((i : Int) + 1) = ((i + 1 : Nat) : Int) by rw [w64 _ (by omega) (by omega)]; omega]
      (refine Z8y ?_; (repeat (first | refine Z9v rfl ?_ | refine Z9w ?_)); refine Z9u ?_)
      refine ⟨_, ws.length - (i + 1), HSub.refl _, ?_, by omega⟩
      rw [hI]
      refine ⟨i + 1, .arr 5 b6 0 (Zm5 ((ps.take (i + 1)).map rowU7)).length, _, v8, _, [(b6, .cells 5 (Zm5 ((ps.take (i + 1)).map rowU7)))], [(b7, Zb.cells 1 ((aP (ps.take (i + 1))).map (.int .i64)))], β8, [(b9, Zb.cells 1 ((kP (ps.take (i + 1))).map (.int .i64)))], ?_, by simp, Zbr.mk, Zbr.mk, by rw [hBn]; exact ho8, Zbr.mk, by omega, rfl⟩
      rw [hlen1]
      rfl
  · have e : ps.take i = ps := List.take_of_length_le (by omega)
    rw [e] at ho6 ho7 ho8 ho9
    have hsh := Z23s ps hpr (by omega)
    obtain ⟨K0, e0⟩ : ∃ K : Col, K = ⟨ps.map (fun _ => true), [], [], [], []⟩ := ⟨_, rfl⟩
    obtain ⟨K1, e1⟩ : ∃ K : Col, K = ⟨ps.map (fun _ => true), kP ps, [], [], []⟩ := ⟨_, rfl⟩
    obtain ⟨K2, e2⟩ : ∃ K : Col, K = ⟨(aP ps).map (fun _ => true), aP ps, [], [], []⟩ := ⟨_, rfl⟩
    obtain ⟨K3, e3⟩ : ∃ K : Col, K = ⟨(bP ps).map (fun _ => true), bP ps, [], [], []⟩ := ⟨_, rfl⟩
    rw [← e0, ← e1, ← e2, ← e3] at hsh
    have hF : ∀ v ∈ ps.map rowU7, v.Fit := fun v hv => by obtain ⟨p, hp, rfl⟩ := List.mem_map.1 hv; exact Z25o p (hpr p hp)
    have hL : (ps.map rowU7).length ≤ 100 := by rw [List.length_map]; omega
    have hS := Z21j tN7 Z25n (ps.map rowU7) hF (by omega)
    have hB := Z23f tN7 Z25n (ps.map rowU7) hF (by omega) (by rw [hsh])
    have hRw := Z23g (ps.map rowU7) hF (by omega)
    have hrl := Zm9 (ps.map rowU7)
    rw [hsh, Zlp] at hS hB
    simp only [List.map_cons, List.map_nil] at hS hB
    have hal := aP_le ps
    have hbl := bP_le ps
    have hs1 : K1.Sm := by rw [e1]; constructor <;> simp [kP] <;> omega
    have hs2 : K2.Sm := by rw [e2]; constructor <;> simp <;> omega
    have hs3 : K3.Sm := by rw [e3]; constructor <;> simp <;> omega
    have hv : ∀ (K : Col) (xs : List Int), K.ints = xs → K.ns = [] → K.texts = [] → K.lens = [] → VRle [encC K, .agg [.slc 1 (K.here.map .bool) false, .slc 1 (xs.map (.int .i64)) false, .slc 0 [] true, .slc 0 [] true, .slc 0 [] true]] [encC K, encC K] := by
      intro K xs h1 h2 h3 h4
      refine VRle.cons (VRle.refl _) ?_
      rw [encC, Zxu, h1, h2, h3, h4]
      simp only [List.map_nil]
      (repeat (first | exact VRle.refl _ | exact Zc5 | refine Zc6 rfl rfl ?_ | refine Zc7 rfl ?_ | refine Zc4 ?_ ?_))
    have hv1 := hv K1 (kP ps) (by rw [e1]) (by rw [e1]) (by rw [e1]) (by rw [e1])
    have hv2 := hv K2 (aP ps) (by rw [e2]) (by rw [e2]) (by rw [e2]) (by rw [e2])
    have hv3 := hv K3 (bP ps) (by rw [e3]) (by rw [e3]) (by rw [e3]) (by rw [e3])
    clear e0 e1 e2 e3 hv
    refine Zbo (fun _ _ => rfl) ?_
    refine Zbt (d := 9) rfl (Zb6.growG ho9) ?_
    refine Zbt (d := 8) rfl (Zb6.growG ho8) ?_
    refine Zbt (d := 7) rfl (Zb6.growG ho7) ?_
    refine Zbt (d := 6) rfl (Zb6.growG ho6) ?_
    (refine Z9y (keep := [5, 6, 7, 8, 9]) ?_; ((repeat (first | refine Z9v rfl ?_ | refine Z9w ?_)); refine Z9u ?_))
    (repeat (first | refine st_q rfl rfl rfl ?_ | refine awp_seq ?_ | refine Zbm (fun _ _ => rfl) ?_))
    refine Z9t rfl (hS _) ?_
    (repeat (first | refine st_q rfl rfl rfl ?_ | refine Z8v rfl (st_q rfl rfl rfl ?_) | (refine Z8y ?_; (repeat (first | refine Z9v rfl ?_ | refine Z9w ?_)); refine Z9u ?_) | refine awp_seq ?_ | refine Zbm (fun _ _ => rfl) ?_ | refine Zbn (fun _ _ => rfl) ?_ | refine Z8f (t := false) rfl (fun e => by cases e) (fun _ => ?_)))
    rw [hrl]
    refine Z9t rfl (Z1q.args (VRle.cons (VRle.refl _) (VRle.cons (VRle.refl _) (VRle.cons (VRle.refl _) (VRle.nil_slc 0 1 true)))) (hB false true _)) ?_
    (repeat (first | refine st_q rfl rfl rfl ?_ | (refine Z8y ?_; (repeat (first | refine Z9v rfl ?_ | refine Z9w ?_)); refine Z9u ?_) | refine awp_seq ?_ | refine Zbm (fun _ _ => rfl) ?_))
    refine Z9t rfl (Z1q.args hv1 (Z25k K1 hs1 _)) ?_
    (repeat (first | refine st_q rfl rfl rfl ?_ | refine Z8v rfl (st_q rfl rfl rfl ?_)))
    refine Z8v rfl (Z9t rfl (Z1q.args hv2 (Z25k K2 hs2 _)) ?_)
    (repeat (first | refine st_q rfl rfl rfl ?_ | refine Z8v rfl (st_q rfl rfl rfl ?_)))
    refine Z8v rfl (Z9t rfl (Z1q.args hv3 (Z25k K3 hs3 _)) ?_)
    (repeat (first | refine st_q rfl rfl rfl ?_ | refine Z8v rfl (st_q rfl rfl rfl ?_)))
    refine Z8v rfl (Z9t rfl (hRw _ _ _) ?_)
    (repeat (first | refine st_q rfl rfl rfl ?_ | (refine Z8y ?_; (repeat (first | refine Z9v rfl ?_ | refine Z9w ?_)); refine Z9u ?_)))
    refine Z8d ?_
    exact ares rfl (HSub.refl _) ⟨rfl, rfl⟩
end Go.Abs

