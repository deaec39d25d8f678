/- Part U of a proof: merged by program. -/
import Derived.Test.YtgmefkhincnajaaPkT
import Derived.Test.YtgmefkhincnajaaProg
import Derived.KernelRfl
namespace Go.Abs
open Go
def Z23r : List Z2a := [
  ⟨some 4, .mov, [.c (.bool false)], none⟩]
def Z23s : List Z2a := [
  ⟨some 15, (.call Zdi), [], none⟩,
  ⟨some 16, .unot, [.t 15], none⟩]
def Z23t : List Z2a := [
  ⟨some 4, .mov, [.c (.bool false)], none⟩]
def Z23u : List Z2a := [
  ⟨some 17, .mov, [.t 0], none⟩,
  ⟨some 18, .lens, [.t 17], none⟩,
  ⟨some 19, (.bin .gtr), [.t 18, .c (.int .i64 60)], none⟩,
  ⟨some 20, .mov, [.t 19], none⟩,
  ⟨some 21, .mov, [.t 1], some (20, false)⟩,
  ⟨some 22, .lens, [.t 21], some (20, false)⟩,
  ⟨some 23, .mov, [.t 0], some (20, false)⟩,
  ⟨some 24, .lens, [.t 23], some (20, false)⟩,
  ⟨some 25, (.bin .lss), [.t 22, .t 24], some (20, false)⟩,
  ⟨some 26, .pick, [.t 20, .c (.bool true), .t 25], none⟩]
def Z23v : List Z2a := [
  ⟨some 4, .mov, [.c (.bool true)], none⟩]
def Z23w : List Z2a := [
  ⟨some 27, (.bsl 1), [.c (.str [97])], none⟩,
  ⟨some 28, (.bld [(.int .i64 0), (.slc 0 [] true), (.slc 0 [] true), (.int .i64 0), (.int .i64 0), (.int .i64 0)] [(0, 1)]), [.c (.int .i64 1)], none⟩,
  ⟨some 29, (.bsl 6), [.t 28], none⟩,
  ⟨some 30, (.bld [(.int .i64 0), (.slc 0 [] true), (.slc 0 [] true), (.int .i64 0), (.int .i64 0), (.int .i64 0)] [(0, 1), (2, 1)]), [.c (.int .i64 10), .t 29], none⟩,
  ⟨some 31, (.bsl 6), [.t 30], none⟩,
  ⟨some 32, (.bld [(.int .i64 0), (.slc 0 [] true), (.slc 0 [] true), (.int .i64 0), (.int .i64 0), (.int .i64 0)] [(0, 1), (1, 1), (2, 1)]), [.c (.int .i64 12), .t 27, .t 31], none⟩,
  ⟨some 5, (.alloc (.agg [(.int .i64 0), (.slc 0 [] true), (.slc 0 [] true), (.int .i64 0), (.int .i64 0), (.int .i64 0)])), [], none⟩,
  ⟨none, (.store 6), [.t 5, .t 32], none⟩]
def Z23x : List Z2a := [
  ⟨some 6, .mov, [.c (.slc 0 [] true)], none⟩]
def Z23y : List Z2a := [
  ⟨some 7, .mov, [.c (.slc 0 [] true)], none⟩,
  ⟨some 8, .mov, [.c (.slc 0 [] true)], none⟩]
def Z23z : List Z2a := [
  ⟨some 9, .mov, [.c (.int .i64 0)], none⟩]
def Z240 : List Z2a := [
  ⟨some 33, .mov, [.t 9], none⟩,
  ⟨some 34, .mov, [.t 0], none⟩,
  ⟨some 35, .lens, [.t 34], none⟩,
  ⟨some 36, (.bin .lss), [.t 33, .t 35], none⟩]
def Z241 : List Z2a := [
  ⟨some 39, .mov, [.t 0], none⟩,
  ⟨some 40, .mov, [.t 9], none⟩,
  ⟨some 41, (.iad 1), [.t 39, .t 40], none⟩,
  ⟨some 42, (.load false 1), [.t 41], none⟩,
  ⟨some 43, .lens, [.t 42], none⟩,
  ⟨some 44, (.bin .gtr), [.t 43, .c (.int .i64 60)], none⟩]
def Z242 : List Z2a := [
  ⟨some 4, .mov, [.c (.bool true)], none⟩]
def Z243 : List Z2a := [
  ⟨some 45, .mov, [.t 1], none⟩,
  ⟨some 46, .mov, [.t 9], none⟩,
  ⟨some 47, (.iad 1), [.t 45, .t 46], none⟩,
  ⟨some 48, (.load false 1), [.t 47], none⟩,
  ⟨some 49, (.bld [(.bool false), (.int .i64 0), (.int .i64 0), (.slc 0 [] true), (.slc 0 [] true)] [(0, 1)]), [.t 48], none⟩,
  ⟨some 10, (.alloc (.agg [(.bool false), (.int .i64 0), (.int .i64 0), (.slc 0 [] true), (.slc 0 [] true)])), [], none⟩,
  ⟨none, (.store 5), [.t 10, .t 49], none⟩]
def Z244 : List Z2a := [
  ⟨some 11, .mov, [.c (.int .i64 0)], none⟩]
def Z245 : List Z2a := [
  ⟨some 50, .mov, [.t 11], none⟩,
  ⟨some 51, .mov, [.t 0], none⟩,
  ⟨some 52, .mov, [.t 9], none⟩,
  ⟨some 53, (.iad 1), [.t 51, .t 52], none⟩,
  ⟨some 54, (.load false 1), [.t 53], none⟩,
  ⟨some 55, .lens, [.t 54], none⟩,
  ⟨some 56, (.bin .lss), [.t 50, .t 55], none⟩,
  ⟨some 57, .mov, [.t 56], none⟩,
  ⟨some 58, .mov, [.t 1], some (57, true)⟩,
  ⟨some 59, .mov, [.t 9], some (57, true)⟩,
  ⟨some 60, (.iad 1), [.t 58, .t 59], some (57, true)⟩,
  ⟨some 61, (.load false 1), [.t 60], some (57, true)⟩,
  ⟨some 62, .unot, [.t 61], some (57, true)⟩,
  ⟨some 63, .pick, [.t 57, .t 62, .c (.bool false)], none⟩]
def Z246 : List Z2a := [
  ⟨some 66, (.fad 4), [.t 10], none⟩,
  ⟨some 67, (.load false 1), [.t 66], none⟩,
  ⟨some 68, .mov, [.t 0], none⟩,
  ⟨some 69, .mov, [.t 9], none⟩,
  ⟨some 70, (.iad 1), [.t 68, .t 69], none⟩,
  ⟨some 71, (.load false 1), [.t 70], none⟩,
  ⟨some 72, .mov, [.t 11], none⟩,
  ⟨some 73, (.iad 1), [.t 71, .t 72], none⟩,
  ⟨some 74, (.load false 1), [.t 73], none⟩,
  ⟨some 75, (.conv .i64), [.t 74], none⟩,
  ⟨some 76, (.bld [(.bool false), (.int .i64 0), (.int .i64 0), (.slc 0 [] true), (.slc 0 [] true)] [(1, 1)]), [.t 75], none⟩,
  ⟨some 77, (.bsl 5), [.t 76], none⟩,
  ⟨some 78, (.app 5 72), [.t 67, .t 77], none⟩,
  ⟨some 79, (.fad 4), [.t 10], none⟩,
  ⟨none, (.store 1), [.t 79, .t 78], none⟩]
def Z247 : List Z2a := [
  ⟨some 80, .mov, [.t 8], none⟩,
  ⟨some 81, .mov, [.t 0], none⟩,
  ⟨some 82, .mov, [.t 9], none⟩,
  ⟨some 83, (.iad 1), [.t 81, .t 82], none⟩,
  ⟨some 84, (.load false 1), [.t 83], none⟩,
  ⟨some 85, .mov, [.t 11], none⟩,
  ⟨some 86, (.iad 1), [.t 84, .t 85], none⟩,
  ⟨some 87, (.load false 1), [.t 86], none⟩,
  ⟨some 88, (.conv .i64), [.t 87], none⟩,
  ⟨some 89, (.bsl 1), [.t 88], none⟩,
  ⟨some 90, (.app 1 8), [.t 80, .t 89], none⟩,
  ⟨some 8, .mov, [.t 90], none⟩]
def Z248 : List Z2a := [
  ⟨some 64, .mov, [.t 11], none⟩,
  ⟨some 65, (.bin .add), [.t 64, .c (.int .i64 1)], none⟩,
  ⟨some 11, .mov, [.t 65], none⟩]
def Z249 : Z2b := (.seq (.seq (.region Z245 [0, 1, 5, 6, 7, 8, 9, 10, 11, 63]) (.cond (.t 63) .skip (.exit 2))) (.seq (.block 3 (.seq (.region Z246 [0, 1, 5, 6, 7, 8, 9, 10, 11]) (.region Z247 [0, 1, 5, 6, 7, 8, 9, 10, 11]))) (.region Z248 [0, 1, 5, 6, 7, 8, 9, 10, 11])))
def Z24a : List Z2a := [
  ⟨some 91, .mov, [.t 1], none⟩,
  ⟨some 92, .mov, [.t 9], none⟩,
  ⟨some 93, (.iad 1), [.t 91, .t 92], none⟩,
  ⟨some 94, (.load false 1), [.t 93], none⟩,
  ⟨some 95, .unot, [.t 94], none⟩]
def Z24b : List Z2a := [
  ⟨some 96, .mov, [.t 7], none⟩,
  ⟨some 97, .mov, [.t 0], none⟩,
  ⟨some 98, .mov, [.t 9], none⟩,
  ⟨some 99, (.iad 1), [.t 97, .t 98], none⟩,
  ⟨some 100, (.load false 1), [.t 99], none⟩,
  ⟨some 101, .lens, [.t 100], none⟩,
  ⟨some 102, (.bsl 1), [.t 101], none⟩,
  ⟨some 103, (.app 1 8), [.t 96, .t 102], none⟩,
  ⟨some 7, .mov, [.t 103], none⟩]
def Z24c : List Z2a := [
  ⟨some 104, .mov, [.t 6], none⟩,
  ⟨some 105, (.load true 5), [.t 10], none⟩,
  ⟨some 106, (.bsl 5), [.t 105], none⟩,
  ⟨some 107, (.bld [(.bool false), (.int .i64 0), (.int .i64 0), (.slc 0 [] true), (.slc 0 [] true)] [(4, 1)]), [.t 106], none⟩,
  ⟨some 108, (.bsl 5), [.t 107], none⟩,
  ⟨some 109, (.app 5 72), [.t 104, .t 108], none⟩,
  ⟨some 6, .mov, [.t 109], none⟩]
def Z24d : List Z2a := [
  ⟨some 37, .mov, [.t 9], none⟩,
  ⟨some 38, (.bin .add), [.t 37, .c (.int .i64 1)], none⟩,
  ⟨some 9, .mov, [.t 38], none⟩]
def Z24e : Z2b := (.seq (.seq (.region Z240 [0, 1, 5, 6, 7, 8, 9, 36]) (.cond (.t 36) .skip (.exit 0))) (.seq (.block 1 (.seq (.seq (.region Z241 [0, 1, 5, 6, 7, 8, 9, 44]) (.cond (.t 44) (.seq (.region Z242 [4]) .ret) .skip)) (.seq (.region Z243 [0, 1, 5, 6, 7, 8, 9, 10]) (.seq (.seq (.region Z244 [0, 1, 5, 6, 7, 8, 9, 10, 11]) (.block 2 (.loop Z249))) (.seq (.seq (.region Z24a [0, 1, 5, 6, 7, 8, 9, 10, 95]) (.cond (.t 95) (.region Z24b [0, 1, 5, 6, 7, 8, 9, 10]) .skip)) (.region Z24c [0, 1, 5, 6, 7, 8, 9])))))) (.region Z24d [0, 1, 5, 6, 7, 8, 9])))
def Z24f : List Z2a := [
  ⟨some 111, (.load true 6), [.t 5], none⟩,
  ⟨some 112, .mov, [.t 6], none⟩,
  ⟨some 113, (.call Zdj), [.t 111, .t 112], none⟩,
  ⟨some 110, .mov, [.t 113], none⟩,
  ⟨some 114, (.ext 0), [.t 110], none⟩,
  ⟨some 115, (.ext 1), [.t 110], none⟩,
  ⟨some 12, .mov, [.t 114], none⟩,
  ⟨some 13, .mov, [.t 115], none⟩]
def Z24g : List Z2a := [
  ⟨some 116, .mov, [.t 13], none⟩,
  ⟨some 117, (.bin .neq), [.t 116, .c (.int .i64 0)], none⟩,
  ⟨some 118, .mov, [.t 117], none⟩,
  ⟨some 119, .mov, [.t 12], some (118, false)⟩,
  ⟨some 120, .lens, [.t 119], some (118, false)⟩,
  ⟨some 121, (.bin .neq), [.t 120, .c (.int .i64 3)], some (118, false)⟩,
  ⟨some 122, .pick, [.t 118, .c (.bool true), .t 121], none⟩,
  ⟨some 123, .mov, [.t 122], none⟩,
  ⟨some 124, .mov, [.t 12], some (123, false)⟩,
  ⟨some 125, (.iad 5), [.t 124, .c (.int .i64 0)], some (123, false)⟩,
  ⟨some 126, (.fad 0), [.t 125], some (123, false)⟩,
  ⟨some 127, (.load false 1), [.t 126], some (123, false)⟩,
  ⟨some 128, .lens, [.t 127], some (123, false)⟩,
  ⟨some 129, .mov, [.t 0], some (123, false)⟩,
  ⟨some 130, .lens, [.t 129], some (123, false)⟩,
  ⟨some 131, (.bin .neq), [.t 128, .t 130], some (123, false)⟩,
  ⟨some 132, .pick, [.t 123, .c (.bool true), .t 131], none⟩,
  ⟨some 133, .mov, [.t 132], none⟩,
  ⟨some 134, .mov, [.t 12], some (133, false)⟩,
  ⟨some 135, (.iad 5), [.t 134, .c (.int .i64 1)], some (133, false)⟩,
  ⟨some 136, (.fad 0), [.t 135], some (133, false)⟩,
  ⟨some 137, (.load false 1), [.t 136], some (133, false)⟩,
  ⟨some 138, .lens, [.t 137], some (133, false)⟩,
  ⟨some 139, .mov, [.t 0], some (133, false)⟩,
  ⟨some 140, .lens, [.t 139], some (133, false)⟩,
  ⟨some 141, (.bin .neq), [.t 138, .t 140], some (133, false)⟩,
  ⟨some 142, .pick, [.t 133, .c (.bool true), .t 141], none⟩]
def Z24h : List Z2a := [
  ⟨some 4, .mov, [.c (.bool false)], none⟩]
def Z24i : List Z2a := [
  ⟨some 14, .mov, [.c (.int .i64 0)], none⟩]
def Z24j : List Z2a := [
  ⟨some 143, .mov, [.t 14], none⟩,
  ⟨some 144, .mov, [.t 0], none⟩,
  ⟨some 145, .lens, [.t 144], none⟩,
  ⟨some 146, (.bin .lss), [.t 143, .t 145], none⟩]
def Z24k : List Z2a := [
  ⟨some 149, .mov, [.t 12], none⟩,
  ⟨some 150, (.iad 5), [.t 149, .c (.int .i64 0)], none⟩,
  ⟨some 151, (.fad 0), [.t 150], none⟩,
  ⟨some 152, (.load false 1), [.t 151], none⟩,
  ⟨some 153, .mov, [.t 14], none⟩,
  ⟨some 154, (.iad 1), [.t 152, .t 153], none⟩,
  ⟨some 155, (.load false 1), [.t 154], none⟩,
  ⟨some 156, .unot, [.t 155], none⟩,
  ⟨some 157, .mov, [.t 156], none⟩,
  ⟨some 158, .mov, [.t 12], some (157, false)⟩,
  ⟨some 159, (.iad 5), [.t 158, .c (.int .i64 1)], some (157, false)⟩,
  ⟨some 160, (.fad 0), [.t 159], some (157, false)⟩,
  ⟨some 161, (.load false 1), [.t 160], some (157, false)⟩,
  ⟨some 162, .mov, [.t 14], some (157, false)⟩,
  ⟨some 163, (.iad 1), [.t 161, .t 162], some (157, false)⟩,
  ⟨some 164, (.load false 1), [.t 163], some (157, false)⟩,
  ⟨some 165, .mov, [.t 1], some (157, false)⟩,
  ⟨some 166, .mov, [.t 14], some (157, false)⟩,
  ⟨some 167, (.iad 1), [.t 165, .t 166], some (157, false)⟩,
  ⟨some 168, (.load false 1), [.t 167], some (157, false)⟩,
  ⟨some 169, (.binb .eql), [.t 164, .t 168], some (157, false)⟩,
  ⟨some 170, .pick, [.t 157, .c (.bool true), .t 169], none⟩]
def Z24l : List Z2a := [
  ⟨some 4, .mov, [.c (.bool false)], none⟩]
def Z24m : List Z2a := [
  ⟨some 147, .mov, [.t 14], none⟩,
  ⟨some 148, (.bin .add), [.t 147, .c (.int .i64 1)], none⟩,
  ⟨some 14, .mov, [.t 148], none⟩]
def Z24n : Z2b := (.seq (.seq (.region Z24j [0, 1, 7, 8, 12, 14, 146]) (.cond (.t 146) .skip (.exit 4))) (.seq (.block 5 (.seq (.region Z24k [0, 1, 7, 8, 12, 14, 170]) (.cond (.t 170) (.seq (.region Z24l [4]) .ret) .skip))) (.region Z24m [0, 1, 7, 8, 12, 14])))
def Z24o : List Z2a := [
  ⟨some 171, .mov, [.t 12], none⟩,
  ⟨some 172, (.iad 5), [.t 171, .c (.int .i64 1)], none⟩,
  ⟨some 173, (.load true 5), [.t 172], none⟩,
  ⟨some 174, .mov, [.t 12], none⟩,
  ⟨some 175, (.iad 5), [.t 174, .c (.int .i64 1)], none⟩,
  ⟨some 176, (.fad 0), [.t 175], none⟩,
  ⟨some 177, (.load false 1), [.t 176], none⟩,
  ⟨some 178, .mov, [.t 7], none⟩,
  ⟨some 179, (.bld [(.slc 0 [] true), (.slc 0 [] true), (.slc 0 [] true), (.slc 0 [] true), (.slc 0 [] true)] [(0, 1), (4, 1)]), [.t 177, .t 178], none⟩,
  ⟨some 180, (.call Zdk), [.t 173, .t 179], none⟩,
  ⟨some 181, .mov, [.t 180], none⟩,
  ⟨some 182, .mov, [.t 12], some (181, true)⟩,
  ⟨some 183, (.iad 5), [.t 182, .c (.int .i64 2)], some (181, true)⟩,
  ⟨some 184, (.fad 0), [.t 183], some (181, true)⟩,
  ⟨some 185, (.load false 1), [.t 184], some (181, true)⟩,
  ⟨some 186, .lens, [.t 185], some (181, true)⟩,
  ⟨some 187, .mov, [.t 8], some (181, true)⟩,
  ⟨some 188, .lens, [.t 187], some (181, true)⟩,
  ⟨some 189, (.bin .eql), [.t 186, .t 188], some (181, true)⟩,
  ⟨some 190, .pick, [.t 181, .t 189, .c (.bool false)], none⟩,
  ⟨some 191, .mov, [.t 190], none⟩,
  ⟨some 192, .mov, [.t 12], some (191, true)⟩,
  ⟨some 193, (.iad 5), [.t 192, .c (.int .i64 2)], some (191, true)⟩,
  ⟨some 194, (.load true 5), [.t 193], some (191, true)⟩,
  ⟨some 195, .mov, [.t 12], some (191, true)⟩,
  ⟨some 196, (.iad 5), [.t 195, .c (.int .i64 2)], some (191, true)⟩,
  ⟨some 197, (.fad 0), [.t 196], some (191, true)⟩,
  ⟨some 198, (.load false 1), [.t 197], some (191, true)⟩,
  ⟨some 199, .mov, [.t 8], some (191, true)⟩,
  ⟨some 200, (.bld [(.slc 0 [] true), (.slc 0 [] true), (.slc 0 [] true), (.slc 0 [] true), (.slc 0 [] true)] [(0, 1), (1, 1)]), [.t 198, .t 199], some (191, true)⟩,
  ⟨some 201, (.call Zdk), [.t 194, .t 200], some (191, true)⟩,
  ⟨some 202, .pick, [.t 191, .t 201, .c (.bool false)], none⟩,
  ⟨some 4, .mov, [.t 202], none⟩]
def Z24p : Z2y := ⟨203, (.seq (.region Z23r [0, 1]) (.seq (.seq (.region Z23s [0, 1, 16]) (.cond (.t 16) (.seq (.region Z23t [4]) .ret) .skip)) (.seq (.seq (.region Z23u [0, 1, 26]) (.cond (.t 26) (.seq (.region Z23v [4]) .ret) .skip)) (.seq (.region Z23w [0, 1, 5]) (.seq (.region Z23x [0, 1, 5, 6]) (.seq (.region Z23y [0, 1, 5, 6, 7, 8]) (.seq (.seq (.region Z23z [0, 1, 5, 6, 7, 8, 9]) (.block 0 (.loop Z24e))) (.seq (.region Z24f [0, 1, 7, 8, 12, 13]) (.seq (.seq (.region Z24g [0, 1, 7, 8, 12, 142]) (.cond (.t 142) (.seq (.region Z24h [4]) .ret) .skip)) (.seq (.seq (.region Z24i [0, 1, 7, 8, 12, 14]) (.block 4 (.loop Z24n))) (.seq (.region Z24o [4]) .ret))))))))))), [.t 4]⟩
end Go.Abs
namespace Go.Abs
open Go Go.Proofs
theorem Z24q : Z2z Try.prog [] Zcl = some Z24p.erase := by kernel_rfl
end Go.Abs
namespace Go.Abs
open Go Go.Proofs
set_option linter.unusedVariables false
set_option linter.unusedSimpArgs false
set_option maxHeartbeats 4000000
attribute [local irreducible] AWp aops KP
theorem Z24r : tB6.Fit := .mk (by simp [tB6, Ty.kids]) (by simp [tB6, Ty.names]) (by simp [tB6, Ty.names]) (by simp [tB6, Ty.kids])
theorem Z24s : tL6.Fit := .mk (by simp [tL6, Ty.kids]) (by simp [tL6, Ty.names]) (by simp [tL6, Ty.names]) fun u hu => by
  simp only [tL6, Ty.kids, List.mem_singleton] at hu
  subst hu
  exact Z24r
theorem Z24t : tN6.Fit := .mk (by simp [tN6, Ty.kids]) (by simp [tN6, Ty.names]) (by simp [tN6, Ty.names, maxLen]) fun u hu => by
  simp only [tN6, Ty.kids, List.mem_singleton] at hu
  subst hu
  exact Z24s
theorem Z24u (p : Bool × List Int) (hp : ∀ x ∈ p.2, -128 ≤ x ∧ x ≤ 127) (hl : p.2.length ≤ 60) : (rowL6 p).Fit := by
  refine Z1rw _ ?_
  unfold inL6
  refine .mk (by simp [Vl.i]) (by simp [Vl.b]) ?_ ?_
  · simp only [Vl.kids]
    split
    · simp
    · rw [List.length_map]; omega
  · simp only [Vl.kids]
    intro k hk
    split at hk
    · simp at hk
    · obtain ⟨x, hx, rfl⟩ := List.mem_map.1 hk
      have := hp x hx
      exact Z1rv _ _ (by omega)
def sl8 (xs : List Int) : Z0 := .slc 1 (xs.map (.int .i8)) false
theorem Z24v (ls : List (List Int)) (ns : List Bool) (hr : ∀ xs ∈ ls, ∀ x ∈ xs, -128 ≤ x ∧ x ≤ 127) (σ : Zc) : Z1q Try.prog Zcl [.slc 1 (ls.map sl8) false, .slc 1 (ns.map .bool) false] σ fun r σ' => r = .bool true ∧ σ' = σ := by
  have hll : (ls.map sl8).length = ls.length := List.length_map ..
  have hnl : (ns.map Z0.bool).length = ns.length := List.length_map ..
  refine Z8t rfl Z24q (Nat.le_of_ble_eq_true rfl) ?_
  (repeat (first | refine st_q rfl rfl rfl ?_ | (refine Z8y ?_; (repeat (first | refine Z9v rfl ?_ | refine Z9w ?_)); refine Z9u ?_) | refine awp_seq ?_ | refine Zbm (fun _ _ => rfl) ?_))
  refine Z9t rfl (Z221 _) ?_
  (repeat (first | refine st_q rfl rfl rfl ?_ | (refine Z8y ?_; (repeat (first | refine Z9v rfl ?_ | refine Z9w ?_)); refine Z9u ?_) | refine awp_seq ?_ | refine Zbm (fun _ _ => rfl) ?_ | refine Zbn (fun _ _ => rfl) ?_ | refine Z8f (t := false) rfl (fun e => by cases e) (fun _ => ?_)))
  rw [hll]
  by_cases h1 : 60 < ls.length
  · (rw [show decide ((60 : Int) < (ls.length : Int)) = true from decide_eq_true (by omega)])
    (repeat (first | refine st_q rfl rfl rfl ?_ | refine Z8w rfl ?_ | (refine Z8y ?_; (repeat (first | refine Z9v rfl ?_ | refine Z9w ?_)); refine Z9u ?_) | refine awp_seq ?_ | refine Zbm (fun _ _ => rfl) ?_ | refine Z8f (t := true) rfl (fun _ => ?_) (fun e => by cases e)))
    refine Z8d ?_
    exact ares rfl (HSub.refl _) ⟨rfl, rfl⟩
  (rw [show decide ((60 : Int) < (ls.length : Int)) = false from decide_eq_false (by omega)])
  (repeat (first | refine st_q rfl rfl rfl ?_ | refine Z8v rfl (st_q rfl rfl rfl ?_) | (refine Z8y ?_; (repeat (first | refine Z9v rfl ?_ | refine Z9w ?_)); refine Z9u ?_)))
  rw [hll, hnl]
  by_cases h2 : ns.length < ls.length
  · (rw [show decide ((ns.length : Int) < (ls.length : Int)) = true from decide_eq_true (by omega)])
    (repeat (first | refine st_q rfl rfl rfl ?_ | (refine Z8y ?_; (repeat (first | refine Z9v rfl ?_ | refine Z9w ?_)); refine Z9u ?_) | refine awp_seq ?_ | refine Zbm (fun _ _ => rfl) ?_ | refine Z8f (t := true) rfl (fun _ => ?_) (fun e => by cases e)))
    refine Z8d ?_
    exact ares rfl (HSub.refl _) ⟨rfl, rfl⟩
  (rw [show decide ((ns.length : Int) < (ls.length : Int)) = false from decide_eq_false (by omega)])
  (repeat (first | refine st_q rfl rfl rfl ?_ | refine awp_seq ?_ | refine Zbm (fun _ _ => rfl) ?_ | refine Zbn (fun _ _ => rfl) ?_ | refine Z8f (t := false) rfl (fun e => by cases e) (fun _ => ?_)))
  refine Z9k (by simp [Z0.cells, Z0.one]) fun b5 hb5 => ?_
  (first | refine Z9a rfl Z8z rfl (by decide) (Z0.fit_iff.1 rfl) (fun h => by cases h) Z9b ?_ | refine Z8v rfl (Z9a rfl Z8z rfl (by decide) (Z0.fit_iff.1 rfl) (fun h => by cases h) Z9b ?_))
  (refine Z8y ?_; (repeat (first | refine Z9v rfl ?_ | refine Z9w ?_)); refine Z9u ?_)
  refine Zby (Zbx.view (ys := [.agg (Zlo tN6)]) rfl rfl (by
    simp only [Zlo, tN6, tL6, tB6, Ty.kind, Ty.names, Ty.kids, Ty.len, Ty.prec, Ty.scale, Zln, encT, List.map_cons, List.map_nil]
    (repeat (first | exact VRle.refl _ | exact Zc5 | refine Zc6 rfl rfl ?_ | refine Zc7 rfl ?_ | refine Zc4 ?_ ?_)))) ?_
  refine Zb3 (d := 5) (cs := Zlo tN6) rfl ?_
  obtain ⟨ps, hps⟩ : ∃ ps, ps = List.zipWith Prod.mk ns ls := ⟨_, rfl⟩
  have hpl : ps.length = ls.length := by rw [hps, List.length_zipWith]; omega
  have hpg : ∀ i (h : i < ls.length) (h' : i < ns.length), ps[i]? = some (ns[i], ls[i]) := fun i h h' => by
    rw [hps, List.getElem?_zipWith, List.getElem?_eq_getElem h, List.getElem?_eq_getElem h']
  have hpr : ∀ p ∈ ps, ∀ x ∈ p.2, -128 ≤ x ∧ x ≤ 127 := fun p hp => by
    obtain ⟨i, hi⟩ := List.getElem?_of_mem hp
    have hl := (List.getElem?_eq_some_iff.1 hi).1
    rw [hpg i (by omega) (by omega)] at hi
    cases hi
    exact hr _ (List.getElem_mem _)
  clear hps
  (repeat (first | refine st_q rfl rfl rfl ?_ | (refine Z8y ?_; (repeat (first | refine Z9v rfl ?_ | refine Z9w ?_)); refine Z9u ?_) | refine awp_seq ?_ | refine Zbm (fun _ _ => rfl) ?_ | refine Z8h ?_))
  obtain ⟨I, hI⟩ : ∃ I : Nat → Z26 → Zc → Prop, I = fun m F σ' => ∃ (i : Nat) (v6 v7 v8 : Z0) (β6 β7 β8 : Zc), F = fset 0 (some (.slc 1 (ls.map sl8) false)) (fset 1 (some (.slc 1 (ns.map .bool) false)) (fset 5 (some (.iptr (Zlo tN6))) (fset 6 (some v6) (fset 7 (some v7) (fset 8 (some v8) (fset 9 (some (.int .i64 (i : Nat))) Z27)))))) ∧
    β8 ++ (β7 ++ (β6 ++ σ)) = σ' ∧ Zbr 5 v6 (Zm5 ((ps.take i).map rowL6)) β6 ∧ Zbr 1 v7 ((lensP (ps.take i)).map (.int .i64)) β7 ∧ Zbr 1 v8 ((allP (ps.take i)).map (.int .i64)) β8 ∧ (∀ p ∈ ps.take i, p.2.length ≤ 60) ∧ i ≤ ls.length ∧ m = ls.length - i := ⟨_, rfl⟩
  refine Zaa I (n := ls.length) (by rw [hI]; exact ⟨0, _, _, _, [], [], [], rfl, rfl, Zbr.nil 5 0, Zbr.nil 1 0, Zbr.nil 1 0, by simp, by omega, by omega⟩) ?_
  intro m0 F σ' hIm
  rw [hI] at hIm
  obtain ⟨i, v6, v7, v8, β6, β7, β8, rfl, rfl, ho6, ho7, ho8, h60, hi, rfl⟩ := hIm
  (repeat (first | refine st_q rfl rfl rfl ?_ | (refine Z8y ?_; (repeat (first | refine Z9v rfl ?_ | refine Z9w ?_)); refine Z9u ?_) | refine awp_seq ?_ | refine Zbm (fun _ _ => rfl) ?_))
  rw [hll]
  refine Za3 (p := (i : Int) < (ls.length : Int)) rfl (fun h5 => ?_) (fun h5 => ?_)
  · have hil : i < ls.length := by omega
    have hin : i < ns.length := by omega
    have hgl := Zxw (f := sl8) hil
    have hgn := Zxw (f := Z0.bool) hin
    have hg := hpg i hil hin
    have hxr := hr _ (List.getElem_mem hil)
    generalize ls[i] = xs at hgl hg hxr
    generalize ns[i] = nu at hgn hg
    have hxl : (xs.map (Z0.int .i8)).length = xs.length := List.length_map ..
    have htk : ps.take (i + 1) = ps.take i ++ [(nu, xs)] := by rw [List.take_add_one, hg]; rfl
    have hLn : lensP (ps.take (i + 1)) = lensP (ps.take i) ++ (if nu = true then [] else [(xs.length : Int)]) := by rw [htk, Z22e]
    have hAl : allP (ps.take (i + 1)) = allP (ps.take i) ++ (if nu = true then [] else xs) := by rw [htk, Z22f]
    have hlt : (Zm5 ((ps.take i).map rowL6)).length = i := by rw [Zm9, List.length_map, List.length_take]; omega
    have hl7 : (lensP (ps.take i)).length ≤ 60 := by have := Z22g (ps.take i); rw [List.length_take] at this; omega
    have hl8 : (allP (ps.take i)).length ≤ 3600 := by have := Z22h (ps.take i) h60; rw [List.length_take] at this; omega
    (repeat (first | refine st_q rfl rfl rfl ?_ | refine awp_seq ?_ | refine Zbm (fun _ _ => rfl) ?_ | refine Z8h ?_ | refine Zbn (fun _ _ => rfl) ?_))
    refine Z93 rfl (by omega) hgl ?_
    (repeat (first | refine st_q rfl rfl rfl ?_ | (refine Z8y ?_; (repeat (first | refine Z9v rfl ?_ | refine Z9w ?_)); refine Z9u ?_)))
    rw [hxl]
    refine Za3 (p := (60 : Int) < (xs.length : Int)) rfl (fun h6 => ?_) (fun h6 => ?_)
    · (repeat (first | refine st_q rfl rfl rfl ?_ | (refine Z8y ?_; (repeat (first | refine Z9v rfl ?_ | refine Z9w ?_)); refine Z9u ?_) | refine awp_seq ?_ | refine Zbm (fun _ _ => rfl) ?_))
      refine Z8d ?_
      exact ares rfl (HSub.of_sublist ((List.sublist_append_right β6 σ).trans ((List.sublist_append_right β7 _).trans (List.sublist_append_right β8 _)))) ⟨rfl, rfl⟩
    refine Zbn (fun _ _ => rfl) ?_
    (refine Z9y (keep := [0, 1, 5, 6, 7, 8, 9]) ?_; ((repeat (first | refine Z9v rfl ?_ | refine Z9w ?_)); refine Z9u ?_))
    have h60' : ∀ p ∈ ps.take (i + 1), p.2.length ≤ 60 := fun p hp => by
      rw [htk] at hp
      rcases List.mem_append.1 hp with hp | hp
      · exact h60 p hp
      · rw [List.mem_singleton.1 hp]; show xs.length ≤ 60; omega
    refine Z9z ?_
    (repeat (refine st_q rfl rfl rfl ?_))
    refine Z93 rfl (by omega) hgn ?_
    (repeat (refine st_q rfl rfl rfl ?_))
    refine Z9k (by simp [Z0.cells, Z0.one]) fun b10 hb10 => ?_
    (first | refine Z9a rfl Z8z rfl (by decide) (Z0.fit_iff.1 rfl) (fun h => by cases h) Z9b ?_ | refine Z8v rfl (Z9a rfl Z8z rfl (by decide) (Z0.fit_iff.1 rfl) (fun h => by cases h) Z9b ?_))
    (refine Z8y ?_; (repeat (first | refine Z9v rfl ?_ | refine Z9w ?_)); refine Z9u ?_)
    (repeat (first | refine st_q rfl rfl rfl ?_ | (refine Z8y ?_; (repeat (first | refine Z9v rfl ?_ | refine Z9w ?_)); refine Z9u ?_) | refine awp_seq ?_ | refine Zbm (fun _ _ => rfl) ?_ | refine Z8h ?_))
    cases nu with
    | true =>
      rw [if_pos rfl, List.append_nil] at hLn hAl
      refine Zaa (fun m F σ' => F = fset 0 (some (.slc 1 (ls.map sl8) false)) (fset 1 (some (.slc 1 (ns.map .bool) false)) (fset 5 (some (.iptr (Zlo tN6))) (fset 6 (some v6) (fset 7 (some v7) (fset 8 (some v8) (fset 9 (some (.int .i64 (i : Nat))) (fset 10 (some (.ptr b10 0 0)) (fset 11 (some (.int .i64 0)) Z27)))))))) ∧
        (b10, Zb.cells 5 [.agg [.bool true, .int .i64 0, .int .i64 0, .slc 0 [] true, .slc 0 [] true]]) :: (β8 ++ (β7 ++ (β6 ++ σ))) = σ' ∧ m = 0) (n := 0) ⟨rfl, rfl, rfl⟩ ?_
      rintro m F σ' ⟨rfl, rfl, rfl⟩
      (repeat (first | refine st_q rfl rfl rfl ?_ | refine awp_seq ?_ | refine Zbm (fun _ _ => rfl) ?_))
      refine Z93 rfl (by omega) hgl ?_
      (repeat (refine st_q rfl rfl rfl ?_))
      rw [hxl]
      by_cases h7 : 0 < xs.length
      all_goals
        first
          | rw [show decide ((0 : Int) < (xs.length : Int)) = true from decide_eq_true (by omega)]
          | rw [show decide ((0 : Int) < (xs.length : Int)) = false from decide_eq_false (by omega)]
        (repeat (first | refine st_q rfl rfl rfl ?_ | refine Z8v rfl (st_q rfl rfl rfl ?_) | refine Z8w rfl ?_))
        try refine Z8v rfl (Z93 rfl (by omega) hgn ?_)
        (repeat (first | refine st_q rfl rfl rfl ?_ | refine Z8v rfl (st_q rfl rfl rfl ?_)))
        (refine Z8y ?_; (repeat (first | refine Z9v rfl ?_ | refine Z9w ?_)); refine Z9u ?_)
        (refine Z8f (t := false) rfl (fun e => by cases e) (fun _ => ?_); refine Zbo (fun _ _ => rfl) ?_)
        (refine Z9y (keep := [0, 1, 5, 6, 7, 8, 9, 10]) ?_; ((repeat (first | refine Z9v rfl ?_ | refine Z9w ?_)); refine Z9u ?_))
        refine Zb3 (d := 10) rfl ?_
        (refine Z9y (keep := [0, 1, 5, 6, 7, 8, 9, 10]) ?_; ((repeat (first | refine Z9v rfl ?_ | refine Z9w ?_)); refine Z9u ?_))
        (repeat (first | refine st_q rfl rfl rfl ?_ | refine awp_seq ?_ | refine Zbm (fun _ _ => rfl) ?_))
        refine Z93 rfl (by omega) hgn ?_
        (repeat (refine st_q rfl rfl rfl ?_))
        (refine Z8y ?_; (repeat (first | refine Z9v rfl ?_ | refine Z9w ?_)); refine Z9u ?_)
        (refine Z8f (t := false) rfl (fun e => by cases e) (fun _ => ?_); refine Zbn (fun _ _ => rfl) ?_)
        (refine Z9y (keep := [0, 1, 5, 6, 7, 8, 9, 10]) ?_; ((repeat (first | refine Z9v rfl ?_ | refine Z9w ?_)); refine Z9u ?_))
        rw [← List.append_assoc]
        refine Zb4 ?_
        refine Zbm (fun _ _ => rfl) ?_
        (repeat (refine st_q rfl rfl rfl ?_))
        refine Zbs ho6 rfl rfl (by rw [hlt]; simp; omega) fun b' hb' => ?_
        (repeat (refine st_q rfl rfl rfl ?_))
        (refine Z8y ?_; (repeat (first | refine Z9v rfl ?_ | refine Z9w ?_)); refine Z9u ?_)
        rw [List.length_append]
        refine Zby (Z222 (v := rowL6 (true, xs)) (by
          simp only [Zm6, rowL6, inL6, Vl.null, Vl.i, Vl.n, Vl.b, Vl.kids, Zm5, encV, bytes, List.map_nil, if_true, Bool.false_eq_true, if_false]
          (repeat (first | exact VRle.refl _ | exact Zc5 | refine Zc6 rfl rfl ?_ | refine Zc7 rfl ?_ | refine Zc4 ?_ ?_)))) ?_
        have htk6 : (ps.take (i + 1)).map rowL6 = (ps.take i).map rowL6 ++ [rowL6 (true, xs)] := by rw [htk, List.map_append]; rfl
        rw [← htk6]
        have hlen1 : (Zm5 ((ps.take (i + 1)).map rowL6)).length = (Zm5 ((ps.take i).map rowL6)).length + 1 := by rw [Zm9, Zm9, htk6, List.length_append]; rfl
        refine Zb4 (β := [(b', _)]) (γ := β8 ++ β7) ?_
        refine Zbp ?_
        (repeat (refine st_q rfl rfl rfl ?_))
        rw [show IntKind.wrap .i64 ((i : Int) + 1) = ((i + 1 : Nat) : Int) by rw [w64 _ (by omega) (by omega)]; omega]
        (refine Z8y ?_; (repeat (first | refine Z9v rfl ?_ | refine Z9w ?_)); refine Z9u ?_)
        refine ⟨_, ls.length - (i + 1), HSub.refl _, ?_, by omega⟩
        rw [hI]
        refine ⟨i + 1, .arr 5 b' 0 (Zm5 ((ps.take (i + 1)).map rowL6)).length, v7, v8, [(b', .cells 5 (Zm5 ((ps.take (i + 1)).map rowL6)))], β7, β8, ?_, (List.append_assoc ..).symm, Zbr.mk, by rw [hLn]; exact ho7, by rw [hAl]; exact ho8, h60', by omega, rfl⟩
        rw [hlen1]
        rfl
    | false =>
      rw [if_neg (by simp)] at hLn hAl
      obtain ⟨J, hJ⟩ : ∃ J : Nat → Z26 → Zc → Prop, J = fun m F σ' => ∃ (k : Nat) (kv va : Z0) (βk βa : Zc), F = fset 0 (some (.slc 1 (ls.map sl8) false)) (fset 1 (some (.slc 1 (ns.map .bool) false)) (fset 5 (some (.iptr (Zlo tN6))) (fset 6 (some v6) (fset 7 (some v7) (fset 8 (some va) (fset 9 (some (.int .i64 (i : Nat))) (fset 10 (some (.ptr b10 0 0)) (fset 11 (some (.int .i64 (k : Nat))) Z27)))))))) ∧
        βk ++ ((b10, Zb.cells 5 [.agg [.bool false, .int .i64 0, .int .i64 0, .slc 0 [] true, kv]]) :: (βa ++ (β7 ++ (β6 ++ σ)))) = σ' ∧ Zbr 5 kv (Zm5 ((xs.take k).map leaf6)) βk ∧ b10 ∉ Zh βk ∧ Zbr 1 va ((allP (ps.take i) ++ xs.take k).map (.int .i64)) βa ∧ k ≤ xs.length ∧ m = xs.length - k := ⟨_, rfl⟩
      refine Zaa J (n := xs.length) (by rw [hJ]; exact ⟨0, .slc 0 [] true, v8, [], β8, rfl, rfl, Zbr.nil 5 0, by simp [Zh], by rw [List.take_zero, List.append_nil]; exact ho8, by omega, by omega⟩) ?_
      intro m1 F σ' hJm
      rw [hJ] at hJm
      obtain ⟨k, kv, va, βk, βa, rfl, rfl, hok, hnb, hoa, hk, rfl⟩ := hJm
      (repeat (first | refine st_q rfl rfl rfl ?_ | refine awp_seq ?_ | refine Zbm (fun _ _ => rfl) ?_))
      refine Z93 rfl (by omega) hgl ?_
      (repeat (refine st_q rfl rfl rfl ?_))
      rw [hxl]
      by_cases h7 : k < xs.length
      · (rw [show decide ((k : Int) < (xs.length : Int)) = true from decide_eq_true (by omega)])
        have hgx := Zxw (f := Z0.int .i8) h7
        have hy := hxr _ (List.getElem_mem h7)
        have htx : xs.take (k + 1) = xs.take k ++ [xs[k]] := by rw [List.take_add_one, List.getElem?_eq_getElem h7]; rfl
        generalize xs[k] = y at hgx hy htx
        have hw : IntKind.wrap .i64 y = y := w64 _ (by omega) (by omega)
        have hkl : (Zm5 ((xs.take k).map leaf6)).length = k := by rw [Zm9, List.length_map, List.length_take]; omega
        have hlenk : ∀ e : Z0, (Zm5 ((xs.take k).map leaf6) ++ [e]).length = (Zm5 ((xs.take (k + 1)).map leaf6)).length := fun e => by
          rw [List.length_append, Zm9, Zm9, htx, List.length_map, List.length_map, List.length_append]; rfl
        have hal : ((allP (ps.take i) ++ xs.take k).map (Z0.int .i64)).length ≤ 3660 := by rw [List.length_map, List.length_append, List.length_take]; omega
        have heq8 : (allP (ps.take i) ++ xs.take k).map (Z0.int .i64) ++ [Z0.int .i64 y] = (allP (ps.take i) ++ xs.take (k + 1)).map (Z0.int .i64) := by rw [htx, ← List.append_assoc, List.map_append (l₂ := [y])]; rfl
        (repeat refine Z8v rfl (st_q rfl rfl rfl ?_))
        refine Z8v rfl (Z93 rfl (by omega) hgn ?_)
        (repeat (first | refine st_q rfl rfl rfl ?_ | refine Z8v rfl (st_q rfl rfl rfl ?_)))
        (refine Z8y ?_; (repeat (first | refine Z9v rfl ?_ | refine Z9w ?_)); refine Z9u ?_)
        refine Z8f (t := true) rfl (fun _ => ?_) (fun e => by cases e)
        refine Zbn (fun _ _ => rfl) ?_
        (refine Z9y (keep := [0, 1, 5, 6, 7, 8, 9, 10, 11]) ?_; ((repeat (first | refine Z9v rfl ?_ | refine Z9w ?_)); refine Z9u ?_))
        (repeat (first | refine st_q rfl rfl rfl ?_ | refine awp_seq ?_ | refine Zbm (fun _ _ => rfl) ?_ | refine Z8h ?_))
        refine Z92 rfl (by rw [Zah hnb]; exact Z8z) rfl rfl ?_
        (repeat (refine st_q rfl rfl rfl ?_))
        refine Z93 rfl (by omega) hgl ?_
        (repeat (refine st_q rfl rfl rfl ?_))
        refine Z93 rfl (by omega) hgx ?_
        (repeat (refine st_q rfl rfl rfl ?_))
        rw [hw]
        refine Zbs (ys := [.agg [.bool false, .int .i64 y, .int .i64 0, .slc 0 [] true, .slc 0 [] true]]) hok rfl rfl (by rw [hkl]; simp; omega) fun b' hb' => ?_
        have hb10' : b' ≠ b10 := fun e => hb' (by rw [e]; simp [Zh])
        rw [hlenk]
        (repeat (refine st_q rfl rfl rfl ?_))
        refine Z9a rfl (Z90 hb10' Z8z) rfl (by decide) (Z0.fit_iff.1 rfl) (fun h => by cases h) (Z9c hb10' Z9b) ?_
        (refine Z8y ?_; (repeat (first | refine Z9v rfl ?_ | refine Z9w ?_)); refine Z9u ?_)
        refine Zby (Z222 (v := leaf6 y) (by
          simp only [Zm6, leaf6, Vl.null, Vl.i, Vl.n, Vl.b, Vl.kids, Zm5, encV, bytes, List.map_nil]
          (repeat (first | exact VRle.refl _ | exact Zc5 | refine Zc6 rfl rfl ?_ | refine Zc7 rfl ?_ | refine Zc4 ?_ ?_)))) ?_
        have htk6 : (xs.take (k + 1)).map leaf6 = (xs.take k).map leaf6 ++ [leaf6 y] := by rw [htx, List.map_append]; rfl
        rw [← htk6]
        refine Zb4 (β := [(b', _), (b10, Zb.cells 5 [.agg [.bool false, .int .i64 0, .int .i64 0, .slc 0 [] true, .arr 5 b' 0 (Zm5 ((xs.take (k + 1)).map leaf6)).length]])]) (γ := βa) ?_
        refine Zbm (fun _ _ => rfl) ?_
        (repeat (refine st_q rfl rfl rfl ?_))
        refine Z93 rfl (by omega) hgl ?_
        (repeat (refine st_q rfl rfl rfl ?_))
        refine Z93 rfl (by omega) hgx ?_
        (repeat (refine st_q rfl rfl rfl ?_))
        rw [hw]
        refine Zbs hoa rfl rfl (by simp only [List.length_singleton]; omega) fun b'' hb'' => ?_
        rw [heq8]
        (repeat (refine st_q rfl rfl rfl ?_))
        (refine Z8y ?_; (repeat (first | refine Z9v rfl ?_ | refine Z9w ?_)); refine Z9u ?_)
        refine Zb4 (β := [(b'', _)]) (γ := [(b', _), (b10, Zb.cells 5 [.agg [.bool false, .int .i64 0, .int .i64 0, .slc 0 [] true, .arr 5 b' 0 (Zm5 ((xs.take (k + 1)).map leaf6)).length]])]) ?_
        refine Zbp ?_
        (repeat (refine st_q rfl rfl rfl ?_))
        rw [show IntKind.wrap .i64 ((k : Int) + 1) = ((k + 1 : Nat) : Int) by rw [w64 _ (by omega) (by omega)]; omega]
        (refine Z8y ?_; (repeat (first | refine Z9v rfl ?_ | refine Z9w ?_)); refine Z9u ?_)
        refine ⟨_, xs.length - (k + 1), HSub.refl _, ?_, by omega⟩
        rw [hJ]
        exact ⟨k + 1, _, _, [(b', .cells 5 (Zm5 ((xs.take (k + 1)).map leaf6)))], [(b'', .cells 1 ((allP (ps.take i) ++ xs.take (k + 1)).map (.int .i64)))], rfl, rfl, Zbr.mk, fun hm => by simp only [Zh, List.map_cons, List.map_nil, List.mem_singleton] at hm; exact hb10' hm.symm, Zbr.mk, by omega, rfl⟩
      · (rw [show decide ((k : Int) < (xs.length : Int)) = false from decide_eq_false (by omega)])
        have hkk : xs.take k = xs := List.take_of_length_le (by omega)
        rw [hkk] at hok hoa
        rw [← hAl] at hoa
        have heq7 : (lensP (ps.take i)).map (Z0.int .i64) ++ [Z0.int .i64 (xs.length : Int)] = (lensP (ps.take (i + 1))).map (Z0.int .i64) := by rw [hLn, List.map_append]; rfl
        (repeat (first | refine st_q rfl rfl rfl ?_ | refine Z8w rfl ?_))
        (refine Z8y ?_; (repeat (first | refine Z9v rfl ?_ | refine Z9w ?_)); refine Z9u ?_)
        (refine Z8f (t := false) rfl (fun e => by cases e) (fun _ => ?_); refine Zbo (fun _ _ => rfl) ?_)
        (refine Z9y (keep := [0, 1, 5, 6, 7, 8, 9, 10]) ?_; ((repeat (first | refine Z9v rfl ?_ | refine Z9w ?_)); refine Z9u ?_))
        refine Zb4 (β := βk) (γ := [(b10, _)]) ?_
        refine Zby (Zbx.cellS (b := b10) (sz := 5) (β := βk) (σ := βa ++ (β7 ++ (β6 ++ σ))) (A := []) (B := []) (p := [.bool false, .int .i64 0, .int .i64 0, .slc 0 [] true]) (q := []) hok (fun y hy => by
          simp only [List.nil_append, List.append_nil, List.cons_append, List.mem_singleton] at hy
          subst hy
          exact Z0.fit_iff.1 rfl)) ?_
        refine Zb3 (d := 10) rfl ?_
        (refine Z9y (keep := [0, 1, 5, 6, 7, 8, 9, 10]) ?_; ((repeat (first | refine Z9v rfl ?_ | refine Z9w ?_)); refine Z9u ?_))
        (repeat (first | refine st_q rfl rfl rfl ?_ | refine awp_seq ?_ | refine Zbm (fun _ _ => rfl) ?_))
        refine Z93 rfl (by omega) hgn ?_
        (repeat (refine st_q rfl rfl rfl ?_))
        (refine Z8y ?_; (repeat (first | refine Z9v rfl ?_ | refine Z9w ?_)); refine Z9u ?_)
        refine Z8f (t := true) rfl (fun _ => ?_) (fun e => by cases e)
        refine Zb4 (β := βa) (γ := β7) ?_
        refine Zbm (fun _ _ => rfl) ?_
        (repeat (refine st_q rfl rfl rfl ?_))
        refine Z93 rfl (by omega) hgl ?_
        (repeat (refine st_q rfl rfl rfl ?_))
        rw [hxl]
        (repeat (refine st_q rfl rfl rfl ?_))
        refine Zbs ho7 rfl rfl (by simp only [List.length_map, List.length_singleton]; omega) fun b7' hb7' => ?_
        rw [heq7]
        (repeat (refine st_q rfl rfl rfl ?_))
        (refine Z8y ?_; (repeat (first | refine Z9v rfl ?_ | refine Z9w ?_)); refine Z9u ?_)
        refine Zb4 (β := (b7', _) :: βa) (γ := β6) ?_
        refine Zbm (fun _ _ => rfl) ?_
        (repeat (refine st_q rfl rfl rfl ?_))
        refine Zbs ho6 rfl rfl (by rw [hlt]; simp; omega) fun b' hb' => ?_
        (repeat (refine st_q rfl rfl rfl ?_))
        (refine Z8y ?_; (repeat (first | refine Z9v rfl ?_ | refine Z9w ?_)); refine Z9u ?_)
        rw [List.length_append]
        refine Zby (Z222 (v := rowL6 (false, xs)) (by
          simp only [Zm6, rowL6, inL6, Vl.null, Vl.i, Vl.n, Vl.b, Vl.kids, Zm5, encV, bytes, List.map_nil, if_true, Bool.false_eq_true, if_false]
          (repeat (first | exact VRle.refl _ | exact Zc5 | refine Zc6 rfl rfl ?_ | refine Zc7 rfl ?_ | refine Zc4 ?_ ?_)))) ?_
        have htk6 : (ps.take (i + 1)).map rowL6 = (ps.take i).map rowL6 ++ [rowL6 (false, xs)] := by rw [htk, List.map_append]; rfl
        rw [← htk6]
        have hlen1 : (Zm5 ((ps.take (i + 1)).map rowL6)).length = (Zm5 ((ps.take i).map rowL6)).length + 1 := by rw [Zm9, Zm9, htk6, List.length_append]; rfl
        refine Zb4 (β := [(b', _)]) (γ := (b7', _) :: βa) ?_
        refine Zb4 (β := [(b7', _)]) (γ := βa) ?_
        refine Zbp ?_
        (repeat (refine st_q rfl rfl rfl ?_))
        rw [show IntKind.wrap .i64 ((i : Int) + 1) = ((i + 1 : Nat) : Int) by rw [w64 _ (by omega) (by omega)]; omega]
        (refine Z8y ?_; (repeat (first | refine Z9v rfl ?_ | refine Z9w ?_)); refine Z9u ?_)
        refine ⟨_, ls.length - (i + 1), HSub.refl _, ?_, by omega⟩
        rw [hI]
        refine ⟨i + 1, .arr 5 b' 0 (Zm5 ((ps.take (i + 1)).map rowL6)).length, _, va, [(b', .cells 5 (Zm5 ((ps.take (i + 1)).map rowL6)))], [(b7', .cells 1 ((lensP (ps.take (i + 1))).map (.int .i64)))], βa, ?_, rfl, Zbr.mk, Zbr.mk, hoa, h60', by omega, rfl⟩
        rw [hlen1]
        rfl
  · have e : ps.take i = ps := List.take_of_length_le (by omega)
    rw [e] at ho6 ho7 ho8 h60
    have hsh := Z22o ps (fun p hp => ⟨hpr p hp, h60 p hp⟩) (by omega)
    obtain ⟨K0, e0⟩ : ∃ K : Col, K = ⟨ps.map (fun _ => true), [], [], [], []⟩ := ⟨_, rfl⟩
    obtain ⟨K1, e1⟩ : ∃ K : Col, K = ⟨ps.map (fun p => !p.1), [], [], [], lensP ps⟩ := ⟨_, rfl⟩
    obtain ⟨K2, e2⟩ : ∃ K : Col, K = ⟨List.replicate (allP ps).length true, allP ps, [], [], []⟩ := ⟨_, rfl⟩
    rw [← e0, ← e1, ← e2] at hsh
    have hS := Z21j tN6 Z24t (ps.map rowL6) (fun v hv => by obtain ⟨p, hp, rfl⟩ := List.mem_map.1 hv; exact Z24u p (hpr p hp) (h60 p hp)) (by rw [List.length_map]; omega)
    rw [hsh, Zlp] at hS
    simp only [List.map_cons, List.map_nil] at hS
    have hal := Z22h ps h60
    have hle := Z22g ps
    have hl0 : K0.here.length = ls.length := by rw [e0]; simp [hpl]
    have hl1 : K1.here.length = ls.length := by rw [e1]; simp [hpl]
    have hl2 : K2.here.length = (allP ps).length := by rw [e2]; simp
    have hg0 : ∀ j, j < ls.length → (K0.here.map Z0.bool)[(j : Int).toNat]? = some (.bool true) := fun j hj => by
      rw [Int.toNat_natCast, e0, List.getElem?_map, List.getElem?_map, List.getElem?_eq_getElem (by omega)]; rfl
    have hg1 : ∀ j (h : j < ls.length) (h' : j < ns.length), (K1.here.map Z0.bool)[(j : Int).toNat]? = some (.bool (!ns[j])) := fun j h h' => by
      rw [Int.toNat_natCast, e1, List.getElem?_map, List.getElem?_map, hpg j h h']; rfl
    have hs1 : K1.Sm := by rw [e1]; constructor <;> simp <;> omega
    have hs2 : K2.Sm := by rw [e2]; constructor <;> simp <;> omega
    have hv1 : VRle [encC K1, .agg [.slc 1 (K1.here.map .bool) false, .slc 0 [] true, .slc 0 [] true, .slc 0 [] true, .slc 1 ((lensP ps).map (.int .i64)) false]] [encC K1, encC K1] := by
      refine VRle.cons (VRle.refl _) ?_
      rw [e1, encC, Zxu]
      simp only [List.map_nil]
      (repeat (first | exact VRle.refl _ | exact Zc5 | refine Zc6 rfl rfl ?_ | refine Zc7 rfl ?_ | refine Zc4 ?_ ?_))
    have hv2 : VRle [encC K2, .agg [.slc 1 (K2.here.map .bool) false, .slc 1 ((allP ps).map (.int .i64)) false, .slc 0 [] true, .slc 0 [] true, .slc 0 [] true]] [encC K2, encC K2] := by
      refine VRle.cons (VRle.refl _) ?_
      rw [e2, encC, Zxu]
      simp only [List.map_nil]
      (repeat (first | exact VRle.refl _ | exact Zc5 | refine Zc6 rfl rfl ?_ | refine Zc7 rfl ?_ | refine Zc4 ?_ ?_))
    have hm : ∀ (l : List Bool), (l.map Z0.bool).length = l.length := fun l => List.length_map ..
    have hmi : ∀ (l : List Int), (l.map (Z0.int .i64)).length = l.length := fun l => List.length_map ..
    clear e0 e1 e2
    refine Zbo (fun _ _ => rfl) ?_
    refine Zbt (d := 8) rfl (Zb6.growG ho8) ?_
    refine Zbt (d := 7) rfl (Zb6.growG ho7) ?_
    refine Zbt (d := 6) rfl (Zb6.growG ho6) ?_
    (refine Z9y (keep := [0, 1, 5, 6, 7, 8]) ?_; ((repeat (first | refine Z9v rfl ?_ | refine Z9w ?_)); refine Z9u ?_))
    (repeat (first | refine st_q rfl rfl rfl ?_ | refine awp_seq ?_ | refine Zbm (fun _ _ => rfl) ?_))
    refine Z9t rfl (hS _) ?_
    (repeat (first | refine st_q rfl rfl rfl ?_ | refine Z8v rfl (st_q rfl rfl rfl ?_) | (refine Z8y ?_; (repeat (first | refine Z9v rfl ?_ | refine Z9w ?_)); refine Z9u ?_) | refine awp_seq ?_ | refine Zbm (fun _ _ => rfl) ?_))
    rw [hm, hll]
    (rw [show decide ((K0.here.length : Int) ≠ (ls.length : Int)) = false from decide_eq_false (by omega)])
    (repeat (first | refine st_q rfl rfl rfl ?_ | refine Z8v rfl (st_q rfl rfl rfl ?_) | (refine Z8y ?_; (repeat (first | refine Z9v rfl ?_ | refine Z9w ?_)); refine Z9u ?_)))
    rw [hm, hll]
    (rw [show decide ((K1.here.length : Int) ≠ (ls.length : Int)) = false from decide_eq_false (by omega)])
    (repeat (first | refine st_q rfl rfl rfl ?_ | (refine Z8y ?_; (repeat (first | refine Z9v rfl ?_ | refine Z9w ?_)); refine Z9u ?_) | refine awp_seq ?_ | refine Zbm (fun _ _ => rfl) ?_ | refine Z8h ?_ | refine Zbn (fun _ _ => rfl) ?_ | refine Z8f (t := false) rfl (fun e => by cases e) (fun _ => ?_)))
    refine Zaa (fun m F σ' => ∃ j : Nat, F = fset 0 (some (.slc 1 (ls.map sl8) false)) (fset 1 (some (.slc 1 (ns.map .bool) false)) (fset 7 (some (.slc 1 ((lensP ps).map (.int .i64)) false)) (fset 8 (some (.slc 1 ((allP ps).map (.int .i64)) false)) (fset 12 (some (.slc 5 [encC K0, encC K1, encC K2] false)) (fset 14 (some (.int .i64 (j : Nat))) Z27))))) ∧ σ = σ' ∧ j ≤ ls.length ∧ m = ls.length - j) (n := ls.length) ⟨0, rfl, rfl, by omega, by omega⟩ ?_
    rintro m2 F σ' ⟨j, rfl, rfl, hj, rfl⟩
    (repeat (first | refine st_q rfl rfl rfl ?_ | (refine Z8y ?_; (repeat (first | refine Z9v rfl ?_ | refine Z9w ?_)); refine Z9u ?_) | refine awp_seq ?_ | refine Zbm (fun _ _ => rfl) ?_))
    rw [hll]
    refine Za3 (p := (j : Int) < (ls.length : Int)) rfl (fun h8 => ?_) (fun h8 => ?_)
    · have hjl : j < ls.length := by omega
      have hjn : j < ns.length := by omega
      have hx0 := hg0 j hjl
      have hx1 := hg1 j hjl hjn
      have hx2 := Zxw (f := Z0.bool) hjn
      generalize ns[j] = y at hx1 hx2
      (repeat (first | refine st_q rfl rfl rfl ?_ | refine awp_seq ?_ | refine Zbm (fun _ _ => rfl) ?_ | refine Z8h ?_ | refine Zbn (fun _ _ => rfl) ?_))
      refine Z93 rfl (by omega) hx0 ?_
      (repeat (first | refine st_q rfl rfl rfl ?_ | refine Z8v rfl (st_q rfl rfl rfl ?_)))
      refine Z8v rfl (Z93 rfl (by omega) hx1 ?_)
      (repeat refine Z8v rfl (st_q rfl rfl rfl ?_))
      refine Z8v rfl (Z93 rfl (by omega) hx2 ?_)
      cases y
      all_goals
        (repeat (first | refine st_q rfl rfl rfl ?_ | refine Z8v rfl (st_q rfl rfl rfl ?_) | (refine Z8y ?_; (repeat (first | refine Z9v rfl ?_ | refine Z9w ?_)); refine Z9u ?_) | refine Zbn (fun _ _ => rfl) ?_ | refine Z8f (t := false) rfl (fun e => by cases e) (fun _ => ?_)))
        refine Zbp ?_
        (repeat (refine st_q rfl rfl rfl ?_))
        rw [show IntKind.wrap .i64 ((j : Int) + 1) = ((j + 1 : Nat) : Int) by rw [w64 _ (by omega) (by omega)]; omega]
        (refine Z8y ?_; (repeat (first | refine Z9v rfl ?_ | refine Z9w ?_)); refine Z9u ?_)
        exact ⟨_, ls.length - (j + 1), HSub.refl _, ⟨j + 1, rfl, rfl, by omega, rfl⟩, by omega⟩
    · (repeat (first | refine st_q rfl rfl rfl ?_ | refine awp_seq ?_ | refine Zbm (fun _ _ => rfl) ?_ | refine Zbo (fun _ _ => rfl) ?_))
      refine Z9t rfl (Z1q.args hv1 (Z23q K1 hs1 _)) ?_
      (repeat (first | refine st_q rfl rfl rfl ?_ | refine Z8v rfl (st_q rfl rfl rfl ?_)))
      rw [hm, hmi]
      (rw [show decide ((K2.here.length : Int) = ((allP ps).length : Int)) = true from decide_eq_true (by omega)])
      (repeat refine Z8v rfl (st_q rfl rfl rfl ?_))
      refine Z8v rfl (Z9t rfl (Z1q.args hv2 (Z23q K2 hs2 _)) ?_)
      (repeat (first | refine st_q rfl rfl rfl ?_ | (refine Z8y ?_; (repeat (first | refine Z9v rfl ?_ | refine Z9w ?_)); refine Z9u ?_)))
      refine Z8d ?_
      exact ares rfl (HSub.refl _) ⟨rfl, rfl⟩
end Go.Abs

