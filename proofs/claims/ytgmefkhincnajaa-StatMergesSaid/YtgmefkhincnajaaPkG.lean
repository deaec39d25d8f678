/- Part G of a proof: merged by program. -/
import Derived.Test.YtgmefkhincnajaaPkE
import Derived.Test.YtgmefkhincnajaaProg
import Derived.KernelRfl
namespace Go.Abs
open Go
def Zzj : List Z2a := [
  ⟨some 2, (.box 6), [.t 0], none⟩,
  ⟨some 4, .mov, [.c (.slc 0 [] true)], none⟩,
  ⟨some 5, .mov, [.c (.int .i64 0)], none⟩]
def Zzk : List Z2a := [
  ⟨some 12, (.load true 6), [.t 2], none⟩,
  ⟨some 13, (.call Zd6), [.t 12], none⟩,
  ⟨some 6, .mov, [.t 13], none⟩]
def Zzl : List Z2a := [
  ⟨some 14, .mov, [.t 6], none⟩,
  ⟨some 15, (.bin .neq), [.t 14, .c (.int .i64 0)], none⟩]
def Zzm : List Z2a := [
  ⟨some 16, .mov, [.t 6], none⟩,
  ⟨some 4, .mov, [.c (.slc 0 [] true)], none⟩,
  ⟨some 5, .mov, [.t 16], none⟩]
def Zzn : List Z2a := [
  ⟨some 17, (.load true 6), [.t 2], none⟩,
  ⟨some 18, (.call Zcq), [.t 17], none⟩,
  ⟨some 7, .mov, [.t 18], none⟩]
def Zzo : List Z2a := [
  ⟨some 8, .mov, [.c (.int .i64 0)], none⟩]
def Zzp : List Z2a := [
  ⟨some 19, .mov, [.t 8], none⟩,
  ⟨some 20, .mov, [.t 1], none⟩,
  ⟨some 21, .lens, [.t 20], none⟩,
  ⟨some 22, (.bin .lss), [.t 19, .t 21], none⟩]
def Zzq : List Z2a := [
  ⟨some 25, (.load true 6), [.t 2], none⟩,
  ⟨some 26, .mov, [.t 1], none⟩,
  ⟨some 27, .mov, [.t 8], none⟩,
  ⟨some 28, (.iad 5), [.t 26, .t 27], none⟩,
  ⟨some 29, (.load true 5), [.t 28], none⟩,
  ⟨some 30, (.call Zdd), [.t 25, .t 29], none⟩,
  ⟨some 9, .mov, [.t 30], none⟩]
def Zzr : List Z2a := [
  ⟨some 31, .mov, [.t 9], none⟩,
  ⟨some 32, (.bin .eql), [.t 31, .c (.int .i64 0)], none⟩,
  ⟨some 33, .mov, [.t 32], none⟩,
  ⟨some 34, .mov, [.t 1], some (33, true)⟩,
  ⟨some 35, .mov, [.t 8], some (33, true)⟩,
  ⟨some 36, (.iad 5), [.t 34, .t 35], some (33, true)⟩,
  ⟨some 37, (.fad 0), [.t 36], some (33, true)⟩,
  ⟨some 38, (.load false 1), [.t 37], some (33, true)⟩,
  ⟨some 39, .pick, [.t 33, .t 38, .c (.bool false)], none⟩]
def Zzs : List Z2a := [
  ⟨some 9, .mov, [.c (.int .i64 1)], none⟩]
def Zzt : List Z2a := [
  ⟨some 40, .mov, [.t 9], none⟩,
  ⟨some 41, (.bin .neq), [.t 40, .c (.int .i64 0)], none⟩]
def Zzu : List Z2a := [
  ⟨some 42, .mov, [.t 9], none⟩,
  ⟨some 4, .mov, [.c (.slc 0 [] true)], none⟩,
  ⟨some 5, .mov, [.t 42], none⟩]
def Zzv : List Z2a := [
  ⟨some 23, .mov, [.t 8], none⟩,
  ⟨some 24, (.bin .add), [.t 23, .c (.int .i64 1)], none⟩,
  ⟨some 8, .mov, [.t 24], none⟩]
def Zzw : Z2b := (.seq (.seq (.region Zzp [1, 2, 7, 8, 22, 34, 35, 36, 37, 38]) (.cond (.t 22) .skip (.exit 0))) (.seq (.block 1 (.seq (.region Zzq [1, 2, 7, 8, 9, 34, 35, 36, 37, 38]) (.seq (.seq (.region Zzr [1, 2, 7, 8, 9, 34, 35, 36, 37, 38, 39]) (.cond (.t 39) (.region Zzs [1, 2, 7, 8, 9, 34, 35, 36, 37, 38]) .skip)) (.seq (.region Zzt [1, 2, 7, 8, 9, 34, 35, 36, 37, 38, 41]) (.cond (.t 41) (.seq (.region Zzu [4, 5]) .ret) .skip))))) (.region Zzv [1, 2, 7, 8, 34, 35, 36, 37, 38])))
def Zzx : List Z2a := [
  ⟨some 43, .mov, [.t 7], none⟩,
  ⟨some 44, .lens, [.t 43], none⟩,
  ⟨some 45, (.mks 5 120 (.agg [(.slc 0 [] true), (.slc 0 [] true), (.slc 0 [] true), (.slc 0 [] true), (.slc 0 [] true)])), [.t 44, .t 44], none⟩,
  ⟨some 10, .mov, [.t 45], none⟩]
def Zzy : List Z2a := [
  ⟨some 11, .mov, [.c (.int .i64 0)], none⟩]
def Zzz : List Z2a := [
  ⟨some 46, .mov, [.t 11], none⟩,
  ⟨some 47, .mov, [.t 1], none⟩,
  ⟨some 48, .lens, [.t 47], none⟩,
  ⟨some 49, (.bin .lss), [.t 46, .t 48], none⟩]
def Z100 : List Z2a := [
  ⟨some 52, .mov, [.t 7], none⟩,
  ⟨some 53, .mov, [.t 10], none⟩,
  ⟨some 54, .mov, [.t 1], none⟩,
  ⟨some 55, .mov, [.t 11], none⟩,
  ⟨some 56, (.iad 5), [.t 54, .t 55], none⟩,
  ⟨some 57, (.load true 5), [.t 56], none⟩,
  ⟨some 58, (.call Zdz), [.t 52, .t 53, .c (.int .i64 0), .t 57], none⟩,
  ⟨some 59, .unot, [.t 58], none⟩]
def Z101 : List Z2a := [
  ⟨some 4, .mov, [.c (.slc 0 [] true)], none⟩,
  ⟨some 5, .mov, [.c (.int .i64 4)], none⟩]
def Z102 : List Z2a := [
  ⟨some 50, .mov, [.t 11], none⟩,
  ⟨some 51, (.bin .add), [.t 50, .c (.int .i64 1)], none⟩,
  ⟨some 11, .mov, [.t 51], none⟩]
def Z103 : Z2b := (.seq (.seq (.region Zzz [1, 7, 10, 11, 49]) (.cond (.t 49) .skip (.exit 2))) (.seq (.block 3 (.seq (.region Z100 [1, 7, 10, 11, 59]) (.cond (.t 59) (.seq (.region Z101 [4, 5]) .ret) .skip))) (.region Z102 [1, 7, 10, 11])))
def Z104 : List Z2a := [
  ⟨some 60, .mov, [.t 10], none⟩,
  ⟨some 4, .mov, [.t 60], none⟩,
  ⟨some 5, .mov, [.c (.int .i64 0)], none⟩]
def Z105 : Z2y := ⟨61, (.seq (.region Zzj [1, 2, 34, 35, 36, 37, 38]) (.seq (.region Zzk [1, 2, 6, 34, 35, 36, 37, 38]) (.seq (.seq (.region Zzl [1, 2, 6, 15, 34, 35, 36, 37, 38]) (.cond (.t 15) (.seq (.region Zzm [4, 5]) .ret) .skip)) (.seq (.region Zzn [1, 2, 7, 34, 35, 36, 37, 38]) (.seq (.seq (.region Zzo [1, 2, 7, 8, 34, 35, 36, 37, 38]) (.block 0 (.loop Zzw))) (.seq (.region Zzx [1, 7, 10]) (.seq (.seq (.region Zzy [1, 7, 10, 11]) (.block 2 (.loop Z103))) (.seq (.region Z104 [4, 5]) .ret)))))))), [.t 4, .t 5]⟩
def Z106 : List Z2a := [
  ⟨some 7, (.box 5), [.t 3], none⟩,
  ⟨some 8, .mov, [.c (.bool false)], none⟩]
def Z107 : List Z2a := [
  ⟨some 13, .mov, [.t 1], none⟩,
  ⟨some 14, .mov, [.t 2], none⟩,
  ⟨some 15, (.iad 5), [.t 13, .t 14], none⟩,
  ⟨some 9, .mov, [.t 15], none⟩]
def Z108 : List Z2a := [
  ⟨some 16, .mov, [.t 9], none⟩,
  ⟨some 17, .nilc, [.t 16], none⟩,
  ⟨some 18, (.fad 0), [.t 17], none⟩,
  ⟨some 19, (.load false 1), [.t 18], none⟩,
  ⟨some 20, .lens, [.t 19], none⟩,
  ⟨some 21, (.bin .geq), [.t 20, .c (.int .i64 16384)], none⟩]
def Z109 : List Z2a := [
  ⟨some 8, .mov, [.c (.bool false)], none⟩]
def Z10a : List Z2a := [
  ⟨some 22, .mov, [.t 9], none⟩,
  ⟨some 23, .mov, [.t 9], none⟩,
  ⟨some 24, .nilc, [.t 23], none⟩,
  ⟨some 25, (.fad 0), [.t 24], none⟩,
  ⟨some 26, (.load false 1), [.t 25], none⟩,
  ⟨some 27, (.fad 0), [.t 7], none⟩,
  ⟨some 28, (.load false 1), [.t 27], none⟩,
  ⟨some 29, .unot, [.t 28], none⟩,
  ⟨some 30, (.bsl 1), [.t 29], none⟩,
  ⟨some 31, (.app 1 1), [.t 26, .t 30], none⟩,
  ⟨some 32, .nilc, [.t 22], none⟩,
  ⟨some 33, (.fad 0), [.t 32], none⟩,
  ⟨none, (.store 1), [.t 33, .t 31], none⟩]
def Z10b : List Z2a := [
  ⟨some 34, (.fad 0), [.t 7], none⟩,
  ⟨some 35, (.load false 1), [.t 34], none⟩]
def Z10c : List Z2a := [
  ⟨some 8, .mov, [.c (.bool true)], none⟩]
def Z10d : List Z2a := [
  ⟨some 36, .mov, [.t 0], none⟩,
  ⟨some 37, .mov, [.t 2], none⟩,
  ⟨some 38, (.iad 9), [.t 36, .t 37], none⟩,
  ⟨some 39, (.fad 0), [.t 38], none⟩,
  ⟨some 40, (.load true 6), [.t 39], none⟩,
  ⟨some 10, (.alloc (.agg [(.int .i64 0), (.slc 0 [] true), (.slc 0 [] true), (.int .i64 0), (.int .i64 0), (.int .i64 0)])), [], none⟩,
  ⟨none, (.store 6), [.t 10, .t 40], none⟩]
def Z10e : List Z2a := [
  ⟨some 42, (.fad 0), [.t 10], none⟩,
  ⟨some 43, (.load false 1), [.t 42], none⟩,
  ⟨some 44, (.call Ze9), [.t 43], none⟩,
  ⟨some 41, .mov, [.t 44], none⟩]
def Z10f : List Z2a := [
  ⟨some 45, .mov, [.t 9], none⟩,
  ⟨some 46, .mov, [.t 9], none⟩,
  ⟨some 47, .nilc, [.t 46], none⟩,
  ⟨some 48, (.fad 3), [.t 47], none⟩,
  ⟨some 49, (.load false 1), [.t 48], none⟩,
  ⟨some 50, (.fad 3), [.t 7], none⟩,
  ⟨some 51, (.load false 1), [.t 50], none⟩,
  ⟨some 52, (.bsl 1), [.t 51], none⟩,
  ⟨some 53, (.app 1 24), [.t 49, .t 52], none⟩,
  ⟨some 54, .nilc, [.t 45], none⟩,
  ⟨some 55, (.fad 3), [.t 54], none⟩,
  ⟨none, (.store 1), [.t 55, .t 53], none⟩]
def Z10g : List Z2a := [
  ⟨some 57, (.fad 0), [.t 10], none⟩,
  ⟨some 58, (.load false 1), [.t 57], none⟩,
  ⟨some 59, (.bin .eql), [.t 58, .c (.int .i64 10)], none⟩,
  ⟨some 56, .mov, [.t 59], none⟩]
def Z10h : List Z2a := [
  ⟨some 60, .mov, [.t 9], none⟩,
  ⟨some 61, .mov, [.t 9], none⟩,
  ⟨some 62, .nilc, [.t 61], none⟩,
  ⟨some 63, (.fad 4), [.t 62], none⟩,
  ⟨some 64, (.load false 1), [.t 63], none⟩,
  ⟨some 65, (.fad 4), [.t 7], none⟩,
  ⟨some 66, (.load false 1), [.t 65], none⟩,
  ⟨some 67, .lens, [.t 66], none⟩,
  ⟨some 68, (.bsl 1), [.t 67], none⟩,
  ⟨some 69, (.app 1 8), [.t 64, .t 68], none⟩,
  ⟨some 70, .nilc, [.t 60], none⟩,
  ⟨some 71, (.fad 4), [.t 70], none⟩,
  ⟨none, (.store 1), [.t 71, .t 69], none⟩]
def Z10i : List Z2a := [
  ⟨some 73, (.fad 0), [.t 10], none⟩,
  ⟨some 74, (.load false 1), [.t 73], none⟩,
  ⟨some 75, (.bin .eql), [.t 74, .c (.int .i64 11)], none⟩,
  ⟨some 72, .mov, [.t 75], none⟩]
def Z10j : List Z2a := [
  ⟨some 76, .mov, [.t 9], none⟩,
  ⟨some 77, .mov, [.t 9], none⟩,
  ⟨some 78, .nilc, [.t 77], none⟩,
  ⟨some 79, (.fad 4), [.t 78], none⟩,
  ⟨some 80, (.load false 1), [.t 79], none⟩,
  ⟨some 81, (.fad 4), [.t 7], none⟩,
  ⟨some 82, (.load false 1), [.t 81], none⟩,
  ⟨some 83, .lens, [.t 82], none⟩,
  ⟨some 84, (.bin .quo), [.t 83, .c (.int .i64 2)], none⟩,
  ⟨some 85, (.bsl 1), [.t 84], none⟩,
  ⟨some 86, (.app 1 8), [.t 80, .t 85], none⟩,
  ⟨some 87, .nilc, [.t 76], none⟩,
  ⟨some 88, (.fad 4), [.t 87], none⟩,
  ⟨none, (.store 1), [.t 88, .t 86], none⟩]
def Z10k : List Z2a := [
  ⟨some 90, (.fad 0), [.t 10], none⟩,
  ⟨some 91, (.load false 1), [.t 90], none⟩,
  ⟨some 92, (.bin .neq), [.t 91, .c (.int .i64 12)], none⟩,
  ⟨some 89, .mov, [.t 92], none⟩]
def Z10l : List Z2a := [
  ⟨some 93, .mov, [.t 9], none⟩,
  ⟨some 94, .mov, [.t 9], none⟩,
  ⟨some 95, .nilc, [.t 94], none⟩,
  ⟨some 96, (.fad 1), [.t 95], none⟩,
  ⟨some 97, (.load false 1), [.t 96], none⟩,
  ⟨some 98, (.fad 1), [.t 7], none⟩,
  ⟨some 99, (.load false 1), [.t 98], none⟩,
  ⟨some 100, (.bsl 1), [.t 99], none⟩,
  ⟨some 101, (.app 1 8), [.t 97, .t 100], none⟩,
  ⟨some 102, .nilc, [.t 93], none⟩,
  ⟨some 103, (.fad 1), [.t 102], none⟩,
  ⟨none, (.store 1), [.t 103, .t 101], none⟩]
def Z10m : List Z2a := [
  ⟨some 104, (.fad 0), [.t 10], none⟩,
  ⟨some 105, (.load false 1), [.t 104], none⟩,
  ⟨some 106, (.bin .eql), [.t 105, .c (.int .i64 9)], none⟩]
def Z10n : List Z2a := [
  ⟨some 107, .mov, [.t 9], none⟩,
  ⟨some 108, .mov, [.t 9], none⟩,
  ⟨some 109, .nilc, [.t 108], none⟩,
  ⟨some 110, (.fad 2), [.t 109], none⟩,
  ⟨some 111, (.load false 1), [.t 110], none⟩,
  ⟨some 112, (.fad 2), [.t 7], none⟩,
  ⟨some 113, (.load false 1), [.t 112], none⟩,
  ⟨some 114, (.bsl 1), [.t 113], none⟩,
  ⟨some 115, (.app 1 8), [.t 111, .t 114], none⟩,
  ⟨some 116, .nilc, [.t 107], none⟩,
  ⟨some 117, (.fad 2), [.t 116], none⟩,
  ⟨none, (.store 1), [.t 117, .t 115], none⟩]
def Z10o : List Z2a := [
  ⟨some 11, .mov, [.c (.int .i64 0)], none⟩]
def Z10p : List Z2a := [
  ⟨some 118, .mov, [.t 11], none⟩,
  ⟨some 119, (.fad 4), [.t 7], none⟩,
  ⟨some 120, (.load false 1), [.t 119], none⟩,
  ⟨some 121, .lens, [.t 120], none⟩,
  ⟨some 122, (.bin .lss), [.t 118, .t 121], none⟩]
def Z10q : List Z2a := [
  ⟨some 12, .mov, [.c (.int .i64 0)], none⟩]
def Z10r : List Z2a := [
  ⟨some 125, (.fad 0), [.t 10], none⟩,
  ⟨some 126, (.load false 1), [.t 125], none⟩]
def Z10s : List Z2a := [
  ⟨some 128, (.bin .eql), [.t 126, .c (.int .i64 12)], none⟩,
  ⟨some 127, .mov, [.t 128], none⟩]
def Z10t : List Z2a := [
  ⟨some 129, .mov, [.t 11], none⟩,
  ⟨some 12, .mov, [.t 129], none⟩]
def Z10u : List Z2a := [
  ⟨some 131, (.bin .eql), [.t 126, .c (.int .i64 11)], none⟩,
  ⟨some 130, .mov, [.t 131], none⟩]
def Z10v : List Z2a := [
  ⟨some 132, .mov, [.t 11], none⟩,
  ⟨some 133, (.bin .rem), [.t 132, .c (.int .i64 2)], none⟩,
  ⟨some 12, .mov, [.t 133], none⟩]
def Z10w : List Z2a := [
  ⟨some 135, (.bin .eql), [.t 126, .c (.int .i64 13)], none⟩,
  ⟨some 134, .mov, [.t 135], none⟩]
def Z10x : List Z2a := [
  ⟨some 136, (.fad 1), [.t 7], none⟩,
  ⟨some 137, (.load false 1), [.t 136], none⟩,
  ⟨some 12, .mov, [.t 137], none⟩]
def Z10y : List Z2a := [
  ⟨some 138, .mov, [.t 0], none⟩,
  ⟨some 139, .mov, [.t 1], none⟩,
  ⟨some 140, .mov, [.t 0], none⟩,
  ⟨some 141, .mov, [.t 2], none⟩,
  ⟨some 142, (.iad 9), [.t 140, .t 141], none⟩,
  ⟨some 143, (.fad 6), [.t 142], none⟩,
  ⟨some 144, (.load false 1), [.t 143], none⟩,
  ⟨some 145, .mov, [.t 12], none⟩,
  ⟨some 146, (.iad 1), [.t 144, .t 145], none⟩,
  ⟨some 147, (.load false 1), [.t 146], none⟩,
  ⟨some 148, (.fad 4), [.t 7], none⟩,
  ⟨some 149, (.load false 1), [.t 148], none⟩,
  ⟨some 150, .mov, [.t 11], none⟩,
  ⟨some 151, (.iad 5), [.t 149, .t 150], none⟩,
  ⟨some 152, (.load true 5), [.t 151], none⟩,
  ⟨some 153, (.call Zdz), [.t 138, .t 139, .t 147, .t 152], none⟩,
  ⟨some 154, .unot, [.t 153], none⟩]
def Z10z : List Z2a := [
  ⟨some 8, .mov, [.c (.bool false)], none⟩]
def Z110 : List Z2a := [
  ⟨some 123, .mov, [.t 11], none⟩,
  ⟨some 124, (.bin .add), [.t 123, .c (.int .i64 1)], none⟩,
  ⟨some 11, .mov, [.t 124], none⟩]
def Z111 : Z2b := (.seq (.seq (.region Z10p [0, 1, 2, 7, 10, 11, 122]) (.cond (.t 122) .skip (.exit 1))) (.seq (.block 2 (.seq (.region Z10q [0, 1, 2, 7, 10, 11, 12]) (.seq (.seq (.region Z10r [0, 1, 2, 7, 10, 11, 12, 126]) (.block 3 (.seq (.region Z10s [0, 1, 2, 7, 10, 11, 12, 126, 127]) (.cond (.t 127) (.region Z10t [0, 1, 2, 7, 10, 11, 12]) (.seq (.region Z10u [0, 1, 2, 7, 10, 11, 12, 126, 130]) (.cond (.t 130) (.region Z10v [0, 1, 2, 7, 10, 11, 12]) (.seq (.region Z10w [0, 1, 2, 7, 10, 11, 12, 134]) (.cond (.t 134) (.region Z10x [0, 1, 2, 7, 10, 11, 12]) .skip)))))))) (.seq (.region Z10y [0, 1, 2, 7, 10, 11, 154]) (.cond (.t 154) (.seq (.region Z10z [8]) .ret) .skip))))) (.region Z110 [0, 1, 2, 7, 10, 11])))
def Z112 : List Z2a := [
  ⟨some 8, .mov, [.c (.bool true)], none⟩]
def Z113 : Z2y := ⟨155, (.seq (.region Z106 [0, 1, 2, 7]) (.seq (.region Z107 [0, 1, 2, 7, 9]) (.seq (.seq (.region Z108 [0, 1, 2, 7, 9, 21]) (.cond (.t 21) (.seq (.region Z109 [8]) .ret) .skip)) (.seq (.region Z10a [0, 1, 2, 7, 9]) (.seq (.seq (.region Z10b [0, 1, 2, 7, 9, 35]) (.cond (.t 35) (.seq (.region Z10c [8]) .ret) .skip)) (.seq (.region Z10d [0, 1, 2, 7, 9, 10]) (.seq (.block 0 (.seq (.region Z10e [0, 1, 2, 7, 9, 10, 41]) (.cond (.t 41) (.region Z10f [0, 1, 2, 7, 9, 10]) (.seq (.region Z10g [0, 1, 2, 7, 9, 10, 56]) (.cond (.t 56) (.region Z10h [0, 1, 2, 7, 9, 10]) (.seq (.region Z10i [0, 1, 2, 7, 9, 10, 72]) (.cond (.t 72) (.region Z10j [0, 1, 2, 7, 9, 10]) (.seq (.region Z10k [0, 1, 2, 7, 9, 10, 89]) (.cond (.t 89) (.region Z10l [0, 1, 2, 7, 9, 10]) .skip))))))))) (.seq (.seq (.region Z10m [0, 1, 2, 7, 9, 10, 106]) (.cond (.t 106) (.region Z10n [0, 1, 2, 7, 10]) .skip)) (.seq (.seq (.region Z10o [0, 1, 2, 7, 10, 11]) (.block 1 (.loop Z111))) (.seq (.region Z112 [8]) .ret)))))))))), [.t 8]⟩
end Go.Abs
namespace Go.Abs
open Go Go.Proofs
theorem Z114 : Z2z Try.prog [] Zcp = some Z105.erase := by kernel_rfl
theorem Z115 : Z2z Try.prog [] Zdz = some Z113.erase := by kernel_rfl
end Go.Abs
namespace Go.Abs
open Go Go.Proofs
set_option linter.unusedVariables false
set_option linter.unusedSimpArgs false
def Z116 (l : List (List UInt8)) : List Z0 := l.map fun b => .slc 1 (bytes b) false
def ColG (w : Z0) (c : Col) (β : Zc) : Prop := ∃ v1 v2 v3 v4 v5 β1 β2 β3 β4 β5, w = .agg [v1, v2, v3, v4, v5] ∧ Zbr 1 v1 (c.here.map .bool) β1 ∧ Zbr 1 v2 (c.ints.map (.int .i64)) β2 ∧
  Zbr 1 v3 (c.ns.map (.int .i64)) β3 ∧ Zbr 1 v4 (Z116 c.texts) β4 ∧ Zbr 1 v5 (c.lens.map (.int .i64)) β5 ∧ β = β1 ++ (β2 ++ (β3 ++ (β4 ++ β5)))
def ColsG : List Z0 → List Col → Zc → Prop
  | [], [], β => β = []
  | w :: ws, c :: cs, β => ∃ β1 γ, ColG w c β1 ∧ ColsG ws cs γ ∧ β = β1 ++ γ
  | _, _, _ => False
theorem ColsG.len : ∀ {ws : List Z0} {cs : List Col} {β : Zc}, ColsG ws cs β → ws.length = cs.length
  | [], [], _, _ => rfl
  | _ :: _, _ :: _, _, ⟨_, _, _, h, _⟩ => by rw [List.length_cons, List.length_cons, h.len]
  | [], _ :: _, _, h => h.elim
  | _ :: _, [], _, h => h.elim
theorem Z117 {α : Type} (a b c : List α) : (a ++ (b ++ c)).Perm (b ++ (a ++ c)) := by
  rw [← List.append_assoc, ← List.append_assoc]
  exact List.Perm.append_right c List.perm_append_comm
theorem ColsG.pick : ∀ {ws : List Z0} {cs : List Col} {β : Zc} (i : Nat) (w : Z0) (c : Col), ColsG ws cs β → ws[i]? = some w → cs[i]? = some c →
    ∃ β1 γ, ColG w c β1 ∧ β.Perm (β1 ++ γ) ∧ ∀ w' c' β', ColG w' c' β' → ∃ δ, ColsG (ws.set i w') (cs.set i c') δ ∧ δ.Perm (β' ++ γ)
  | [], [], _, i, w, c, _, h1, _ => by simp at h1
  | [], _ :: _, _, _, _, _, h, _, _ => h.elim
  | _ :: _, [], _, _, _, _, h, _, _ => h.elim
  | x :: ws, y :: cs, β, 0, w, c, ⟨β1, γ, h1, h2, h3⟩, e1, e2 => by
    simp only [List.getElem?_cons_zero, Option.some.injEq] at e1 e2
    subst e1 e2 h3
    exact ⟨β1, γ, h1, List.Perm.refl _, fun w' c' β' h' => ⟨β' ++ γ, ⟨β', γ, h', h2, rfl⟩, List.Perm.refl _⟩⟩
  | x :: ws, y :: cs, β, i + 1, w, c, ⟨β1, γ, h1, h2, h3⟩, e1, e2 => by
    simp only [List.getElem?_cons_succ] at e1 e2
    obtain ⟨η, γ', g1, g2, g3⟩ := ColsG.pick i w c h2 e1 e2
    subst h3
    refine ⟨η, β1 ++ γ', g1, (List.Perm.append_left β1 g2).trans (Z117 _ _ _), fun w' c' β' h' => ?_⟩
    obtain ⟨δ, k1, k2⟩ := g3 w' c' β' h'
    exact ⟨β1 ++ δ, ⟨β1, δ, h1, k1, rfl⟩, (List.Perm.append_left β1 k2).trans (Z117 _ _ _)⟩
theorem ColG.nil : ColG (.agg [.slc 0 [] true, .slc 0 [] true, .slc 0 [] true, .slc 0 [] true, .slc 0 [] true]) ⟨[], [], [], [], []⟩ [] :=
  ⟨_, _, _, _, _, [], [], [], [], [], rfl, Zbr.nil 1 0, Zbr.nil 1 0, Zbr.nil 1 0, Zbr.nil 1 0, Zbr.nil 1 0, rfl⟩
theorem ColsG.nil : ∀ n, ColsG (List.replicate n (.agg [.slc 0 [] true, .slc 0 [] true, .slc 0 [] true, .slc 0 [] true, .slc 0 [] true])) (List.replicate n ⟨[], [], [], [], []⟩) []
  | 0 => rfl
  | n + 1 => ⟨[], [], ColG.nil, ColsG.nil n, rfl⟩
theorem Z118 {α : Type} (x : α) (a m r : List α) : (m ++ (x :: (a ++ r))).Perm (x :: (a ++ (m ++ r))) :=
  (Z117 m [x] (a ++ r)).trans (List.Perm.cons x (Z117 m a r))
theorem Z119 {α : Type} (x : α) (a m r : List α) : (x :: (a ++ (m ++ r))).Perm (m ++ (x :: (a ++ r))) := (Z118 x a m r).symm
theorem Z11a {β τ : Zc} {b : Nat} {x : Zb} (h : (Zh (β ++ (b, x) :: τ)).Nodup) : Zd (β ++ (b, x) :: τ) b = some x := by
  have hb : b ∉ Zh β := by
    intro hb
    rw [Zh, List.map_append, List.nodup_append] at h
    exact h.2.2 b hb b (by simp) rfl
  rw [Zah hb]
  exact Z8z
end Go.Abs
namespace Go.Abs
open Go Go.Proofs
set_option linter.unusedVariables false
set_option linter.unusedSimpArgs false
instance : Inhabited Col := ⟨⟨[], [], [], [], []⟩⟩
def col0 : Col := ⟨[], [], [], [], []⟩
def addC1 (k : Int) (v : Vl) (c : Col) : Col :=
  if Zma k = true then { c with texts := c.texts ++ [v.b] }
  else if k = 10 then { c with lens := c.lens ++ [(v.kids.length : Int)] }
  else if k = 11 then { c with lens := c.lens ++ [((v.kids.length / 2 : Nat) : Int)] }
  else if k ≠ 12 then { c with ints := c.ints ++ [v.i] }
  else c
def addC2 (k : Int) (v : Vl) (c : Col) : Col := if k = 9 then { c with ns := c.ns ++ [v.n] } else c
def hereC (b : Bool) (c : Col) : Col := { c with here := c.here ++ [b] }
def addC (k : Int) (v : Vl) (c : Col) : Col := addC2 k v (addC1 k v (hereC true c))
def kidC (l : List Nd) (at_ : Nat) (k i : Int) (j : Nat) : Nat :=
  match l[at_]? with
  | some nd => nd.kids.getD (Zme k i j) 0
  | none => 0
def kindC (l : List Nd) (at_ : Nat) : Int :=
  match l[at_]? with
  | some nd => nd.t.kind
  | none => 0
mutual
def putF (l : List Nd) (at_ : Nat) : Vl → List Col → List Col × Bool
  | .mk nu i n b ks, cols =>
    if 16384 ≤ (cols.getD at_ col0).here.length then (cols, false)
    else if nu = true then (cols.set at_ (hereC false (cols.getD at_ col0)), true)
    else putL l at_ i 0 ks (cols.set at_ (addC (kindC l at_) (.mk nu i n b ks) (cols.getD at_ col0)))
def putL (l : List Nd) (at_ : Nat) (i : Int) (j : Nat) : List Vl → List Col → List Col × Bool
  | [], cols => (cols, true)
  | v :: vs, cols =>
    let r := putF l (kidC l at_ (kindC l at_) i j) v cols
    if r.2 = true then putL l at_ i (j + 1) vs r.1 else (r.1, false)
end
inductive At (l : List Nd) : Nat → Ty → Prop
  | mk {at_ : Nat} {t : Ty} {nd : Nd} (h : l[at_]? = some nd) (ht : nd.t = t) (hk : nd.kids.length = t.kids.length)
      (hkids : ∀ (j x : Nat) (u : Ty), nd.kids[j]? = some x → t.kids[j]? = some u → At l x u) : At l at_ t
theorem Z11b : ∀ (ks : List Ty) (a : Nat), (Zlx a ks).length = ks.length
  | [], _ => rfl
  | t :: ks, a => by rw [Zlx, List.length_cons, List.length_cons, Z11b ks]
theorem Z11c : ∀ (ks : List Ty) (a j x : Nat), (Zlx a ks)[j]? = some x → x = a + cntL (ks.take j)
  | [], a, j, x, h => by simp [Zlx] at h
  | t :: ks, a, 0, x, h => by simp [Zlx] at h; simp [cntL, h]
  | t :: ks, a, j + 1, x, h => by
    simp only [Zlx, List.getElem?_cons_succ] at h
    rw [Z11c ks _ j x h, List.take_succ_cons, cntL]
    omega
theorem Z11d : ∀ (ks : List Ty) (a j : Nat) (p : Int) (d : Nat) (u : Ty), ks[j]? = some u → ∃ post, Zlz a p d ks = Zlz a p d (ks.take j) ++ (Zly (a + cntL (ks.take j)) p d u ++ post)
  | [], a, j, p, d, u, h => by simp at h
  | t :: ks, a, 0, p, d, u, h => by
    simp only [List.getElem?_cons_zero, Option.some.injEq] at h
    subst h
    exact ⟨Zlz (a + cnt t) p d ks, by simp only [List.take_zero, cntL, Zlz, List.nil_append, Nat.add_zero]⟩
  | t :: ks, a, j + 1, p, d, u, h => by
    simp only [List.getElem?_cons_succ] at h
    obtain ⟨post, hp⟩ := Z11d ks (a + cnt t) j p d u h
    refine ⟨post, ?_⟩
    rw [Zlz, hp, List.take_succ_cons, Zlz, cntL, List.append_assoc, Nat.add_assoc]
theorem Z11e : ∀ (t : Ty) (pre post : List Nd) (p : Int) (d : Nat), At (pre ++ (Zly pre.length p d t ++ post)) pre.length t := by
  refine Ty.ind fun k ns ks le pr sc ih pre post p d => ?_
  rw [Zly]
  refine At.mk (nd := ⟨.mk k ns ks le pr sc, Zlx (pre.length + 1) ks, p, d⟩) (by rw [List.getElem?_append_right (Nat.le_refl _), Nat.sub_self]; rfl) rfl (Z11b ks _) fun j x u hx hu => ?_
  have hx' := Z11c _ _ _ _ hx
  have hu' : ks[j]? = some u := hu
  obtain ⟨post', hp⟩ := Z11d ks (pre.length + 1) j (pre.length : Int) (d + 1) u hu'
  have hlen : (Zlz (pre.length + 1) (pre.length : Int) (d + 1) (ks.take j)).length = cntL (ks.take j) := Znf _ _ _ _
  have := ih u (List.mem_of_getElem? hu') (pre ++ (⟨.mk k ns ks le pr sc, Zlx (pre.length + 1) ks, p, d⟩ :: Zlz (pre.length + 1) (pre.length : Int) (d + 1) (ks.take j))) (post' ++ post) (pre.length : Int) (d + 1)
  have hl2 : (pre ++ ((⟨.mk k ns ks le pr sc, Zlx (pre.length + 1) ks, p, d⟩ : Nd) :: Zlz (pre.length + 1) (pre.length : Int) (d + 1) (ks.take j))).length = x := by
    rw [List.length_append, List.length_cons, hlen, hx']; omega
  rw [hl2] at this
  rw [hp, ← hx']
  simpa [List.append_assoc] using this
theorem At.lt {l : List Nd} {at_ : Nat} {t : Ty} (h : At l at_ t) : at_ < l.length := by
  cases h with
  | mk h _ _ _ => exact (List.getElem?_eq_some_iff.1 h).1
theorem Z11f (t : Ty) (h : Zlw t = 0) : At (Zm3 t) 0 t := by
  have := Z11e t [] [] (-1) 1
  rw [Zm3, if_pos h]
  simpa using this
end Go.Abs
namespace Go.Abs
open Go Go.Proofs
set_option linter.unusedVariables false
set_option linter.unusedSimpArgs false
set_option maxHeartbeats 4000000
attribute [local irreducible] AWp aops KP
structure Col.Sm (c : Col) : Prop where
  here : c.here.length ≤ 16384
  ints : c.ints.length ≤ c.here.length
  ns : c.ns.length ≤ c.here.length
  texts : c.texts.length ≤ c.here.length
  lens : c.lens.length ≤ c.here.length
theorem Z11g {b : Nat} {x : Zb} {m r : Zc} : HSub (m ++ ((b, x) :: r)) ((b, x) :: (m ++ r)) := HSub.of_perm (Z118 (b, x) [] m r)
theorem Z11h {b : Nat} {x : Zb} {a m r : Zc} : HSub (m ++ ((b, x) :: (a ++ r))) ((b, x) :: (a ++ (m ++ r))) := HSub.of_perm (Z118 (b, x) a m r)
theorem backA {b : Nat} {x : Zb} {a m r : Zc} : HSub ((b, x) :: (a ++ (m ++ r))) (m ++ ((b, x) :: (a ++ r))) := HSub.of_perm (Z118 (b, x) a m r).symm
theorem Z11i {c : Z2b} {R R' : Z87} (hR : ∀ F σ, R .normal F σ = AWp Try.prog Z113.n c R' F σ) (b at_ : Nat) (ws : List Z0) (w : Z0) (hw : ws[at_]? = some w) (C : Col) (β : Zc) (hG : ColG w C β) (hl : C.here.length ≤ 16384)
    (v : Vl) (L A I : Z0) (ρ : Zc)
    (h : ∀ w' β', ColG w' (hereC (!v.null) C) β' → AWp Try.prog Z113.n c R' (fset 0 (some L) (fset 1 (some A) (fset 2 (some I) (fset 7 (some (.iptr (Zm5 v))) (fset 9 (some (.ptr b at_ 0)) Z27))))) ((b, .cells 5 (ws.set at_ w')) :: (β' ++ ρ))) :
    AWp Try.prog Z113.n (.region Z10a [0, 1, 2, 7, 9]) R (fset 0 (some L) (fset 1 (some A) (fset 2 (some I) (fset 7 (some (.iptr (Zm5 v))) (fset 9 (some (.ptr b at_ 0)) Z27))))) ((b, .cells 5 ws) :: (β ++ ρ)) := by
  obtain ⟨v1, v2, v3, v4, v5, β1, β2, β3, β4, β5, rfl, g1, g2, g3, g4, g5, rfl⟩ := hG
  rw [List.append_assoc]
  refine Z8a (FSub.refl _) Z11g ?_
  refine Z89 fun nd => ?_
  refine Zbm hR ?_
  (repeat (refine st_q rfl rfl rfl ?_))
  refine Z92 rfl (Z11a nd) hw rfl ?_
  (repeat (refine st_q rfl rfl rfl ?_))
  refine Zbs g1 rfl (ys := [.bool (!v.null)]) rfl (by rw [List.length_map, List.length_singleton]; omega) fun b' hb' => ?_
  have hne : b' ≠ b := fun e => hb' (by rw [e]; simp [Zh])
  (repeat (refine st_q rfl rfl rfl ?_))
  refine Z9a rfl (Z90 hne Z8z) hw (by decide) (Z0.fit_iff.1 rfl) (fun h => by cases h) (Z9c hne Z9b) ?_
  (refine Z8y ?_; (repeat (first | refine Z9v rfl ?_ | refine Z9w ?_)); refine Z9u ?_)
  refine Z8a (FSub.refl _) (HSub.swap _ _ _) ?_
  have e : C.here.map Z0.bool ++ [.bool (!v.null)] = (hereC (!v.null) C).here.map Z0.bool := by simp [hereC]
  rw [e]
  have := h (.agg [.arr 1 b' 0 ((hereC (!v.null) C).here.map Z0.bool).length, v2, v3, v4, v5]) ((b', .cells 1 ((hereC (!v.null) C).here.map Z0.bool)) :: (β2 ++ (β3 ++ (β4 ++ β5))))
    ⟨_, _, _, _, _, [(b', _)], β2, β3, β4, β5, rfl, Zbr.mk, g2, g3, g4, g5, rfl⟩
  exact this
-- APPENDS (printed by putgen.py)
theorem quo2 (n : Nat) (h : n ≤ 9223372036854775807) : IntKind.wrap .i64 ((n : Int).tdiv 2) = ((n / 2 : Nat) : Int) := by
  have e : (n : Int).tdiv 2 = ((n / 2 : Nat) : Int) := by rw [Int.tdiv_eq_ediv_of_nonneg (by omega)]; omega
  rw [e, w64 _ (by omega) (by omega)]
theorem Z11j {c : Z2b} {R R' : Z87} (hR : ∀ F σ, R .normal F σ = AWp Try.prog Z113.n c R' F σ) (b at_ : Nat) (ws : List Z0) (w : Z0) (hw : ws[at_]? = some w) (C : Col) (β : Zc) (hG : ColG w C β) (hl : C.texts.length ≤ 16384)
    (v : Vl) (L A I T : Z0) (ρ : Zc)
    (h : ∀ w' β', ColG w' ({ C with texts := C.texts ++ [v.b] }) β' → AWp Try.prog Z113.n c R' (fset 0 (some L) (fset 1 (some A) (fset 2 (some I) (fset 7 (some (.iptr (Zm5 v))) (fset 9 (some (.ptr b at_ 0)) (fset 10 (some T) Z27)))))) ((b, .cells 5 (ws.set at_ w')) :: (β' ++ ρ))) :
    AWp Try.prog Z113.n (.region Z10f [0, 1, 2, 7, 9, 10]) R (fset 0 (some L) (fset 1 (some A) (fset 2 (some I) (fset 7 (some (.iptr (Zm5 v))) (fset 9 (some (.ptr b at_ 0)) (fset 10 (some T) Z27)))))) ((b, .cells 5 ws) :: (β ++ ρ)) := by
  obtain ⟨v1, v2, v3, v4, v5, β1, β2, β3, β4, β5, rfl, g1, g2, g3, g4, g5, rfl⟩ := hG
  refine Z8a (FSub.refl _) (show HSub (β4 ++ ((b, .cells 5 ws) :: ((β1 ++ β2 ++ β3) ++ (β5 ++ (ρ))))) ((b, .cells 5 ws) :: ((β1 ++ (β2 ++ (β3 ++ (β4 ++ β5)))) ++ ρ)) from by
    have := @Z11h b (.cells 5 ws) (β1 ++ β2 ++ β3) β4 (β5 ++ (ρ))
    simpa [List.append_assoc] using this) ?_
  refine Z89 fun nd => ?_
  refine Zbm hR ?_
  (repeat (refine st_q rfl rfl rfl ?_))
  refine Z92 rfl (Z11a nd) hw rfl ?_
  (repeat (refine st_q rfl rfl rfl ?_))
  refine Zbs g4 rfl (ys := [.slc 1 (bytes v.b) false]) rfl (by rw [List.length_singleton]; simp only [Z116, List.length_map]; omega) fun b' hb' => ?_
  have hne : b' ≠ b := fun e => hb' (by rw [e]; simp [Zh])
  (repeat (refine st_q rfl rfl rfl ?_))
  refine Z9a rfl (Z90 hne Z8z) hw (by decide) (Z0.fit_iff.1 rfl) (fun h => by cases h) (Z9c hne Z9b) ?_
  (refine Z8y ?_; (repeat (first | refine Z9v rfl ?_ | refine Z9w ?_)); refine Z9u ?_)
  have e : Z116 (C.texts) ++ [.slc 1 (bytes v.b) false] = Z116 ({ C with texts := C.texts ++ [v.b] }.texts) := by simp [Z116]
  rw [e]
  refine Z8a (FSub.refl _) (show HSub ((b, .cells 5 (ws.set at_ (.agg [v1, v2, v3, (.arr 1 b' 0 (Z116 ({ C with texts := C.texts ++ [v.b] }.texts)).length), v5]))) :: ((β1 ++ (β2 ++ (β3 ++ ([(b', .cells 1 (Z116 ({ C with texts := C.texts ++ [v.b] }.texts)))] ++ β5)))) ++ ρ)) ((b', .cells 1 (Z116 ({ C with texts := C.texts ++ [v.b] }.texts))) :: (b, .cells 5 (ws.set at_ (.agg [v1, v2, v3, (.arr 1 b' 0 (Z116 ({ C with texts := C.texts ++ [v.b] }.texts)).length), v5]))) :: ((β1 ++ β2 ++ β3) ++ (β5 ++ (ρ)))) from by
    have := @backA b (.cells 5 (ws.set at_ (.agg [v1, v2, v3, (.arr 1 b' 0 (Z116 ({ C with texts := C.texts ++ [v.b] }.texts)).length), v5]))) (β1 ++ β2 ++ β3) [(b', .cells 1 (Z116 ({ C with texts := C.texts ++ [v.b] }.texts)))] (β5 ++ (ρ))
    simpa [List.append_assoc] using this) ?_
  exact h _ _ ⟨_, _, _, _, _, β1, β2, β3, [(b', .cells 1 (Z116 ({ C with texts := C.texts ++ [v.b] }.texts)))], β5, rfl, g1, g2, g3, Zbr.mk, g5, rfl⟩
theorem Z11k {c : Z2b} {R R' : Z87} (hR : ∀ F σ, R .normal F σ = AWp Try.prog Z113.n c R' F σ) (b at_ : Nat) (ws : List Z0) (w : Z0) (hw : ws[at_]? = some w) (C : Col) (β : Zc) (hG : ColG w C β) (hl : C.lens.length ≤ 16384)
    (v : Vl) (L A I T : Z0) (ρ : Zc)
    (h : ∀ w' β', ColG w' ({ C with lens := C.lens ++ [(v.kids.length : Int)] }) β' → AWp Try.prog Z113.n c R' (fset 0 (some L) (fset 1 (some A) (fset 2 (some I) (fset 7 (some (.iptr (Zm5 v))) (fset 9 (some (.ptr b at_ 0)) (fset 10 (some T) Z27)))))) ((b, .cells 5 (ws.set at_ w')) :: (β' ++ ρ))) :
    AWp Try.prog Z113.n (.region Z10h [0, 1, 2, 7, 9, 10]) R (fset 0 (some L) (fset 1 (some A) (fset 2 (some I) (fset 7 (some (.iptr (Zm5 v))) (fset 9 (some (.ptr b at_ 0)) (fset 10 (some T) Z27)))))) ((b, .cells 5 ws) :: (β ++ ρ)) := by
  obtain ⟨v1, v2, v3, v4, v5, β1, β2, β3, β4, β5, rfl, g1, g2, g3, g4, g5, rfl⟩ := hG
  refine Z8a (FSub.refl _) (show HSub (β5 ++ ((b, .cells 5 ws) :: ((β1 ++ β2 ++ β3 ++ β4) ++ (ρ)))) ((b, .cells 5 ws) :: ((β1 ++ (β2 ++ (β3 ++ (β4 ++ β5)))) ++ ρ)) from by
    have := @Z11h b (.cells 5 ws) (β1 ++ β2 ++ β3 ++ β4) β5 (ρ)
    simpa [List.append_assoc] using this) ?_
  refine Z89 fun nd => ?_
  refine Zbm hR ?_
  (repeat (refine st_q rfl rfl rfl ?_))
  refine Z92 rfl (Z11a nd) hw rfl ?_
  (repeat (refine st_q rfl rfl rfl ?_))
  refine Zbs g5 rfl (ys := [.int .i64 ((Zm4 v.kids).length : Int)]) rfl (by rw [List.length_singleton]; simp only [Z116, List.length_map]; omega) fun b' hb' => ?_
  have hne : b' ≠ b := fun e => hb' (by rw [e]; simp [Zh])
  (repeat (refine st_q rfl rfl rfl ?_))
  refine Z9a rfl (Z90 hne Z8z) hw (by decide) (Z0.fit_iff.1 rfl) (fun h => by cases h) (Z9c hne Z9b) ?_
  (refine Z8y ?_; (repeat (first | refine Z9v rfl ?_ | refine Z9w ?_)); refine Z9u ?_)
  have e : List.map (Z0.int .i64) (C.lens) ++ [.int .i64 ((Zm4 v.kids).length : Int)] = List.map (Z0.int .i64) ({ C with lens := C.lens ++ [(v.kids.length : Int)] }.lens) := by simp [Zm8]
  rw [e]
  refine Z8a (FSub.refl _) (show HSub ((b, .cells 5 (ws.set at_ (.agg [v1, v2, v3, v4, (.arr 1 b' 0 (List.map (Z0.int .i64) ({ C with lens := C.lens ++ [(v.kids.length : Int)] }.lens)).length)]))) :: ((β1 ++ (β2 ++ (β3 ++ (β4 ++ [(b', .cells 1 (List.map (Z0.int .i64) ({ C with lens := C.lens ++ [(v.kids.length : Int)] }.lens)))])))) ++ ρ)) ((b', .cells 1 (List.map (Z0.int .i64) ({ C with lens := C.lens ++ [(v.kids.length : Int)] }.lens))) :: (b, .cells 5 (ws.set at_ (.agg [v1, v2, v3, v4, (.arr 1 b' 0 (List.map (Z0.int .i64) ({ C with lens := C.lens ++ [(v.kids.length : Int)] }.lens)).length)]))) :: ((β1 ++ β2 ++ β3 ++ β4) ++ (ρ))) from by
    have := @backA b (.cells 5 (ws.set at_ (.agg [v1, v2, v3, v4, (.arr 1 b' 0 (List.map (Z0.int .i64) ({ C with lens := C.lens ++ [(v.kids.length : Int)] }.lens)).length)]))) (β1 ++ β2 ++ β3 ++ β4) [(b', .cells 1 (List.map (Z0.int .i64) ({ C with lens := C.lens ++ [(v.kids.length : Int)] }.lens)))] (ρ)
    simpa [List.append_assoc] using this) ?_
  exact h _ _ ⟨_, _, _, _, _, β1, β2, β3, β4, [(b', .cells 1 (List.map (Z0.int .i64) ({ C with lens := C.lens ++ [(v.kids.length : Int)] }.lens)))], rfl, g1, g2, g3, g4, Zbr.mk, rfl⟩
theorem Z11l {c : Z2b} {R R' : Z87} (hR : ∀ F σ, R .normal F σ = AWp Try.prog Z113.n c R' F σ) (b at_ : Nat) (ws : List Z0) (w : Z0) (hw : ws[at_]? = some w) (C : Col) (β : Zc) (hG : ColG w C β) (hl : C.lens.length ≤ 16384)
    (v : Vl) (hk : v.kids.length ≤ 9223372036854775807) (L A I T : Z0) (ρ : Zc)
    (h : ∀ w' β', ColG w' ({ C with lens := C.lens ++ [((v.kids.length / 2 : Nat) : Int)] }) β' → AWp Try.prog Z113.n c R' (fset 0 (some L) (fset 1 (some A) (fset 2 (some I) (fset 7 (some (.iptr (Zm5 v))) (fset 9 (some (.ptr b at_ 0)) (fset 10 (some T) Z27)))))) ((b, .cells 5 (ws.set at_ w')) :: (β' ++ ρ))) :
    AWp Try.prog Z113.n (.region Z10j [0, 1, 2, 7, 9, 10]) R (fset 0 (some L) (fset 1 (some A) (fset 2 (some I) (fset 7 (some (.iptr (Zm5 v))) (fset 9 (some (.ptr b at_ 0)) (fset 10 (some T) Z27)))))) ((b, .cells 5 ws) :: (β ++ ρ)) := by
  obtain ⟨v1, v2, v3, v4, v5, β1, β2, β3, β4, β5, rfl, g1, g2, g3, g4, g5, rfl⟩ := hG
  refine Z8a (FSub.refl _) (show HSub (β5 ++ ((b, .cells 5 ws) :: ((β1 ++ β2 ++ β3 ++ β4) ++ (ρ)))) ((b, .cells 5 ws) :: ((β1 ++ (β2 ++ (β3 ++ (β4 ++ β5)))) ++ ρ)) from by
    have := @Z11h b (.cells 5 ws) (β1 ++ β2 ++ β3 ++ β4) β5 (ρ)
    simpa [List.append_assoc] using this) ?_
  refine Z89 fun nd => ?_
  refine Zbm hR ?_
  (repeat (refine st_q rfl rfl rfl ?_))
  refine Z92 rfl (Z11a nd) hw rfl ?_
  (repeat (refine st_q rfl rfl rfl ?_))
  refine Zbs g5 rfl (ys := [.int .i64 (IntKind.wrap .i64 (((Zm4 v.kids).length : Int).tdiv 2))]) rfl (by rw [List.length_singleton]; simp only [Z116, List.length_map]; omega) fun b' hb' => ?_
  have hne : b' ≠ b := fun e => hb' (by rw [e]; simp [Zh])
  (repeat (refine st_q rfl rfl rfl ?_))
  refine Z9a rfl (Z90 hne Z8z) hw (by decide) (Z0.fit_iff.1 rfl) (fun h => by cases h) (Z9c hne Z9b) ?_
  (refine Z8y ?_; (repeat (first | refine Z9v rfl ?_ | refine Z9w ?_)); refine Z9u ?_)
  have e : List.map (Z0.int .i64) (C.lens) ++ [.int .i64 (IntKind.wrap .i64 (((Zm4 v.kids).length : Int).tdiv 2))] = List.map (Z0.int .i64) ({ C with lens := C.lens ++ [((v.kids.length / 2 : Nat) : Int)] }.lens) := by rw [Zm8, quo2 _ hk]; simp
  rw [e]
  refine Z8a (FSub.refl _) (show HSub ((b, .cells 5 (ws.set at_ (.agg [v1, v2, v3, v4, (.arr 1 b' 0 (List.map (Z0.int .i64) ({ C with lens := C.lens ++ [((v.kids.length / 2 : Nat) : Int)] }.lens)).length)]))) :: ((β1 ++ (β2 ++ (β3 ++ (β4 ++ [(b', .cells 1 (List.map (Z0.int .i64) ({ C with lens := C.lens ++ [((v.kids.length / 2 : Nat) : Int)] }.lens)))])))) ++ ρ)) ((b', .cells 1 (List.map (Z0.int .i64) ({ C with lens := C.lens ++ [((v.kids.length / 2 : Nat) : Int)] }.lens))) :: (b, .cells 5 (ws.set at_ (.agg [v1, v2, v3, v4, (.arr 1 b' 0 (List.map (Z0.int .i64) ({ C with lens := C.lens ++ [((v.kids.length / 2 : Nat) : Int)] }.lens)).length)]))) :: ((β1 ++ β2 ++ β3 ++ β4) ++ (ρ))) from by
    have := @backA b (.cells 5 (ws.set at_ (.agg [v1, v2, v3, v4, (.arr 1 b' 0 (List.map (Z0.int .i64) ({ C with lens := C.lens ++ [((v.kids.length / 2 : Nat) : Int)] }.lens)).length)]))) (β1 ++ β2 ++ β3 ++ β4) [(b', .cells 1 (List.map (Z0.int .i64) ({ C with lens := C.lens ++ [((v.kids.length / 2 : Nat) : Int)] }.lens)))] (ρ)
    simpa [List.append_assoc] using this) ?_
  exact h _ _ ⟨_, _, _, _, _, β1, β2, β3, β4, [(b', .cells 1 (List.map (Z0.int .i64) ({ C with lens := C.lens ++ [((v.kids.length / 2 : Nat) : Int)] }.lens)))], rfl, g1, g2, g3, g4, Zbr.mk, rfl⟩
theorem Z11m {c : Z2b} {R R' : Z87} (hR : ∀ F σ, R .normal F σ = AWp Try.prog Z113.n c R' F σ) (b at_ : Nat) (ws : List Z0) (w : Z0) (hw : ws[at_]? = some w) (C : Col) (β : Zc) (hG : ColG w C β) (hl : C.ints.length ≤ 16384)
    (v : Vl) (L A I T : Z0) (ρ : Zc)
    (h : ∀ w' β', ColG w' ({ C with ints := C.ints ++ [v.i] }) β' → AWp Try.prog Z113.n c R' (fset 0 (some L) (fset 1 (some A) (fset 2 (some I) (fset 7 (some (.iptr (Zm5 v))) (fset 9 (some (.ptr b at_ 0)) (fset 10 (some T) Z27)))))) ((b, .cells 5 (ws.set at_ w')) :: (β' ++ ρ))) :
    AWp Try.prog Z113.n (.region Z10l [0, 1, 2, 7, 9, 10]) R (fset 0 (some L) (fset 1 (some A) (fset 2 (some I) (fset 7 (some (.iptr (Zm5 v))) (fset 9 (some (.ptr b at_ 0)) (fset 10 (some T) Z27)))))) ((b, .cells 5 ws) :: (β ++ ρ)) := by
  obtain ⟨v1, v2, v3, v4, v5, β1, β2, β3, β4, β5, rfl, g1, g2, g3, g4, g5, rfl⟩ := hG
  refine Z8a (FSub.refl _) (show HSub (β2 ++ ((b, .cells 5 ws) :: ((β1) ++ (β3 ++ (β4 ++ (β5 ++ (ρ))))))) ((b, .cells 5 ws) :: ((β1 ++ (β2 ++ (β3 ++ (β4 ++ β5)))) ++ ρ)) from by
    have := @Z11h b (.cells 5 ws) (β1) β2 (β3 ++ (β4 ++ (β5 ++ (ρ))))
    simpa [List.append_assoc] using this) ?_
  refine Z89 fun nd => ?_
  refine Zbm hR ?_
  (repeat (refine st_q rfl rfl rfl ?_))
  refine Z92 rfl (Z11a nd) hw rfl ?_
  (repeat (refine st_q rfl rfl rfl ?_))
  refine Zbs g2 rfl (ys := [.int .i64 v.i]) rfl (by rw [List.length_singleton]; simp only [Z116, List.length_map]; omega) fun b' hb' => ?_
  have hne : b' ≠ b := fun e => hb' (by rw [e]; simp [Zh])
  (repeat (refine st_q rfl rfl rfl ?_))
  refine Z9a rfl (Z90 hne Z8z) hw (by decide) (Z0.fit_iff.1 rfl) (fun h => by cases h) (Z9c hne Z9b) ?_
  (refine Z8y ?_; (repeat (first | refine Z9v rfl ?_ | refine Z9w ?_)); refine Z9u ?_)
  have e : List.map (Z0.int .i64) (C.ints) ++ [.int .i64 v.i] = List.map (Z0.int .i64) ({ C with ints := C.ints ++ [v.i] }.ints) := by simp
  rw [e]
  refine Z8a (FSub.refl _) (show HSub ((b, .cells 5 (ws.set at_ (.agg [v1, (.arr 1 b' 0 (List.map (Z0.int .i64) ({ C with ints := C.ints ++ [v.i] }.ints)).length), v3, v4, v5]))) :: ((β1 ++ ([(b', .cells 1 (List.map (Z0.int .i64) ({ C with ints := C.ints ++ [v.i] }.ints)))] ++ (β3 ++ (β4 ++ β5)))) ++ ρ)) ((b', .cells 1 (List.map (Z0.int .i64) ({ C with ints := C.ints ++ [v.i] }.ints))) :: (b, .cells 5 (ws.set at_ (.agg [v1, (.arr 1 b' 0 (List.map (Z0.int .i64) ({ C with ints := C.ints ++ [v.i] }.ints)).length), v3, v4, v5]))) :: ((β1) ++ (β3 ++ (β4 ++ (β5 ++ (ρ)))))) from by
    have := @backA b (.cells 5 (ws.set at_ (.agg [v1, (.arr 1 b' 0 (List.map (Z0.int .i64) ({ C with ints := C.ints ++ [v.i] }.ints)).length), v3, v4, v5]))) (β1) [(b', .cells 1 (List.map (Z0.int .i64) ({ C with ints := C.ints ++ [v.i] }.ints)))] (β3 ++ (β4 ++ (β5 ++ (ρ))))
    simpa [List.append_assoc] using this) ?_
  exact h _ _ ⟨_, _, _, _, _, β1, [(b', .cells 1 (List.map (Z0.int .i64) ({ C with ints := C.ints ++ [v.i] }.ints)))], β3, β4, β5, rfl, g1, Zbr.mk, g3, g4, g5, rfl⟩
theorem Z11n {c : Z2b} {R R' : Z87} (hR : ∀ F σ, R .normal F σ = AWp Try.prog Z113.n c R' F σ) (b at_ : Nat) (ws : List Z0) (w : Z0) (hw : ws[at_]? = some w) (C : Col) (β : Zc) (hG : ColG w C β) (hl : C.ns.length ≤ 16384)
    (v : Vl) (L A I T : Z0) (ρ : Zc)
    (h : ∀ w' β', ColG w' ({ C with ns := C.ns ++ [v.n] }) β' → AWp Try.prog Z113.n c R' (fset 0 (some L) (fset 1 (some A) (fset 2 (some I) (fset 7 (some (.iptr (Zm5 v))) (fset 10 (some T) Z27))))) ((b, .cells 5 (ws.set at_ w')) :: (β' ++ ρ))) :
    AWp Try.prog Z113.n (.region Z10n [0, 1, 2, 7, 10]) R (fset 0 (some L) (fset 1 (some A) (fset 2 (some I) (fset 7 (some (.iptr (Zm5 v))) (fset 9 (some (.ptr b at_ 0)) (fset 10 (some T) Z27)))))) ((b, .cells 5 ws) :: (β ++ ρ)) := by
  obtain ⟨v1, v2, v3, v4, v5, β1, β2, β3, β4, β5, rfl, g1, g2, g3, g4, g5, rfl⟩ := hG
  refine Z8a (FSub.refl _) (show HSub (β3 ++ ((b, .cells 5 ws) :: ((β1 ++ β2) ++ (β4 ++ (β5 ++ (ρ)))))) ((b, .cells 5 ws) :: ((β1 ++ (β2 ++ (β3 ++ (β4 ++ β5)))) ++ ρ)) from by
    have := @Z11h b (.cells 5 ws) (β1 ++ β2) β3 (β4 ++ (β5 ++ (ρ)))
    simpa [List.append_assoc] using this) ?_
  refine Z89 fun nd => ?_
  refine Zbm hR ?_
  (repeat (refine st_q rfl rfl rfl ?_))
  refine Z92 rfl (Z11a nd) hw rfl ?_
  (repeat (refine st_q rfl rfl rfl ?_))
  refine Zbs g3 rfl (ys := [.int .i64 v.n]) rfl (by rw [List.length_singleton]; simp only [Z116, List.length_map]; omega) fun b' hb' => ?_
  have hne : b' ≠ b := fun e => hb' (by rw [e]; simp [Zh])
  (repeat (refine st_q rfl rfl rfl ?_))
  refine Z9a rfl (Z90 hne Z8z) hw (by decide) (Z0.fit_iff.1 rfl) (fun h => by cases h) (Z9c hne Z9b) ?_
  (refine Z8y ?_; (repeat (first | refine Z9v rfl ?_ | refine Z9w ?_)); refine Z9u ?_)
  have e : List.map (Z0.int .i64) (C.ns) ++ [.int .i64 v.n] = List.map (Z0.int .i64) ({ C with ns := C.ns ++ [v.n] }.ns) := by simp
  rw [e]
  refine Z8a (FSub.refl _) (show HSub ((b, .cells 5 (ws.set at_ (.agg [v1, v2, (.arr 1 b' 0 (List.map (Z0.int .i64) ({ C with ns := C.ns ++ [v.n] }.ns)).length), v4, v5]))) :: ((β1 ++ (β2 ++ ([(b', .cells 1 (List.map (Z0.int .i64) ({ C with ns := C.ns ++ [v.n] }.ns)))] ++ (β4 ++ β5)))) ++ ρ)) ((b', .cells 1 (List.map (Z0.int .i64) ({ C with ns := C.ns ++ [v.n] }.ns))) :: (b, .cells 5 (ws.set at_ (.agg [v1, v2, (.arr 1 b' 0 (List.map (Z0.int .i64) ({ C with ns := C.ns ++ [v.n] }.ns)).length), v4, v5]))) :: ((β1 ++ β2) ++ (β4 ++ (β5 ++ (ρ))))) from by
    have := @backA b (.cells 5 (ws.set at_ (.agg [v1, v2, (.arr 1 b' 0 (List.map (Z0.int .i64) ({ C with ns := C.ns ++ [v.n] }.ns)).length), v4, v5]))) (β1 ++ β2) [(b', .cells 1 (List.map (Z0.int .i64) ({ C with ns := C.ns ++ [v.n] }.ns)))] (β4 ++ (β5 ++ (ρ)))
    simpa [List.append_assoc] using this) ?_
  exact h _ _ ⟨_, _, _, _, _, β1, β2, [(b', .cells 1 (List.map (Z0.int .i64) ({ C with ns := C.ns ++ [v.n] }.ns)))], β4, β5, rfl, g1, g2, Zbr.mk, g4, g5, rfl⟩
end Go.Abs
namespace Go.Abs
open Go Go.Proofs
set_option linter.unusedVariables false
set_option linter.unusedSimpArgs false
set_option maxHeartbeats 4000000
attribute [local irreducible] AWp aops KP
theorem Z11o {c : Col} (b : Bool) (h : c.Sm) (hl : c.here.length < 16384) : (hereC b c).Sm := by
  obtain ⟨h1, h2, h3, h4, h5⟩ := h
  constructor <;> simp only [hereC, List.length_append, List.length_singleton] <;> omega
theorem Z11p {c : Col} (k : Int) (v : Vl) (h : c.Sm) (hl : c.here.length < 16384) : (addC k v c).Sm := by
  obtain ⟨h1, h2, h3, h4, h5⟩ := h
  unfold addC addC2 addC1 hereC
  (repeat' split) <;> constructor <;> simp only [List.length_append, List.length_singleton] <;> omega
theorem Z11q {cs : List Col} {i : Nat} {c : Col} (h : ∀ c ∈ cs, c.Sm) (hc : c.Sm) : ∀ x ∈ cs.set i c, x.Sm := fun x hx => by
  rcases List.mem_or_eq_of_mem_set hx with h' | h'
  · exact h x h'
  · rw [h']; exact hc
theorem Z11r (l : List Nd) : ∀ (v : Vl) (at_ : Nat) (cs : List Col), (putF l at_ v cs).1.length = cs.length := by
  refine Vl.ind fun nu i n bs vks ih at_ cs => ?_
  have hL : ∀ (vks : List Vl), (∀ v ∈ vks, ∀ (at_ : Nat) (cs : List Col), (putF l at_ v cs).1.length = cs.length) → ∀ (j : Nat) (cs : List Col), (putL l at_ i j vks cs).1.length = cs.length := by
    intro vks
    induction vks with
    | nil => intro _ j cs; rfl
    | cons v vs ih2 =>
      intro hv j cs
      rw [putL]
      split
      · rw [ih2 (fun v h => hv v (List.mem_cons_of_mem _ h)), hv v (by simp)]
      · exact hv v (by simp) _ _
  rw [putF]
  split
  · rfl
  · split
    · rw [List.length_set]
    · rw [hL vks (fun v h at_ cs => ih v h at_ cs), List.length_set]
theorem Z11s (l : List Nd) : ∀ (v : Vl) (at_ : Nat) (cs : List Col), (∀ c ∈ cs, c.Sm) → ∀ c ∈ (putF l at_ v cs).1, c.Sm := by
  refine Vl.ind fun nu i n bs vks ih at_ cs h => ?_
  have hL : ∀ (vks : List Vl), (∀ v ∈ vks, ∀ (at_ : Nat) (cs : List Col), (∀ c ∈ cs, c.Sm) → ∀ c ∈ (putF l at_ v cs).1, c.Sm) → ∀ (j : Nat) (cs : List Col), (∀ c ∈ cs, c.Sm) → ∀ c ∈ (putL l at_ i j vks cs).1, c.Sm := by
    intro vks
    induction vks with
    | nil => intro _ j cs h; exact h
    | cons v vs ih2 =>
      intro hv j cs h
      rw [putL]
      split
      · exact ih2 (fun v h => hv v (List.mem_cons_of_mem _ h)) _ _ (hv v (by simp) _ _ h)
      · exact hv v (by simp) _ _ h
  have hD : (cs.getD at_ col0).Sm := by
    rw [List.getD_eq_getElem?_getD]
    cases e : cs[at_]? with
    | none => exact ⟨by simp [col0], by simp [col0], by simp [col0], by simp [col0], by simp [col0]⟩
    | some c => exact h c (List.mem_of_getElem? e)
  rw [putF]
  split
  · exact h
  · rename_i hlt
    split
    · exact Z11q h (Z11o _ hD (by omega))
    · exact hL vks (fun v hv => ih v hv) _ _ (Z11q h (Z11p _ _ hD (by omega)))
theorem ColsG.ex : ∀ cs : List Col, ∃ ws β, ColsG ws cs β
  | [] => ⟨[], [], rfl⟩
  | c :: cs => by
    obtain ⟨ws, γ, h⟩ := ColsG.ex cs
    obtain ⟨v1, β1, h1⟩ := Zbr.ex 1 (c.here.map .bool)
    obtain ⟨v2, β2, h2⟩ := Zbr.ex 1 (c.ints.map (.int .i64))
    obtain ⟨v3, β3, h3⟩ := Zbr.ex 1 (c.ns.map (.int .i64))
    obtain ⟨v4, β4, h4⟩ := Zbr.ex 1 (Z116 c.texts)
    obtain ⟨v5, β5, h5⟩ := Zbr.ex 1 (c.lens.map (.int .i64))
    exact ⟨_ :: ws, _, _, γ, ⟨v1, v2, v3, v4, v5, β1, β2, β3, β4, β5, rfl, h1, h2, h3, h4, h5, rfl⟩, h, rfl⟩
theorem c_put (l : List Nd) : ∀ (v : Vl), v.Fit → ∀ (t : Ty) (at_ : Nat), At l at_ t → t.Ok → vchk t v = 0 → ∀ (ws : List Z0) (cs : List Col) (β : Zc) (b : Nat) (σ : Zc), ColsG ws cs β → cs.length = l.length → cs.length ≤ 1000 → (∀ c ∈ cs, c.Sm) →
    Z1q Try.prog Zdz [.slc 9 (l.map encR) false, .arr 5 b 0 cs.length, .int .i64 (at_ : Int), encV v] ((b, .cells 5 ws) :: (β ++ σ)) fun r σ' => ∃ ws' β', ColsG ws' (putF l at_ v cs).1 β' ∧ r = .bool (putF l at_ v cs).2 ∧ σ' = (b, .cells 5 ws') :: (β' ++ σ) := by
  refine Vl.ind fun nu i n bs vks ih hfit t at_ hAt hok hchk ws cs β b σ hG hlen h1000 hSm => ?_
  cases hfit with
  | mk hi hbl hkl hkids =>
  have hatl := hAt.lt
  cases hAt with
  | @mk _ _ nd hnd ht hkn hkds =>
  have hat : at_ < cs.length := by omega
  have hwl : at_ < ws.length := by rw [hG.len]; exact hat
  obtain ⟨w, hw⟩ : ∃ w, ws[at_]? = some w := ⟨_, List.getElem?_eq_getElem hwl⟩
  obtain ⟨c, hc⟩ : ∃ c, cs[at_]? = some c := ⟨_, List.getElem?_eq_getElem hat⟩
  have hcSm := hSm c (List.mem_of_getElem? hc)
  have hcD : cs.getD at_ col0 = c := by rw [List.getD_eq_getElem?_getD, hc, Option.getD_some]
  obtain ⟨β1, γ, hC, hperm, hback⟩ := hG.pick at_ w c hw hc
  rw [Zm6]
  generalize hX : putF l at_ (.mk nu i n bs vks) cs = X
  rw [putF, hcD] at hX
  refine Z8t rfl Z115 (Nat.le_of_ble_eq_true rfl) ?_
  refine Z9z ?_
  refine Z9j rfl (Z0.fit_iff.1 rfl) fun b7 hb7 => ?_
  (repeat (refine st_q rfl rfl rfl ?_))
  (refine Z8y ?_; (repeat (first | refine Z9v rfl ?_ | refine Z9w ?_)); refine Z9u ?_)
  refine Zb3 (d := 7) (cs := Zm5 (.mk nu i n bs vks)) rfl ?_
  refine Z9z ?_
  (repeat (refine st_q rfl rfl rfl ?_))
  refine Z94 rfl ⟨by omega, by omega⟩ ?_
  rw [show 0 + ((at_ : Nat) : Int).toNat = at_ from by simp]
  (repeat (refine st_q rfl rfl rfl ?_))
  (refine Z8y ?_; (repeat (first | refine Z9v rfl ?_ | refine Z9w ?_)); refine Z9u ?_)
  have hp1 : HSub ((b, .cells 5 ws) :: (β1 ++ (γ ++ σ))) ((b, .cells 5 ws) :: (β ++ σ)) := HSub.of_perm (List.Perm.cons _ (by rw [← List.append_assoc]; exact (hperm.symm).append_right σ))
  have hp2 : HSub ((b, .cells 5 ws) :: (β ++ σ)) ((b, .cells 5 ws) :: (β1 ++ (γ ++ σ))) := HSub.of_perm (List.Perm.cons _ (by rw [← List.append_assoc]; exact hperm.append_right σ))
  refine Z8a (FSub.refl _) hp1 ?_
  have hC' := hC
  obtain ⟨v1, v2, v3, v4, v5, α1, α2, α3, α4, α5, rfl, g1, g2, g3, g4, g5, rfl⟩ := hC'
  refine awp_seq ?_
  refine awp_seq ?_
  refine Zbm (fun _ _ => rfl) ?_
  (repeat (refine st_q rfl rfl rfl ?_))
  refine Z92 rfl Z8z hw rfl ?_
  refine st_q rfl g1.lens rfl ?_
  (repeat (refine st_q rfl rfl rfl ?_))
  (refine Z8y ?_; (repeat (first | refine Z9v rfl ?_ | refine Z9w ?_)); refine Z9u ?_)
  rw [List.length_map]
  refine Za3 (p := (c.here.length : Int) ≥ 16384) rfl (fun h3 => ?_) (fun h3 => ?_)
  · rw [if_pos (by omega)] at hX
    subst hX
    (repeat (first | refine st_q rfl rfl rfl ?_ | refine Z8v rfl (st_q rfl rfl rfl ?_) | refine Z8w rfl ?_ | refine Z8x rfl ?_ | (refine Z8y ?_; (repeat (first | refine Z9v rfl ?_ | refine Z9w ?_)); refine Z9u ?_) | refine awp_seq ?_ | refine Zbm (fun _ _ => rfl) ?_ | refine Z8h ?_ | refine Zbn (fun _ _ => rfl) ?_ | refine Zbo (fun _ _ => rfl) ?_ | refine Z8f (t := true) rfl (fun _ => ?_) (fun e => by cases e) | refine Z8f (t := false) rfl (fun e => by cases e) (fun _ => ?_)))
    refine Z8d ?_
    exact ares rfl hp2 ⟨ws, β, hG, rfl, rfl⟩
  rw [if_neg (by omega)] at hX
  refine Zbn (fun _ _ => rfl) ?_
  refine awp_seq ?_
  (refine Z9y (keep := [0, 1, 2, 7, 9]) ?_; ((repeat (first | refine Z9v rfl ?_ | refine Z9w ?_)); refine Z9u ?_))
  refine Z11i (fun _ _ => rfl) b at_ ws _ hw c _ hC (by omega) (.mk nu i n bs vks) _ _ _ (γ ++ σ) fun w1 β2 hC1 => ?_
  refine awp_seq ?_
  refine awp_seq ?_
  refine Zbm (fun _ _ => rfl) ?_
  (repeat (refine st_q rfl rfl rfl ?_))
  (refine Z8y ?_; (repeat (first | refine Z9v rfl ?_ | refine Z9w ?_)); refine Z9u ?_)
  have hp3 : ∀ {x : Zb} {δ β' : Zc}, δ.Perm (β' ++ γ) → HSub ((b, x) :: (δ ++ σ)) ((b, x) :: (β' ++ (γ ++ σ))) := fun k => HSub.of_perm (List.Perm.cons _ (by rw [← List.append_assoc]; exact k.append_right σ))
  cases nu with
  | true =>
    rw [if_pos rfl] at hX
    subst hX
    (repeat (first | refine st_q rfl rfl rfl ?_ | refine Z8v rfl (st_q rfl rfl rfl ?_) | refine Z8w rfl ?_ | refine Z8x rfl ?_ | (refine Z8y ?_; (repeat (first | refine Z9v rfl ?_ | refine Z9w ?_)); refine Z9u ?_) | refine awp_seq ?_ | refine Zbm (fun _ _ => rfl) ?_ | refine Z8h ?_ | refine Zbn (fun _ _ => rfl) ?_ | refine Zbo (fun _ _ => rfl) ?_ | refine Z8f (t := true) rfl (fun _ => ?_) (fun e => by cases e) | refine Z8f (t := false) rfl (fun e => by cases e) (fun _ => ?_)))
    refine Z8d ?_
    obtain ⟨δ, k1, k2⟩ := hback w1 _ β2 hC1
    exact ares rfl (hp3 k2) ⟨_, δ, k1, rfl, rfl⟩
  | false =>
    rw [if_neg (by simp)] at hX
    have hown : ownV t i n bs vks.length = 0 ∧ Zmf t i 0 vks = 0 := by
      rw [vchk, if_neg (by simp)] at hchk
      split at hchk
      · omega
      · exact ⟨by omega, hchk⟩
    have hnd' : (l.map encR)[((at_ : Nat) : Int).toNat]? = some (encR nd) := by rw [Int.toNat_natCast, List.getElem?_map, hnd]; rfl
    have hkind : kindC l at_ = t.kind := by rw [kindC, hnd]; exact congrArg Ty.kind ht
    rw [hkind] at hX
    (repeat (first | refine st_q rfl rfl rfl ?_ | refine Z8v rfl (st_q rfl rfl rfl ?_) | refine Z8w rfl ?_ | refine Z8x rfl ?_ | (refine Z8y ?_; (repeat (first | refine Z9v rfl ?_ | refine Z9w ?_)); refine Z9u ?_) | refine awp_seq ?_ | refine Zbm (fun _ _ => rfl) ?_ | refine Z8h ?_ | refine Zbn (fun _ _ => rfl) ?_ | refine Zbo (fun _ _ => rfl) ?_ | refine Z8f (t := true) rfl (fun _ => ?_) (fun e => by cases e) | refine Z8f (t := false) rfl (fun e => by cases e) (fun _ => ?_)))
    refine Z93 rfl (by omega) hnd' ?_
    (repeat (refine st_q rfl rfl rfl ?_))
    refine Z9k (by simp [Z0.cells, Z0.one]) fun b10 hb10 => ?_
    refine Z9a rfl Z8z rfl (by decide) (Z0.fit_iff.1 rfl) (fun h => by cases h) Z9b ?_
    (refine Z8y ?_; (repeat (first | refine Z9v rfl ?_ | refine Z9w ?_)); refine Z9u ?_)
    refine Zb3 (d := 10) (cs := Zln nd.t) rfl ?_
    rw [ht]
    (refine Z9y (keep := [0, 1, 2, 7, 9, 10]) ?_; ((repeat (first | refine Z9v rfl ?_ | refine Z9w ?_)); refine Z9u ?_))
    have hw1 : ∀ w', (ws.set at_ w')[at_]? = some w' := fun w' => by rw [List.getElem?_set_self hwl]
    have rest : ∀ w2 β3, ColG w2 (addC1 t.kind (.mk false i n bs vks) (hereC true c)) β3 → AWp Try.prog Z113.n (Z113.code.snd 7) (ARet Z113.res fun r σ' => ∃ ws' β', ColsG ws' X.fst β' ∧ r = Z0.bool X.snd ∧ σ' = (b, Zb.cells 5 ws') :: (β' ++ σ))
        (fset 0 (some (.slc 9 (l.map encR) false)) (fset 1 (some (.arr 5 b 0 cs.length)) (fset 2 (some (.int .i64 (at_ : Int))) (fset 7 (some (.iptr (Zm5 (.mk false i n bs vks)))) (fset 9 (some (.ptr b at_ 0)) (fset 10 (some (.iptr (Zln t))) Z27)))))) ((b, .cells 5 (ws.set at_ w2)) :: (β3 ++ (γ ++ σ))) := by
      intro w2 β3 hC2
      have fin : ∀ w3 β4, ColG w3 (addC t.kind (.mk false i n bs vks) c) β4 → AWp Try.prog Z113.n (Z113.code.snd 8) (ARet Z113.res fun r σ' => ∃ ws' β', ColsG ws' X.fst β' ∧ r = Z0.bool X.snd ∧ σ' = (b, Zb.cells 5 ws') :: (β' ++ σ))
          (fset 0 (some (.slc 9 (l.map encR) false)) (fset 1 (some (.arr 5 b 0 cs.length)) (fset 2 (some (.int .i64 (at_ : Int))) (fset 7 (some (.iptr (Zm5 (.mk false i n bs vks)))) (fset 10 (some (.iptr (Zln t))) Z27))))) ((b, .cells 5 (ws.set at_ w3)) :: (β4 ++ (γ ++ σ))) := by
        intro w3 β4 hC3
        obtain ⟨δ, k1, k2⟩ := hback w3 _ β4 hC3
        refine Z8a (FSub.refl _) (hp3 k2) ?_
        have hCs : ∀ x ∈ cs.set at_ (addC t.kind (.mk false i n bs vks) c), x.Sm := Z11q hSm (Z11p _ _ hcSm (by omega))
        (repeat (first | refine st_q rfl rfl rfl ?_ | refine Z8v rfl (st_q rfl rfl rfl ?_) | refine Z8w rfl ?_ | refine Z8x rfl ?_ | (refine Z8y ?_; (repeat (first | refine Z9v rfl ?_ | refine Z9w ?_)); refine Z9u ?_) | refine awp_seq ?_ | refine Zbm (fun _ _ => rfl) ?_ | refine Z8h ?_ | refine Zbn (fun _ _ => rfl) ?_ | refine Zbo (fun _ _ => rfl) ?_ | refine Z8f (t := true) rfl (fun _ => ?_) (fun e => by cases e) | refine Z8f (t := false) rfl (fun e => by cases e) (fun _ => ?_)))
        refine Zaa (fun m F σ' => ∃ (j : Nat) (ws' : List Z0) (cs' : List Col) (β' : Zc), F = fset 0 (some (.slc 9 (l.map encR) false)) (fset 1 (some (.arr 5 b 0 cs.length)) (fset 2 (some (.int .i64 (at_ : Int))) (fset 7 (some (.iptr (Zm5 (.mk false i n bs vks)))) (fset 10 (some (.iptr (Zln t))) (fset 11 (some (.int .i64 (j : Int))) Z27))))) ∧
          (b, Zb.cells 5 ws') :: (β' ++ σ) = σ' ∧ ColsG ws' cs' β' ∧ cs'.length = cs.length ∧ (∀ x ∈ cs', x.Sm) ∧ j ≤ vks.length ∧ putL l at_ i j (vks.drop j) cs' = X ∧ Zmf t i j (vks.drop j) = 0 ∧ m = vks.length - j) (n := vks.length)
          ⟨0, _, _, δ, rfl, rfl, k1, List.length_set, hCs, by omega, hX, hown.2, rfl⟩ ?_
        rintro m F σ' ⟨j, ws', cs', β', rfl, rfl, hG', hl', hS', hj, hXj, hvj, rfl⟩
        have hkl' : vks.length ≤ 9223372036854775807 := hkl
        (repeat (first | refine st_q rfl rfl rfl ?_ | refine Z8v rfl (st_q rfl rfl rfl ?_) | refine Z8w rfl ?_ | refine Z8x rfl ?_ | (refine Z8y ?_; (repeat (first | refine Z9v rfl ?_ | refine Z9w ?_)); refine Z9u ?_) | refine awp_seq ?_ | refine Zbm (fun _ _ => rfl) ?_ | refine Z8h ?_ | refine Zbn (fun _ _ => rfl) ?_ | refine Zbo (fun _ _ => rfl) ?_ | refine Z8f (t := true) rfl (fun _ => ?_) (fun e => by cases e) | refine Z8f (t := false) rfl (fun e => by cases e) (fun _ => ?_)))
        rw [show ((Zm4 (Vl.mk false i n bs vks).kids).length : Int) = (vks.length : Int) by rw [Zm8]; rfl]
        refine Za3 (p := (j : Int) < (vks.length : Int)) rfl (fun h5 => ?_) (fun h5 => ?_)
        · have hjl : j < vks.length := by omega
          have Zd : vks[j]? = some vks[j] := List.getElem?_eq_getElem hjl
          obtain ⟨hka, hi0⟩ := Ztu hok hown.1 hjl
          rw [List.drop_eq_getElem_cons hjl, Zmf] at hvj
          rw [List.drop_eq_getElem_cons hjl, putL] at hXj
          have hv0 : vchk (kidT t i j) vks[j] = 0 ∧ Zmf t i (j + 1) (vks.drop (j + 1)) = 0 := by
            split at hvj
            · omega
            · split at hvj
              · omega
              · exact ⟨by omega, hvj⟩
          have hleaf : Zls t.kind = false := by
            cases e : Zls t.kind with
            | false => rfl
            | true =>
              have := hown.1
              rw [ownV, if_pos (.inr (.inr ⟨by omega, e⟩))] at this
              omega
          have hkl2 : Zme t.kind i j < nd.kids.length := by omega
          obtain ⟨kx, hkx⟩ : ∃ kx, nd.kids[Zme t.kind i j]? = some kx := ⟨_, List.getElem?_eq_getElem hkl2⟩
          have hAtk : At l kx (kidT t i j) := hkds _ _ _ hkx (by rw [kidT, List.getD_eq_getElem?_getD, List.getElem?_eq_getElem hka]; rfl)
          have hkC : kidC l at_ t.kind i j = kx := by
            rw [kidC, hnd]
            show nd.kids.getD _ 0 = kx
            rw [List.getD_eq_getElem?_getD, hkx, Option.getD_some]
          rw [hkind, hkC] at hXj
          have hcall := ih vks[j] (List.getElem_mem hjl) (hkids _ (List.getElem_mem hjl)) (kidT t i j) kx hAtk (Ztv hok hka) hv0.1 ws' cs' β' b σ hG' (by omega) (by omega) hS'
          rw [hl'] at hcall
          have tail : AWp Try.prog Z113.n ((Z111.snd 1).fst.body.snd 2) (Z8g 2 (Z8e Try.prog Z113.n (.region Z110 [0, 1, 2, 7, 10, 11]) (Za9 (fun m F σ' => ∃ (j : Nat) (ws' : List Z0) (cs' : List Col) (β' : Zc), F = fset 0 (some (.slc 9 (l.map encR) false)) (fset 1 (some (.arr 5 b 0 cs.length)) (fset 2 (some (.int .i64 (at_ : Int))) (fset 7 (some (.iptr (Zm5 (.mk false i n bs vks)))) (fset 10 (some (.iptr (Zln t))) (fset 11 (some (.int .i64 (j : Int))) Z27))))) ∧
              (b, Zb.cells 5 ws') :: (β' ++ σ) = σ' ∧ ColsG ws' cs' β' ∧ cs'.length = cs.length ∧ (∀ x ∈ cs', x.Sm) ∧ j ≤ vks.length ∧ putL l at_ i j (vks.drop j) cs' = X ∧ Zmf t i j (vks.drop j) = 0 ∧ m = vks.length - j) (vks.length - j) (Z8g 1 (Z8e Try.prog Z113.n (Z113.code.snd 9) (ARet Z113.res fun r σ' => ∃ ws' β', ColsG ws' X.fst β' ∧ r = Z0.bool X.snd ∧ σ' = (b, Zb.cells 5 ws') :: (β' ++ σ)))))))
              (fset 0 (some (.slc 9 (l.map encR) false)) (fset 1 (some (.arr 5 b 0 cs.length)) (fset 2 (some (.int .i64 (at_ : Int))) (fset 7 (some (.iptr (Zm5 (.mk false i n bs vks)))) (fset 10 (some (.iptr (Zln t))) (fset 11 (some (.int .i64 (j : Int))) (fset 12 (some (.int .i64 (Zme t.kind i j : Int))) Z27))))))) ((b, .cells 5 ws') :: (β' ++ σ)) := by
            have hxv : (Zm4 vks)[((j : Nat) : Int).toNat]? = some (encV vks[j]) := Zm9 (by rw [Int.toNat_natCast, Zd])
            have hxk : (ints nd.kids)[((Zme t.kind i j : Nat) : Int).toNat]? = some (.int .i64 (kx : Int)) := by rw [Int.toNat_natCast]; simp [ints, hkx]
            rw [Zm6] at hcall hxv
            refine Z9z ?_
            (repeat (refine st_q rfl rfl rfl ?_))
            refine Z93 rfl (by omega) hnd' ?_
            (repeat (refine st_q rfl rfl rfl ?_))
            refine Z93 rfl (by omega) hxk ?_
            (repeat (refine st_q rfl rfl rfl ?_))
            refine Z93 rfl (by omega) hxv ?_
            (repeat (refine st_q rfl rfl rfl ?_))
            obtain ⟨wsx, βx, hx⟩ := ColsG.ex (putF l kx vks[j] cs').1
            refine Z9s rfl hcall ⟨_, _, wsx, βx, hx, rfl, rfl⟩ ?_
            rintro r σ2 ⟨ws2, β5, hG2, rfl, rfl⟩
            (repeat (refine st_q rfl rfl rfl ?_))
            (refine Z8y ?_; (repeat (first | refine Z9v rfl ?_ | refine Z9w ?_)); refine Z9u ?_)
            have hlen2 := Z11r l vks[j] kx cs'
            have hSm2 := Z11s l vks[j] kx cs' hS'
            generalize putF l kx vks[j] cs' = pr at hXj hG2 hlen2 hSm2
            obtain ⟨cs2, ok⟩ := pr
            cases ok with
            | true =>
              rw [if_pos rfl] at hXj
              (repeat (first | refine st_q rfl rfl rfl ?_ | refine Z8v rfl (st_q rfl rfl rfl ?_) | refine Z8w rfl ?_ | refine Z8x rfl ?_ | (refine Z8y ?_; (repeat (first | refine Z9v rfl ?_ | refine Z9w ?_)); refine Z9u ?_) | refine awp_seq ?_ | refine Zbm (fun _ _ => rfl) ?_ | refine Z8h ?_ | refine Zbn (fun _ _ => rfl) ?_ | refine Zbo (fun _ _ => rfl) ?_ | refine Z8f (t := true) rfl (fun _ => ?_) (fun e => by cases e) | refine Z8f (t := false) rfl (fun e => by cases e) (fun _ => ?_)))
              refine Zbp ?_
              (repeat (refine st_q rfl rfl rfl ?_))
              rw [show IntKind.wrap .i64 ((j : Int) + 1) = ((j + 1 : Nat) : Int) by rw [w64 _ (by omega) (by omega)]; omega]
              (refine Z8y ?_; (repeat (first | refine Z9v rfl ?_ | refine Z9w ?_)); refine Z9u ?_)
              exact ⟨_, vks.length - (j + 1), HSub.refl _, ⟨j + 1, ws2, cs2, β5, rfl, rfl, hG2, by rw [← hl', ← hlen2], hSm2, by omega, hXj, hv0.2, rfl⟩, by omega⟩
            | false =>
              rw [if_neg (by simp)] at hXj
              subst hXj
              (repeat (first | refine st_q rfl rfl rfl ?_ | refine Z8v rfl (st_q rfl rfl rfl ?_) | refine Z8w rfl ?_ | refine Z8x rfl ?_ | (refine Z8y ?_; (repeat (first | refine Z9v rfl ?_ | refine Z9w ?_)); refine Z9u ?_) | refine awp_seq ?_ | refine Zbm (fun _ _ => rfl) ?_ | refine Z8h ?_ | refine Zbn (fun _ _ => rfl) ?_ | refine Zbo (fun _ _ => rfl) ?_ | refine Z8f (t := true) rfl (fun _ => ?_) (fun e => by cases e) | refine Z8f (t := false) rfl (fun e => by cases e) (fun _ => ?_)))
              refine Z8d ?_
              exact ares rfl (HSub.refl _) ⟨ws2, β5, hG2, rfl, rfl⟩
          refine Zbn (fun _ _ => rfl) ?_
          refine awp_seq ?_
          refine Z8h ?_
          refine Z9z ?_
          (repeat (refine st_q rfl rfl rfl ?_))
          (refine Z8y ?_; (repeat (first | refine Z9v rfl ?_ | refine Z9w ?_)); refine Z9u ?_)
          refine awp_seq ?_
          refine Z9z ?_
          (repeat (refine st_q rfl rfl rfl ?_))
          (refine Z8y ?_; (repeat (first | refine Z9v rfl ?_ | refine Z9w ?_)); refine Z9u ?_)
          refine Z8h ?_
          refine Z9z ?_
          (repeat (refine st_q rfl rfl rfl ?_))
          (refine Z8y ?_; (repeat (first | refine Z9v rfl ?_ | refine Z9w ?_)); refine Z9u ?_)
          refine Za3 (p := t.kind = 12) rfl (fun k12 => ?_) (fun k12 => ?_)
          · refine Zbm (fun _ _ => rfl) ?_
            (repeat (refine st_q rfl rfl rfl ?_))
            (refine Z8y ?_; (repeat (first | refine Z9v rfl ?_ | refine Z9w ?_)); refine Z9u ?_)
            have e : Zme t.kind i j = j := by simp [Zme, k12]
            rw [e] at tail
            exact tail
          refine Z9z ?_
          (repeat (refine st_q rfl rfl rfl ?_))
          (refine Z8y ?_; (repeat (first | refine Z9v rfl ?_ | refine Z9w ?_)); refine Z9u ?_)
          refine Za3 (p := t.kind = 11) rfl (fun k11 => ?_) (fun k11 => ?_)
          · refine Zbm (fun _ _ => rfl) ?_
            (repeat (refine st_q rfl rfl rfl ?_))
            (refine Z8y ?_; (repeat (first | refine Z9v rfl ?_ | refine Z9w ?_)); refine Z9u ?_)
            have e : ((Zme t.kind i j : Nat) : Int) = (j : Int).tmod 2 := by
              rw [Int.tmod_eq_emod_of_nonneg (by omega)]
              simp [Zme, k11]
            rw [e] at tail
            exact tail
          refine Z9z ?_
          (repeat (refine st_q rfl rfl rfl ?_))
          (refine Z8y ?_; (repeat (first | refine Z9v rfl ?_ | refine Z9w ?_)); refine Z9u ?_)
          refine Za3 (p := t.kind = 13) rfl (fun k13 => ?_) (fun k13 => ?_)
          · refine Zbm (fun _ _ => rfl) ?_
            (repeat (refine st_q rfl rfl rfl ?_))
            (refine Z8y ?_; (repeat (first | refine Z9v rfl ?_ | refine Z9w ?_)); refine Z9u ?_)
            have e : ((Zme t.kind i j : Nat) : Int) = i := by
              have := hi0 k13
              simp [Zme, k13]
              omega
            rw [e] at tail
            exact tail
          · refine Zbn (fun _ _ => rfl) ?_
            (refine Z9y (keep := [0, 1, 2, 7, 10, 11, 12]) ?_; ((repeat (first | refine Z9v rfl ?_ | refine Z9w ?_)); refine Z9u ?_))
            have e : Zme t.kind i j = 0 := by
              have k10 : t.kind = 10 := by
                simp [Zls, k11, k12, k13] at hleaf
                exact hleaf
              simp [Zme, k10]
            rw [e] at tail
            exact tail
        · rw [List.drop_of_length_le (by omega), putL] at hXj
          subst hXj
          (repeat (first | refine st_q rfl rfl rfl ?_ | refine Z8v rfl (st_q rfl rfl rfl ?_) | refine Z8w rfl ?_ | refine Z8x rfl ?_ | (refine Z8y ?_; (repeat (first | refine Z9v rfl ?_ | refine Z9w ?_)); refine Z9u ?_) | refine awp_seq ?_ | refine Zbm (fun _ _ => rfl) ?_ | refine Z8h ?_ | refine Zbn (fun _ _ => rfl) ?_ | refine Zbo (fun _ _ => rfl) ?_ | refine Z8f (t := true) rfl (fun _ => ?_) (fun e => by cases e) | refine Z8f (t := false) rfl (fun e => by cases e) (fun _ => ?_)))
          refine Z8d ?_
          exact ares rfl (HSub.refl _) ⟨ws', β', hG', rfl, rfl⟩
      refine awp_seq ?_
      refine awp_seq ?_
      refine Zbm (fun _ _ => rfl) ?_
      (repeat (refine st_q rfl rfl rfl ?_))
      (refine Z8y ?_; (repeat (first | refine Z9v rfl ?_ | refine Z9w ?_)); refine Z9u ?_)
      refine Za3 (p := t.kind = 9) rfl (fun k9 => ?_) (fun k9 => ?_)
      · (refine Z9y (keep := [0, 1, 2, 7, 9, 10]) ?_; ((repeat (first | refine Z9v rfl ?_ | refine Z9w ?_)); refine Z9u ?_))
        refine Z11n (fun _ _ => rfl) b at_ _ w2 (hw1 w2) _ β3 hC2 (by
          have h1 := hcSm.ns
          have h2 := hcSm.here
          have e : (addC1 t.kind (.mk false i n bs vks) (hereC true c)).ns = c.ns := by
            unfold addC1 hereC
            (repeat' split) <;> rfl
          rw [e]; omega) (.mk false i n bs vks) _ _ _ _ (γ ++ σ) fun w' β' hC3 => ?_
        rw [List.set_set]
        refine fin w' β' ?_
        rw [addC, addC2, if_pos k9]
        exact hC3
      · refine Zbn (fun _ _ => rfl) ?_
        (refine Z9y (keep := [0, 1, 2, 7, 10]) ?_; ((repeat (first | refine Z9v rfl ?_ | refine Z9w ?_)); refine Z9u ?_))
        refine fin w2 β3 ?_
        rw [addC, addC2, if_neg k9]
        exact hC2
    have hC1 : ColG w1 (hereC true c) β2 := hC1
    have b1 := hcSm.texts
    have b2 := hcSm.here
    have b3 := hcSm.lens
    have b4 := hcSm.ints
    refine awp_seq ?_
    refine Z8h ?_
    refine Z9z ?_
    (repeat (refine st_q rfl rfl rfl ?_))
    refine Z9t rfl (Ztk t.kind _) ?_
    (repeat (refine st_q rfl rfl rfl ?_))
    (refine Z8y ?_; (repeat (first | refine Z9v rfl ?_ | refine Z9w ?_)); refine Z9u ?_)
    cases hT : Zma t.kind with
    | true =>
      refine Z8f (t := true) rfl (fun _ => ?_) (fun e => by cases e)
      (refine Z9y (keep := [0, 1, 2, 7, 9, 10]) ?_; ((repeat (first | refine Z9v rfl ?_ | refine Z9w ?_)); refine Z9u ?_))
      refine Z11j (fun _ _ => rfl) b at_ _ w1 (hw1 w1) (hereC true c) β2 hC1 (show c.texts.length ≤ 16384 by omega) (.mk false i n bs vks) _ _ _ _ (γ ++ σ) fun w' β' hC2 => ?_
      rw [List.set_set]
      refine rest w' β' ?_
      rw [addC1, if_pos hT]
      exact hC2
    | false =>
    refine Z8f (t := false) rfl (fun e => by cases e) (fun _ => ?_)
    refine Z9z ?_
    (repeat (refine st_q rfl rfl rfl ?_))
    (refine Z8y ?_; (repeat (first | refine Z9v rfl ?_ | refine Z9w ?_)); refine Z9u ?_)
    refine Za3 (p := t.kind = 10) rfl (fun k10 => ?_) (fun k10 => ?_)
    · (refine Z9y (keep := [0, 1, 2, 7, 9, 10]) ?_; ((repeat (first | refine Z9v rfl ?_ | refine Z9w ?_)); refine Z9u ?_))
      refine Z11k (fun _ _ => rfl) b at_ _ w1 (hw1 w1) (hereC true c) β2 hC1 (show c.lens.length ≤ 16384 by omega) (.mk false i n bs vks) _ _ _ _ (γ ++ σ) fun w' β' hC2 => ?_
      rw [List.set_set]
      refine rest w' β' ?_
      rw [addC1, if_neg (by simp [hT]), if_pos k10]
      exact hC2
    refine Z9z ?_
    (repeat (refine st_q rfl rfl rfl ?_))
    (refine Z8y ?_; (repeat (first | refine Z9v rfl ?_ | refine Z9w ?_)); refine Z9u ?_)
    refine Za3 (p := t.kind = 11) rfl (fun k11 => ?_) (fun k11 => ?_)
    · (refine Z9y (keep := [0, 1, 2, 7, 9, 10]) ?_; ((repeat (first | refine Z9v rfl ?_ | refine Z9w ?_)); refine Z9u ?_))
      refine Z11l (fun _ _ => rfl) b at_ _ w1 (hw1 w1) (hereC true c) β2 hC1 (show c.lens.length ≤ 16384 by omega) (.mk false i n bs vks) hkl _ _ _ _ (γ ++ σ) fun w' β' hC2 => ?_
      rw [List.set_set]
      refine rest w' β' ?_
      rw [addC1, if_neg (by simp [hT]), if_neg k10, if_pos k11]
      exact hC2
    refine Z9z ?_
    (repeat (refine st_q rfl rfl rfl ?_))
    (refine Z8y ?_; (repeat (first | refine Z9v rfl ?_ | refine Z9w ?_)); refine Z9u ?_)
    refine Za3 (p := t.kind ≠ 12) rfl (fun k12 => ?_) (fun k12 => ?_)
    · (refine Z9y (keep := [0, 1, 2, 7, 9, 10]) ?_; ((repeat (first | refine Z9v rfl ?_ | refine Z9w ?_)); refine Z9u ?_))
      refine Z11m (fun _ _ => rfl) b at_ _ w1 (hw1 w1) (hereC true c) β2 hC1 (show c.ints.length ≤ 16384 by omega) (.mk false i n bs vks) _ _ _ _ (γ ++ σ) fun w' β' hC2 => ?_
      rw [List.set_set]
      refine rest w' β' ?_
      rw [addC1, if_neg (by simp [hT]), if_neg k10, if_neg k11, if_pos k12]
      exact hC2
    · refine Zbn (fun _ _ => rfl) ?_
      (refine Z9y (keep := [0, 1, 2, 7, 9, 10]) ?_; ((repeat (first | refine Z9v rfl ?_ | refine Z9w ?_)); refine Z9u ?_))
      refine rest w1 β2 ?_
      rw [addC1, if_neg (by simp [hT]), if_neg k10, if_neg k11, if_neg k12]
      exact hC1
end Go.Abs
namespace Go.Abs
open Go Go.Proofs
set_option linter.unusedVariables false
set_option linter.unusedSimpArgs false
theorem Zbr.one {sz : Nat} {v : Z0} {xs : List Z0} {β : Zc} (h : Zbr sz v xs β) : v.one = true := by
  rcases h with ⟨⟨z, rfl⟩, _, _⟩ | ⟨b, rfl, _⟩ <;> rfl
theorem oneS {z : Nat} {xs : List Z0} {f : Bool} : (Z0.slc z xs f).one = true := rfl
theorem HShift.cell {b sz : Nat} {A B p q : List Z0} {v : Z0} {ks : List Z0} {β σ : Zc} (hg : Zbr 1 v ks β) (he : ∀ y ∈ A ++ .agg (p ++ .slc 1 ks false :: q) :: B, y.elem sz) :
    HShift ((b, .cells sz (A ++ .agg (p ++ v :: q) :: B)) :: (β ++ σ)) ((b, .cells sz (A ++ .agg (p ++ .slc 1 ks false :: q) :: B)) :: σ) := by
  rcases hg with ⟨⟨z, rfl⟩, rfl, rfl⟩ | ⟨bk, rfl, rfl⟩
  · refine HShift.content (by simp) he ?_
    simp only [Z4, Z3, Z0.cells]
    exact VRle.app (VRle.refl _) (VRle.app (VRle.app (VRle.refl _) (VRle.cons (VRle.nilF _ _) (VRle.refl _))) (VRle.refl _))
  · refine HShift.inner (bk := bk) (s := 1) (ks := ks) (by simp) he fun K hK vs hv => ?_
    simp only [Z4, Z3, Z0.cells] at hv ⊢
    obtain ⟨m1, m2, rfl, g1, g2⟩ := hv.split
    obtain ⟨m3, m4, rfl, g3, g4⟩ := g2.split
    obtain ⟨m5, m6, rfl, g5, g6⟩ := g3.split
    refine g1.append ((g5.append ?_).append g4)
    have h2 : (Z0.arr 1 bk 0 ks.length :: q) = [Z0.arr 1 bk 0 ks.length] ++ q := rfl
    rw [h2] at g6
    obtain ⟨m7, m8, rfl, g7, g8⟩ := g6.split
    have h3 : (Z0.slc 1 ks false :: q) = [Z0.slc 1 ks false] ++ q := rfl
    rw [h3]
    refine Z1.append ?_ g8
    have hl := g7.length
    match m7, g7, hl with
    | [x], g7, _ => exact hK x g7
theorem ColG.elem {w : Z0} {c : Col} {β : Zc} (h : ColG w c β) : w.elem 5 := by
  obtain ⟨v1, v2, v3, v4, v5, β1, β2, β3, β4, β5, rfl, g1, g2, g3, g4, g5, rfl⟩ := h
  exact ⟨rfl, by simp [Z0.cells, g1.one, g2.one, g3.one, g4.one, g5.one]⟩
theorem ColsG.elem : ∀ {ws : List Z0} {cs : List Col} {β : Zc}, ColsG ws cs β → ∀ w ∈ ws, w.elem 5
  | [], [], _, _, w, h => by cases h
  | _ :: _, _ :: _, _, ⟨_, _, h1, h2, _⟩, w, hm => by
    rcases List.mem_cons.1 hm with h | h
    · rw [h]; exact h1.elem
    · exact h2.elem w h
  | [], _ :: _, _, h, _, _ => h.elim
  | _ :: _, [], _, h, _, _ => h.elim
theorem ColsG.freeze : ∀ {ws : List Z0} {cs : List Col} {β : Zc}, ColsG ws cs β → ∀ (A : List Z0), (∀ y ∈ A, y.elem 5) → ∀ (b : Nat) (σ : Zc), HShift ((b, .cells 5 (A ++ ws)) :: (β ++ σ)) ((b, .cells 5 (A ++ cs.map encC)) :: σ)
  | [], [], _, h, A, hA, b, σ => by
    have h : _ = [] := h
    subst h
    exact HShift.sub (HSub.refl _)
  | [], _ :: _, _, h, _, _, _, _ => h.elim
  | _ :: _, [], _, h, _, _, _, _ => h.elim
  | w :: ws, c :: cs, β, ⟨β0, γ, h1, h2, h3⟩, A, hA, b, σ => by
    subst h3
    obtain ⟨v1, v2, v3, v4, v5, β1, β2, β3, β4, β5, rfl, g1, g2, g3, g4, g5, rfl⟩ := h1
    have hws := h2.elem
    have el : ∀ l : List Z0, l.length = 5 → (∀ x ∈ l, x.one = true) → ∀ y ∈ A ++ .agg l :: ws, y.elem 5 := by
      intro l hl ho y hy
      rcases List.mem_append.1 hy with h | h
      · exact hA y h
      · rcases List.mem_cons.1 h with h | h
        · rw [h]; exact ⟨hl, ho⟩
        · exact hws y h
    have hA' : ∀ y ∈ A ++ [encC c], y.elem 5 := by
      intro y hy
      rcases List.mem_append.1 hy with h | h
      · exact hA y h
      · simp only [List.mem_singleton] at h
        rw [h]; exact Z0.fit_iff.1 rfl
    have hr := h2.freeze (A ++ [encC c]) hA' b σ
    simp only [List.append_assoc, List.cons_append, List.nil_append, List.map_cons] at hr ⊢
    refine (HShift.cell (p := []) (q := [v2, v3, v4, v5]) g1 (el _ rfl (by simp [g2.one, g3.one, g4.one, g5.one, oneS]))).trans ?_
    refine (HShift.cell (p := [.slc 1 (c.here.map .bool) false]) (q := [v3, v4, v5]) g2 (el _ rfl (by simp [g3.one, g4.one, g5.one, oneS]))).trans ?_
    refine (HShift.cell (p := [.slc 1 (c.here.map .bool) false, .slc 1 (c.ints.map (.int .i64)) false]) (q := [v4, v5]) g3 (el _ rfl (by simp [g4.one, g5.one, oneS]))).trans ?_
    refine (HShift.cell (p := [.slc 1 (c.here.map .bool) false, .slc 1 (c.ints.map (.int .i64)) false, .slc 1 (c.ns.map (.int .i64)) false]) (q := [v5]) g4 (el _ rfl (by simp [g5.one, oneS]))).trans ?_
    refine (HShift.cell (p := [.slc 1 (c.here.map .bool) false, .slc 1 (c.ints.map (.int .i64)) false, .slc 1 (c.ns.map (.int .i64)) false, .slc 1 (Z116 c.texts) false]) (q := []) g5 (el _ rfl (by simp [oneS]))).trans ?_
    exact hr
end Go.Abs
namespace Go.Abs
open Go Go.Proofs
set_option linter.unusedVariables false
set_option linter.unusedSimpArgs false
set_option maxHeartbeats 4000000
attribute [local irreducible] AWp aops KP
def rowE (t : Ty) (v : Vl) : Nat := if vchk t v = 0 ∧ v.null = true then 1 else vchk t v
def rowsE (t : Ty) : List Vl → Nat
  | [] => 0
  | v :: vs => if rowE t v ≠ 0 then rowE t v else rowsE t vs
def Z11t (l : List Nd) : List Vl → List Col → List Col × Bool
  | [], cols => (cols, true)
  | v :: vs, cols => if (putF l 0 v cols).2 = true then Z11t l vs (putF l 0 v cols).1 else ((putF l 0 v cols).1, false)
def Z11u (t : Ty) (rows : List Vl) : List Col × Nat :=
  if Zlw t ≠ 0 then ([], Zlw t)
  else if rowsE t rows ≠ 0 then ([], rowsE t rows)
  else if (Z11t (Zm3 t) rows (List.replicate (Zm3 t).length col0)).2 = true then ((Z11t (Zm3 t) rows (List.replicate (Zm3 t).length col0)).1, 0)
  else ([], 4)
theorem Z11v (t : Ty) {rows : List Vl} {j : Nat} (h : j < rows.length) : rowsE t (rows.drop j) = if rowE t rows[j] ≠ 0 then rowE t rows[j] else rowsE t (rows.drop (j + 1)) := by
  rw [List.drop_eq_getElem_cons h, rowsE]
theorem Z11w {t : Ty} : ∀ {rows : List Vl}, rowsE t rows = 0 → ∀ v ∈ rows, vchk t v = 0 ∧ v.null = false
  | [], _, v, hv => by cases hv
  | r :: rows, h, v, hv => by
    rw [rowsE] at h
    split at h
    · omega
    · rename_i h0
      rcases List.mem_cons.1 hv with e | e
      · rw [e]
        unfold rowE at h0
        split at h0
        · omega
        · rename_i h1
          have h2 : vchk t r = 0 := by omega
          refine ⟨h2, ?_⟩
          cases e2 : r.null with
          | false => rfl
          | true => exact absurd ⟨h2, e2⟩ h1
      · exact Z11w h v e
theorem Z11x (t : Ty) (ht : t.Fit) (rows : List Vl) (hr : ∀ v ∈ rows, v.Fit) (hl : rows.length ≤ 140737488355328) (σ : Zc) :
    Z1q Try.prog Zcp [encT t, .slc 5 (Zm4 rows) false] σ fun r σ' => r = .tup [.slc 5 ((Z11u t rows).1.map encC) false, .int .i64 ((Z11u t rows).2 : Int)] ∧ σ' = σ := by
  have hc := Zn3 t ht
  have hfl := Znn t hc
  generalize hX : Z11u t rows = X
  rw [Zlo] at *
  refine Z8t rfl Z114 (Nat.le_of_ble_eq_true rfl) ?_
  refine Z9z ?_
  refine Z9j rfl (Z0.fit_iff.1 rfl) fun b2 hb2 => ?_
  (repeat (refine st_q rfl rfl rfl ?_))
  (refine Z8y ?_; (repeat (first | refine Z9v rfl ?_ | refine Z9w ?_)); refine Z9u ?_)
  refine Zb3 (d := 2) (cs := Zln t) rfl ?_
  refine Z9z ?_
  (repeat (refine st_q rfl rfl rfl ?_))
  refine Z9t rfl (hc _) ?_
  (repeat (refine st_q rfl rfl rfl ?_))
  (refine Z8y ?_; (repeat (first | refine Z9v rfl ?_ | refine Z9w ?_)); refine Z9u ?_)
  refine awp_seq ?_
  refine awp_seq ?_
  refine Zbm (fun _ _ => rfl) ?_
  (repeat (refine st_q rfl rfl rfl ?_))
  (refine Z8y ?_; (repeat (first | refine Z9v rfl ?_ | refine Z9w ?_)); refine Z9u ?_)
  by_cases h0 : Zlw t = 0
  · have hTok : t.Ok := Ztt t _ _ h0
    rw [Z11u, if_neg (by omega)] at hX
    refine Za3 (p := ((Zlw t : Nat) : Int) ≠ 0) rfl (fun h => absurd h (by omega)) (fun _ => ?_)
    refine Zbn (fun _ _ => rfl) ?_
    refine Z9z ?_
    (repeat (refine st_q rfl rfl rfl ?_))
    refine Z9t rfl (hfl _) ?_
    (repeat (refine st_q rfl rfl rfl ?_))
    (refine Z8y ?_; (repeat (first | refine Z9v rfl ?_ | refine Z9w ?_)); refine Z9u ?_)
    refine awp_seq ?_
    refine awp_seq ?_
    refine Zbm (fun _ _ => rfl) ?_
    (repeat (refine st_q rfl rfl rfl ?_))
    (refine Z8y ?_; (repeat (first | refine Z9v rfl ?_ | refine Z9w ?_)); refine Z9u ?_)
    refine Z8h ?_
    refine Zaa (fun m F σ' => ∃ (j : Nat), F = fset 1 (some (.slc 5 (Zm4 rows) false)) (fset 2 (some (.iptr (Zln t))) (fset 7 (some (.slc 9 ((Zm3 t).map encR) false)) (fset 8 (some (.int .i64 (j : Int))) Z27))) ∧
      σ = σ' ∧ j ≤ rows.length ∧ rowsE t (rows.drop j) = rowsE t rows ∧ m = rows.length - j) (n := rows.length) ⟨0, rfl, rfl, by omega, rfl, rfl⟩ ?_
    rintro m F σ' ⟨j, rfl, rfl, hj, hE, rfl⟩
    (repeat (first | refine st_q rfl rfl rfl ?_ | refine Z8v rfl (st_q rfl rfl rfl ?_) | refine Z8w rfl ?_ | refine Z8x rfl ?_ | (refine Z8y ?_; (repeat (first | refine Z9v rfl ?_ | refine Z9w ?_)); refine Z9u ?_) | refine awp_seq ?_ | refine Zbm (fun _ _ => rfl) ?_ | refine Z8h ?_ | refine Zbn (fun _ _ => rfl) ?_ | refine Zbo (fun _ _ => rfl) ?_ | refine Z8f (t := true) rfl (fun _ => ?_) (fun e => by cases e) | refine Z8f (t := false) rfl (fun e => by cases e) (fun _ => ?_)))
    rw [show ((Zm4 rows).length : Int) = (rows.length : Int) by rw [Zm8]]
    refine Za3 (p := (j : Int) < (rows.length : Int)) rfl (fun h5 => ?_) (fun h5 => ?_)
    · have hjl : j < rows.length := by omega
      have hxv : (Zm4 rows)[((j : Nat) : Int).toNat]? = some (encV rows[j]) := Zm9 (by rw [Int.toNat_natCast, List.getElem?_eq_getElem hjl])
      have hcv := Zty rows[j] (hr _ (List.getElem_mem hjl)) t hTok
      rw [Zm6] at hxv
      simp only [Zm6, Zlo] at hcv
      rw [Z11v t hjl, rowE] at hE
      refine Zbn (fun _ _ => rfl) ?_
      refine awp_seq ?_
      refine Z8h ?_
      refine Z9z ?_
      (repeat (refine st_q rfl rfl rfl ?_))
      refine Z93 rfl (by omega) hxv ?_
      (repeat (refine st_q rfl rfl rfl ?_))
      refine Z9t rfl (hcv _) ?_
      (repeat (refine st_q rfl rfl rfl ?_))
      (refine Z8y ?_; (repeat (first | refine Z9v rfl ?_ | refine Z9w ?_)); refine Z9u ?_)
      generalize vchk t rows[j] = x at hE
      by_cases hx : x = 0
      · subst hx
        cases hn : rows[j].null with
        | true =>
          rw [hn] at hE
          simp at hE
          (repeat (first | refine st_q rfl rfl rfl ?_ | refine Z8v rfl (st_q rfl rfl rfl ?_) | refine Z8w rfl ?_ | refine Z8x rfl ?_ | (refine Z8y ?_; (repeat (first | refine Z9v rfl ?_ | refine Z9w ?_)); refine Z9u ?_) | refine awp_seq ?_ | refine Zbm (fun _ _ => rfl) ?_ | refine Z8h ?_ | refine Zbn (fun _ _ => rfl) ?_ | refine Zbo (fun _ _ => rfl) ?_ | refine Z8f (t := true) rfl (fun _ => ?_) (fun e => by cases e) | refine Z8f (t := false) rfl (fun e => by cases e) (fun _ => ?_)))
          refine Z8v rfl (Z93 rfl (by omega) hxv ?_)
          (repeat (first | refine st_q rfl rfl rfl ?_ | refine Z8v rfl (st_q rfl rfl rfl ?_) | refine Z8w rfl ?_ | refine Z8x rfl ?_))
          rw [hn]
          (repeat (first | refine st_q rfl rfl rfl ?_ | refine Z8v rfl (st_q rfl rfl rfl ?_) | refine Z8w rfl ?_ | refine Z8x rfl ?_ | (refine Z8y ?_; (repeat (first | refine Z9v rfl ?_ | refine Z9w ?_)); refine Z9u ?_) | refine awp_seq ?_ | refine Zbm (fun _ _ => rfl) ?_ | refine Z8h ?_ | refine Zbn (fun _ _ => rfl) ?_ | refine Zbo (fun _ _ => rfl) ?_ | refine Z8f (t := true) rfl (fun _ => ?_) (fun e => by cases e) | refine Z8f (t := false) rfl (fun e => by cases e) (fun _ => ?_)))
          refine Z8d ?_
          rw [← hE, if_pos (by decide)] at hX
          subst hX
          exact Zau rfl (VRle.tup (VRle.cons (VRle.nilF _ _) (VRle.refl _))) (HSub.refl _) ⟨rfl, rfl⟩
        | false =>
          rw [hn] at hE
          simp at hE
          (repeat (first | refine st_q rfl rfl rfl ?_ | refine Z8v rfl (st_q rfl rfl rfl ?_) | refine Z8w rfl ?_ | refine Z8x rfl ?_ | (refine Z8y ?_; (repeat (first | refine Z9v rfl ?_ | refine Z9w ?_)); refine Z9u ?_) | refine awp_seq ?_ | refine Zbm (fun _ _ => rfl) ?_ | refine Z8h ?_ | refine Zbn (fun _ _ => rfl) ?_ | refine Zbo (fun _ _ => rfl) ?_ | refine Z8f (t := true) rfl (fun _ => ?_) (fun e => by cases e) | refine Z8f (t := false) rfl (fun e => by cases e) (fun _ => ?_)))
          refine Z8v rfl (Z93 rfl (by omega) hxv ?_)
          (repeat (first | refine st_q rfl rfl rfl ?_ | refine Z8v rfl (st_q rfl rfl rfl ?_) | refine Z8w rfl ?_ | refine Z8x rfl ?_))
          rw [hn]
          (repeat (first | refine st_q rfl rfl rfl ?_ | refine Z8v rfl (st_q rfl rfl rfl ?_) | refine Z8w rfl ?_ | refine Z8x rfl ?_ | (refine Z8y ?_; (repeat (first | refine Z9v rfl ?_ | refine Z9w ?_)); refine Z9u ?_) | refine awp_seq ?_ | refine Zbm (fun _ _ => rfl) ?_ | refine Z8h ?_ | refine Zbn (fun _ _ => rfl) ?_ | refine Zbo (fun _ _ => rfl) ?_ | refine Z8f (t := true) rfl (fun _ => ?_) (fun e => by cases e) | refine Z8f (t := false) rfl (fun e => by cases e) (fun _ => ?_)))
          (refine Z9y (keep := [1, 2, 7, 8]) ?_; ((repeat (first | refine Z9v rfl ?_ | refine Z9w ?_)); refine Z9u ?_))
          refine Zbp ?_
          (repeat (refine st_q rfl rfl rfl ?_))
          rw [show IntKind.wrap .i64 ((j : Int) + 1) = ((j + 1 : Nat) : Int) by rw [w64 _ (by omega) (by omega)]; omega]
          (refine Z8y ?_; (repeat (first | refine Z9v rfl ?_ | refine Z9w ?_)); refine Z9u ?_)
          exact ⟨_, rows.length - (j + 1), HSub.refl _, ⟨j + 1, rfl, rfl, by omega, hE, rfl⟩, by omega⟩
      · have hx2 : ¬ (x = 0 ∧ rows[j].null = true) := fun h => hx h.1
        rw [if_neg hx2, if_pos hx] at hE
        (repeat (first | refine st_q rfl rfl rfl ?_ | refine Z8v rfl (st_q rfl rfl rfl ?_) | refine Z8w rfl ?_ | refine Z8x rfl ?_ | (refine Z8y ?_; (repeat (first | refine Z9v rfl ?_ | refine Z9w ?_)); refine Z9u ?_) | refine awp_seq ?_ | refine Zbm (fun _ _ => rfl) ?_ | refine Z8h ?_ | refine Zbn (fun _ _ => rfl) ?_ | refine Zbo (fun _ _ => rfl) ?_ | refine Z8f (t := true) rfl (fun _ => ?_) (fun e => by cases e) | refine Z8f (t := false) rfl (fun e => by cases e) (fun _ => ?_)))
        (rw [show decide (((x : Nat) : Int) = 0) = false from decide_eq_false (by omega)])
        (repeat (first | refine st_q rfl rfl rfl ?_ | refine Z8v rfl (st_q rfl rfl rfl ?_) | refine Z8w rfl ?_ | refine Z8x rfl ?_ | (refine Z8y ?_; (repeat (first | refine Z9v rfl ?_ | refine Z9w ?_)); refine Z9u ?_) | refine awp_seq ?_ | refine Zbm (fun _ _ => rfl) ?_ | refine Z8h ?_ | refine Zbn (fun _ _ => rfl) ?_ | refine Zbo (fun _ _ => rfl) ?_ | refine Z8f (t := true) rfl (fun _ => ?_) (fun e => by cases e) | refine Z8f (t := false) rfl (fun e => by cases e) (fun _ => ?_)))
        (rw [show decide (((x : Nat) : Int) ≠ 0) = true from decide_eq_true (by omega)])
        (repeat (first | refine st_q rfl rfl rfl ?_ | refine Z8v rfl (st_q rfl rfl rfl ?_) | refine Z8w rfl ?_ | refine Z8x rfl ?_ | (refine Z8y ?_; (repeat (first | refine Z9v rfl ?_ | refine Z9w ?_)); refine Z9u ?_) | refine awp_seq ?_ | refine Zbm (fun _ _ => rfl) ?_ | refine Z8h ?_ | refine Zbn (fun _ _ => rfl) ?_ | refine Zbo (fun _ _ => rfl) ?_ | refine Z8f (t := true) rfl (fun _ => ?_) (fun e => by cases e) | refine Z8f (t := false) rfl (fun e => by cases e) (fun _ => ?_)))
        refine Z8d ?_
        rw [← hE, if_pos hx] at hX
        subst hX
        exact Zau rfl (VRle.tup (VRle.cons (VRle.nilF _ _) (VRle.refl _))) (HSub.refl _) ⟨rfl, rfl⟩
    · rw [List.drop_of_length_le (by omega), rowsE] at hE
      rw [if_neg (by omega)] at hX
      have hok := Z11w hE.symm
      have hat := Z11f t h0
      have hn100 : (Zm3 t).length ≤ 100 := by
        rw [Zm3, if_pos h0, Zm0]
        have := (Znc t _ _ h0).2.2
        omega
      (repeat (first | refine st_q rfl rfl rfl ?_ | refine Z8v rfl (st_q rfl rfl rfl ?_) | refine Z8w rfl ?_ | refine Z8x rfl ?_ | (refine Z8y ?_; (repeat (first | refine Z9v rfl ?_ | refine Z9w ?_)); refine Z9u ?_) | refine awp_seq ?_ | refine Zbm (fun _ _ => rfl) ?_ | refine Z8h ?_ | refine Zbn (fun _ _ => rfl) ?_ | refine Zbo (fun _ _ => rfl) ?_ | refine Z8f (t := true) rfl (fun _ => ?_) (fun e => by cases e) | refine Z8f (t := false) rfl (fun e => by cases e) (fun _ => ?_)))
      rw [List.length_map]
      generalize Zm3 t = l at *
      refine Z9l rfl (Z0.fit_iff.1 rfl) (by omega) (by omega) (by omega) (by omega) fun b hb => ?_
      rw [Int.toNat_natCast]
      (repeat (refine st_q rfl rfl rfl ?_))
      (refine Z8y ?_; (repeat (first | refine Z9v rfl ?_ | refine Z9w ?_)); refine Z9u ?_)
      refine awp_seq ?_
      refine awp_seq ?_
      refine Zbm (fun _ _ => rfl) ?_
      (repeat (refine st_q rfl rfl rfl ?_))
      (refine Z8y ?_; (repeat (first | refine Z9v rfl ?_ | refine Z9w ?_)); refine Z9u ?_)
      refine Z8h ?_
      generalize hY : Z11t l rows (List.replicate l.length col0) = Y at hX
      have hz : ∀ x ∈ List.replicate l.length col0, x.Sm := fun x hx => by
        rw [List.eq_of_mem_replicate hx]
        exact ⟨by simp [col0], by simp [col0], by simp [col0], by simp [col0], by simp [col0]⟩
      refine Zaa (fun m F σ' => ∃ (j : Nat) (ws : List Z0) (cs : List Col) (β : Zc), F = fset 1 (some (.slc 5 (Zm4 rows) false)) (fset 7 (some (.slc 9 (l.map encR) false)) (fset 10 (some (.arr 5 b 0 l.length)) (fset 11 (some (.int .i64 (j : Int))) Z27))) ∧
        (b, Zb.cells 5 ws) :: (β ++ σ) = σ' ∧ ColsG ws cs β ∧ cs.length = l.length ∧ (∀ x ∈ cs, x.Sm) ∧ j ≤ rows.length ∧ Z11t l (rows.drop j) cs = Y ∧ m = rows.length - j) (n := rows.length)
        ⟨0, _, _, [], rfl, rfl, ColsG.nil l.length, List.length_replicate, hz, by omega, hY, rfl⟩ ?_
      rintro m F σ' ⟨j, ws, cs, β, rfl, rfl, hG, hcl, hS, hj, hYj, rfl⟩
      (repeat (first | refine st_q rfl rfl rfl ?_ | refine Z8v rfl (st_q rfl rfl rfl ?_) | refine Z8w rfl ?_ | refine Z8x rfl ?_ | (refine Z8y ?_; (repeat (first | refine Z9v rfl ?_ | refine Z9w ?_)); refine Z9u ?_) | refine awp_seq ?_ | refine Zbm (fun _ _ => rfl) ?_ | refine Z8h ?_ | refine Zbn (fun _ _ => rfl) ?_ | refine Zbo (fun _ _ => rfl) ?_ | refine Z8f (t := true) rfl (fun _ => ?_) (fun e => by cases e) | refine Z8f (t := false) rfl (fun e => by cases e) (fun _ => ?_)))
      rw [show ((Zm4 rows).length : Int) = (rows.length : Int) by rw [Zm8]]
      refine Za3 (p := (j : Int) < (rows.length : Int)) rfl (fun h5 => ?_) (fun h5 => ?_)
      · have hjl : j < rows.length := by omega
        have hm := List.getElem_mem hjl
        have hxv : (Zm4 rows)[((j : Nat) : Int).toNat]? = some (encV rows[j]) := Zm9 (by rw [Int.toNat_natCast, List.getElem?_eq_getElem hjl])
        have hput := c_put l rows[j] (hr _ hm) t 0 hat hTok (hok _ hm).1 ws cs β b σ hG hcl (by omega) hS
        rw [Zm6] at hxv
        rw [Zm6, hcl] at hput
        rw [List.drop_eq_getElem_cons hjl, Z11t] at hYj
        refine Zbn (fun _ _ => rfl) ?_
        refine awp_seq ?_
        refine Z8h ?_
        refine Z9z ?_
        (repeat (refine st_q rfl rfl rfl ?_))
        refine Z93 rfl (by omega) hxv ?_
        (repeat (refine st_q rfl rfl rfl ?_))
        obtain ⟨wsx, βx, hx⟩ := ColsG.ex (putF l 0 rows[j] cs).1
        refine Z9s rfl hput ⟨_, _, wsx, βx, hx, rfl, rfl⟩ ?_
        rintro r σ2 ⟨ws2, β5, hG2, rfl, rfl⟩
        (repeat (refine st_q rfl rfl rfl ?_))
        (refine Z8y ?_; (repeat (first | refine Z9v rfl ?_ | refine Z9w ?_)); refine Z9u ?_)
        have hlen2 := Z11r l rows[j] 0 cs
        have hSm2 := Z11s l rows[j] 0 cs hS
        generalize putF l 0 rows[j] cs = pr at hYj hG2 hlen2 hSm2
        obtain ⟨cs2, ok⟩ := pr
        cases ok with
        | true =>
          rw [if_pos rfl] at hYj
          (repeat (first | refine st_q rfl rfl rfl ?_ | refine Z8v rfl (st_q rfl rfl rfl ?_) | refine Z8w rfl ?_ | refine Z8x rfl ?_ | (refine Z8y ?_; (repeat (first | refine Z9v rfl ?_ | refine Z9w ?_)); refine Z9u ?_) | refine awp_seq ?_ | refine Zbm (fun _ _ => rfl) ?_ | refine Z8h ?_ | refine Zbn (fun _ _ => rfl) ?_ | refine Zbo (fun _ _ => rfl) ?_ | refine Z8f (t := true) rfl (fun _ => ?_) (fun e => by cases e) | refine Z8f (t := false) rfl (fun e => by cases e) (fun _ => ?_)))
          refine Zbp ?_
          (repeat (refine st_q rfl rfl rfl ?_))
          rw [show IntKind.wrap .i64 ((j : Int) + 1) = ((j + 1 : Nat) : Int) by rw [w64 _ (by omega) (by omega)]; omega]
          (refine Z8y ?_; (repeat (first | refine Z9v rfl ?_ | refine Z9w ?_)); refine Z9u ?_)
          exact ⟨_, rows.length - (j + 1), HSub.refl _, ⟨j + 1, ws2, cs2, β5, rfl, rfl, hG2, by rw [← hcl, ← hlen2], hSm2, by omega, hYj, rfl⟩, by omega⟩
        | false =>
          rw [if_neg (by simp)] at hYj
          subst hYj
          rw [if_neg (by simp)] at hX
          subst hX
          (repeat (first | refine st_q rfl rfl rfl ?_ | refine Z8v rfl (st_q rfl rfl rfl ?_) | refine Z8w rfl ?_ | refine Z8x rfl ?_ | (refine Z8y ?_; (repeat (first | refine Z9v rfl ?_ | refine Z9w ?_)); refine Z9u ?_) | refine awp_seq ?_ | refine Zbm (fun _ _ => rfl) ?_ | refine Z8h ?_ | refine Zbn (fun _ _ => rfl) ?_ | refine Zbo (fun _ _ => rfl) ?_ | refine Z8f (t := true) rfl (fun _ => ?_) (fun e => by cases e) | refine Z8f (t := false) rfl (fun e => by cases e) (fun _ => ?_)))
          refine Z8d ?_
          exact Zau rfl (VRle.tup (VRle.cons (VRle.nilF _ _) (VRle.refl _))) (HSub.of_sublist (List.Sublist.cons _ (List.sublist_append_right _ _))) ⟨rfl, rfl⟩
      · rw [List.drop_of_length_le (by omega), Z11t] at hYj
        subst hYj
        rw [if_pos rfl] at hX
        subst hX
        (repeat (first | refine st_q rfl rfl rfl ?_ | refine Z8v rfl (st_q rfl rfl rfl ?_) | refine Z8w rfl ?_ | refine Z8x rfl ?_ | (refine Z8y ?_; (repeat (first | refine Z9v rfl ?_ | refine Z9w ?_)); refine Z9u ?_) | refine awp_seq ?_ | refine Zbm (fun _ _ => rfl) ?_ | refine Z8h ?_ | refine Zbn (fun _ _ => rfl) ?_ | refine Zbo (fun _ _ => rfl) ?_ | refine Z8f (t := true) rfl (fun _ => ?_) (fun e => by cases e) | refine Z8f (t := false) rfl (fun e => by cases e) (fun _ => ?_)))
        refine Zbx (by simpa using hG.freeze [] (by simp) b σ) ?_
        have e : l.length = (cs.map encC).length := by simp [hcl]
        rw [e]
        refine Zb1 (d := 4) rfl ?_
        refine Z8d ?_
        exact ares rfl (HSub.refl _) ⟨rfl, rfl⟩
  · rw [Z11u, if_pos h0] at hX
    subst hX
    refine Za3 (p := ((Zlw t : Nat) : Int) ≠ 0) rfl (fun _ => ?_) (fun h => absurd (by omega) h)
    (repeat (first | refine st_q rfl rfl rfl ?_ | refine Z8v rfl (st_q rfl rfl rfl ?_) | refine Z8w rfl ?_ | refine Z8x rfl ?_ | (refine Z8y ?_; (repeat (first | refine Z9v rfl ?_ | refine Z9w ?_)); refine Z9u ?_) | refine awp_seq ?_ | refine Zbm (fun _ _ => rfl) ?_ | refine Z8h ?_ | refine Zbn (fun _ _ => rfl) ?_ | refine Zbo (fun _ _ => rfl) ?_ | refine Z8f (t := true) rfl (fun _ => ?_) (fun e => by cases e) | refine Z8f (t := false) rfl (fun e => by cases e) (fun _ => ?_)))
    refine Z8d ?_
    exact Zau rfl (VRle.tup (VRle.cons (VRle.nilF _ _) (VRle.refl _))) (HSub.refl _) ⟨rfl, rfl⟩
end Go.Abs

